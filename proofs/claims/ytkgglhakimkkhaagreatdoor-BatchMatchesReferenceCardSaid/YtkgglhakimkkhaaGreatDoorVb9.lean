/-
  Make's rounds and challenges: mathematics, and the rows that grow.
  The program's Make, by contract.
-/
import Derived.Test.YtkgglhakimkkhaaGreatDoorVb7
import Derived.Test.YtkgglhakimkkhaaGreatDoorVf2
import Derived.Deep.AppendLies
import Derived.Test.YtkgglhakimkkhaaGreatDoorBa4
import Derived.Deep.RegionHeld3
namespace Go.Proofs.YtkgglhakimkkhaaGreatDoor
open Go.RowKit

structure MkQ where
  R : List (List E)
  C : List E
  st : List Nat
  T : List (List E)
def mkStep (s : MkQ) : MkQ := ⟨s.R ++ [rndE s.T trmB], s.C ++ [coT (rdT s.st (rndE s.T trmB))], rdT s.st (rndE s.T trmB), bndE s.T (coT (rdT s.st (rndE s.T trmB)))⟩
def mkIt (st : List Nat) (T : List (List E)) : Nat → MkQ
  | 0 => ⟨[], [], st, T⟩
  | j + 1 => mkStep (mkIt st T j)
theorem mkIt_lenR (st : List Nat) (T : List (List E)) : ∀ j, (mkIt st T j).R.length = j
  | 0 => rfl
  | j + 1 => by
    show (_ ++ [_]).length = _
    rw [List.length_append, mkIt_lenR st T j]
    rfl
theorem mkIt_lenC (st : List Nat) (T : List (List E)) : ∀ j, (mkIt st T j).C.length = j
  | 0 => rfl
  | j + 1 => by
    show (_ ++ [_]).length = _
    rw [List.length_append, mkIt_lenC st T j]
    rfl
theorem mkIt_T (st : List Nat) (T : List (List E)) : ∀ j, (mkIt st T j).T = bndAll T (mkIt st T j).C
  | 0 => rfl
  | j + 1 => by
    show bndE (mkIt st T j).T _ = bndAll T ((mkIt st T j).C ++ [_])
    unfold bndAll
    rw [List.foldl_append, mkIt_T st T j]
    rfl
theorem mkIt_ok (st : List Nat) (T : List (List E)) (h : StOk st) : ∀ j, StOk (mkIt st T j).st
  | 0 => h
  | _ + 1 => rdT_ok _ _
theorem mkIt_lenT (st : List Nat) (T : List (List E)) (j : Nat) : (mkIt st T j).T.length = T.length := by rw [mkIt_T, bndAll_length]
theorem mkIt_all (st : List Nat) (T : List (List E)) (n j : Nat) (h : AllLen T (2 ^ n)) (hj : j ≤ n) : AllLen (mkIt st T j).T (2 ^ (n - j)) := by
  have := bndAll_len n (mkIt st T j).C T (by rw [mkIt_lenC]; exact hj) h
  rwa [mkIt_lenC, ← mkIt_T] at this
theorem own_grown {base n size : Nat} {e : TypeId} {v : Value} {xs : List Value} {X W : World} {row : Option Nat} (h : X.ownsRow base e size v n xs) (hg : X.grownBy W row) (hne : ∀ g, v.ownBlock = some g → row ≠ some g) : W.ownsRow base e size v n xs := by
  have hb := fun g (hv : v.ownBlock = some g) => (own_block h hv).2
  obtain ⟨h1, h2⟩ := h
  refine ⟨h1, h2.imp id ?_⟩
  rintro ⟨g, cap, cur, rfl, q2, q3, q4⟩
  exact ⟨g, cap, cur, rfl, q2, (hg.block g (hb g rfl) (fun e => hne g rfl e.symm)).trans q3, q4⟩
def RowM (N : Nat) (w : World) (u c : Value) (ts : List (List E)) : Prop := ∃ us : List Value, w.ownsRow N 22 1 u ts.length us ∧ us.length = ts.length ∧ ∀ (k : Nat) x t, us[k]? = some x → ts[k]? = some t → ∃ lo hi, N ≤ lo ∧ hi ≤ w.heap.size ∧ Outside lo hi u ∧ Outside lo hi c ∧ ExtS lo hi w x t
theorem RowM.rowT {N : Nat} {w : World} {u c : Value} {ts : List (List E)} (h : RowM N w u c ts) : RowT N w u ts := by
  obtain ⟨us, h1, h2, h3⟩ := h
  refine ⟨us, h1, h2, fun k x t hx ht => ?_⟩
  obtain ⟨lo, hi, q1, q2, q3, q4, q5⟩ := h3 k x t hx ht
  exact ⟨lo, hi, q1, q2, q3, q5⟩
structure MkS (M N : Nat) (w0 : World) (vp : Value) (R : List (List E)) (u : Value) (cs : List E) (c : Value) (T : List (List E)) (vt : Value) (X : World) : Prop where
  hB : Below w0.heap.size w0 X
  h0 : w0.heap.size ≤ N
  hN : N ≤ X.heap.size
  row : RowM N X u c R
  own : OwE N X c cs
  dis : ∀ g, u.ownBlock = some g → c.ownBlock ≠ some g
  tab : ∃ L H, H ≤ X.heap.size ∧ TabS L H X vt T ∧ Outside L H u ∧ Outside L H c
  hM : M ≤ N
  trm : TrmS 0 M X vp trmB
variable {M N : Nat} {vp : Value} {w0 X W : World} {R : List (List E)} {u c vt : Value} {cs : List E} {T : List (List E)}
theorem MkS.keep (h : MkS M N w0 vp R u cs c T vt X) (hb : Below X.heap.size X W) : MkS M N w0 vp R u cs c T vt W := by
  obtain ⟨q1, q2, q3, ⟨us, r1, r2, r3⟩, q5, q6, ⟨L, H, t1, t2, t3⟩, q8, q9⟩ := h
  refine ⟨q1.trans (hb.mono q1.size), q2, Nat.le_trans q3 hb.size, ⟨us, own_below r1 (Nat.le_refl _) hb, r2, fun k x t hx ht => ?_⟩, q5.keep hb, q6, ⟨L, H, Nat.le_trans t1 hb.size, t2.keep hb, t3⟩, q8, q9.keep hb⟩
  obtain ⟨lo, hi, p1, p2, p3, p4, p5⟩ := r3 k x t hx ht
  exact ⟨lo, hi, p1, Nat.le_trans p2 hb.size, p3, p4, Rd.keep p5 hb⟩
theorem MkS.put' {g : Nat} (h : MkS M N w0 vp R u cs c T vt X) (hp : Put X W g) (hg : g < N) (h0 : w0.heap.size ≤ g) {vt' : Value} {T' : List (List E)} (ht : ∃ L H, H ≤ W.heap.size ∧ TabS L H W vt' T' ∧ Outside L H u ∧ Outside L H c) (hr : TrmS 0 M W vp trmB) : MkS M N w0 vp R u cs c T' vt' W := by
  obtain ⟨q1, q2, q3, ⟨us, r1, r2, r3⟩, q5, q6, -, q8, -⟩ := h
  refine ⟨below_put q1 hp h0, q2, by rw [hp.size]; exact q3, ⟨us, own_put r1 hp hg, r2, fun k x t hx ht => ?_⟩, own_put q5 hp hg, q6, ht, q8, hr⟩
  obtain ⟨lo, hi, p1, p2, p3, p4, p5⟩ := r3 k x t hx ht
  exact ⟨lo, hi, p1, by rw [hp.size]; exact p2, p3, p4, hp.rd p5 (.inl (by omega))⟩
theorem tsc_kind (st : List Nat) (cnt : Nat) (hst : st.length = 32) (i : Nat) (v : Value) (h : (tsc st cnt)[i]? = some v) : (∃ x : Nat, v = .int .u8 x) ∨ (i = 32 ∧ v = .int .u64 cnt) := by
  unfold tsc at h
  by_cases hi : i < 32
  · rw [List.getElem?_append_left (by rw [byc_length]; omega)] at h
    unfold byc at h
    rw [List.getElem?_map, Option.map_eq_some_iff] at h
    obtain ⟨x, -, rfl⟩ := h
    exact .inl ⟨x, rfl⟩
  · rw [List.getElem?_append_right (by rw [byc_length]; omega), byc_length, hst] at h
    obtain rfl : i = 32 := by
      have := (List.getElem?_eq_some_iff.1 h).1
      simp only [List.length_cons, List.length_nil] at this
      omega
    simp at h
    exact .inr ⟨rfl, h.symm⟩
theorem rd_putK {lo hi g size n : Nat} {v : Value} {cl : List Value} {st : List Nat} {cnt : Nat} (h : Rd lo hi size X v n cl) (hp : Put X W g) (hb : Blk X g 60 (tsc st cnt).toArray) (hbad : ∀ off : Nat, 0 < n → (∀ (j : Nat) (x : Value), cl[j]? = some x → (tsc st cnt)[off + j]? = some x) → False) : Rd lo hi size W v n cl := by
  obtain ⟨h1, h2, A, cap, h3, h4, h5⟩ := h
  refine ⟨h1, h2, A, cap, h3, h4, fun h0 => ?_⟩
  obtain ⟨g', off, q1, q2, q3, q4, q5⟩ := h5 h0
  have hne : g' ≠ g := by
    rintro rfl
    refine hbad off h0 fun j x hx => ?_
    have a0 := (hb.cell (off + j)).symm.trans (q5 j x hx)
    simpa only [List.getElem?_toArray] using a0
  refine ⟨g', off, q1, q2, q3, by rw [hp.size]; exact q4, fun j x hx => ?_⟩
  rw [← q5 j x hx]
  unfold World.cell?
  rw [hp.other g' hne]
theorem two_u64 {st : List Nat} {cnt off : Nat} {a b : Int} (hst : st.length = 32) (h0 : (tsc st cnt)[off]? = some (.int .u64 a)) (h1 : (tsc st cnt)[off + 1]? = some (.int .u64 b)) : False := by
  rcases tsc_kind st cnt hst _ _ h0 with ⟨x, hx⟩ | ⟨hi, -⟩
  · cases hx
  · rcases tsc_kind st cnt hst _ _ h1 with ⟨x, hx⟩ | ⟨hi', -⟩
    · cases hx
    · omega
theorem ext_putT {lo hi g : Nat} {v : Value} {y : List E} {st : List Nat} {cnt : Nat} (h : ExtS lo hi X v y) (hp : Put X W g) (hst : st.length = 32) (hb : Blk X g 60 (tsc st cnt).toArray) : ExtS lo hi W v y :=
  rd_putK h hp hb fun off h0 hc => by
    obtain ⟨e, es, rfl⟩ := List.exists_cons_of_length_pos h0
    exact two_u64 hst (hc 0 _ rfl) (hc 1 _ rfl)
theorem tab_putT {lo hi g : Nat} {v : Value} {ts : List (List E)} {st : List Nat} {cnt : Nat} (h : TabS lo hi X v ts) (hp : Put X W g) (hst : st.length = 32) (hb : Blk X g 60 (tsc st cnt).toArray) : TabS lo hi W v ts := by
  obtain ⟨us, r1, r2, r3⟩ := h
  refine ⟨us, r1, rd_putK r2 hp hb fun off h0 hc => ?_, fun k x t hx ht => ext_putT (r3 k x t hx ht) hp hst hb⟩
  obtain ⟨x, hx⟩ : ∃ x, us[0]? = some x := ⟨_, List.getElem?_eq_getElem (by omega)⟩
  obtain ⟨t, ht⟩ : ∃ t, ts[0]? = some t := ⟨_, List.getElem?_eq_getElem h0⟩
  obtain ⟨A', c', rfl⟩ := Rd.len (r3 0 x t hx ht)
  rcases tsc_kind st cnt hst _ _ (hc 0 _ hx) with ⟨x, hx⟩ | ⟨-, hx⟩ <;> cases hx
theorem trm_putT {lo hi g : Nat} {v : Value} {ps : List Trm} {st : List Nat} {cnt : Nat} (h : TrmS lo hi X v ps) (hp : Put X W g) (hst : st.length = 32) (hb : Blk X g 60 (tsc st cnt).toArray) : TrmS lo hi W v ps := by
  obtain ⟨us, r1, r2, r3⟩ := h
  refine ⟨us, r1, rd_putK r2 hp hb fun off h0 hc => ?_, fun k x t hx ht => rd_putK (r3 k x t hx ht) hp hb fun off h0 hc => ?_⟩
  · obtain ⟨p, ps', rfl⟩ := List.exists_cons_of_length_pos h0
    obtain ⟨x, us', rfl⟩ := List.exists_cons_of_length_pos (l := us) (by rw [r1]; exact h0)
    exact two_u64 hst (hc 0 _ rfl) (hc 1 _ rfl)
  · obtain ⟨z, zs, hz⟩ := List.exists_cons_of_length_pos h0
    rw [hz] at hc
    rcases tsc_kind st cnt hst _ _ (hc 0 _ rfl) with ⟨x, hx⟩ | ⟨-, hx⟩ <;> cases hx
theorem trm_other {lo hi : Nat} {w w' : World} {v : Value} {ps : List Trm} (h : TrmS lo hi w v ps) (hs : w.heap.size ≤ w'.heap.size) (hb : ∀ g, lo ≤ g → g < hi → g < w.heap.size → w'.heap[g]? = w.heap[g]?) : TrmS lo hi w' v ps := by
  obtain ⟨us, h1, h2, h3⟩ := h
  exact ⟨us, h1, h2.other hs hb, fun k u t hu ht => (h3 k u t hu ht).other hs hb⟩
theorem MkS.putT {g : Nat} {st : List Nat} {cnt : Nat} (h : MkS M N w0 vp R u cs c T vt X) (hp : Put X W g) (hg : g < N) (h0 : w0.heap.size ≤ g) (hst : st.length = 32) (hb : Blk X g 60 (tsc st cnt).toArray) : MkS M N w0 vp R u cs c T vt W := by
  obtain ⟨L, H, t1, t2, t3⟩ := h.tab
  exact h.put' hp hg h0 ⟨L, H, by rw [hp.size]; exact t1, tab_putT t2 hp hst hb, t3⟩ (trm_putT h.trm hp hst hb)
theorem MkS.mix {V Y Z : World} {g q : Nat} {st : List Nat} {cnt : Nat} (h : MkS M N w0 vp R u cs c T vt V) (h1 : Below V.heap.size V X) (h2 : Put X Y g) (h3 : Put Y Z q) (hq : V.heap.size ≤ q) (hg : g < N) (h0 : w0.heap.size ≤ g) (hst : st.length = 32) (hb : Blk X g 60 (tsc st cnt).toArray) : MkS M N w0 vp R u cs c T vt Z := by
  have hgV : g < V.heap.size := Nat.lt_of_lt_of_le hg h.hN
  have hgX : g < X.heap.size := Nat.lt_of_lt_of_le hgV h1.size
  have hZX : Z.heap.size = X.heap.size := h3.size.trans h2.size
  obtain ⟨X1, hX1⟩ : ∃ X1 : World, X1 = { Z with heap := Z.heap.setIfInBounds g (X.heap[g]'hgX) } := ⟨_, rfl⟩
  have hs1 : X1.heap.size = X.heap.size := by rw [hX1, ← hZX]; exact Array.size_setIfInBounds
  have hgg : X1.heap[g]? = X.heap[g]? := by rw [hX1]; simp [hZX, hgX]
  have hne : ∀ k, k ≠ g → X1.heap[k]? = Z.heap[k]? := fun k hk => by rw [hX1]; exact Array.getElem?_setIfInBounds_ne (fun e => hk e.symm)
  have hB : Below V.heap.size V X1 := ⟨by rw [hX1]; exact (h3.os.trans h2.os).trans h1.os, by rw [hX1]; exact (h3.tape.trans h2.tape).trans h1.tape, by rw [hX1]; exact (h3.output.trans h2.output).trans h1.output, by rw [hs1]; exact h1.size, fun k hk => by
    by_cases hkg : k = g
    · subst hkg; rw [hgg]; exact h1.block k hk
    · rw [hne k hkg, h3.other k (by omega), h2.other k hkg]; exact h1.block k hk⟩
  have hP : Put X1 Z g := ⟨by rw [hX1], by rw [hX1], by rw [hX1], hZX.trans hs1.symm, fun k hk => (hne k hk).symm⟩
  exact (h.keep hB).putT hP hg h0 hst (hgg.trans hb)
theorem MkS.appR {lo hi : Nat} {x : Value} {y : List E} (h : MkS M N w0 vp R u cs c T vt X) (hE : ExtS lo hi X x y) (hlo : N ≤ lo) (hhi : hi ≤ X.heap.size) (ou : Outside lo hi u) (oc : Outside lo hi c) :
    ∃ us, X.ownsRow N 22 1 u R.length us ∧ ∀ v' w', w'.ownsRow N 22 1 v' (R.length + 1) (us ++ [x]) → X.grownBy w' u.ownBlock → Below N X w' → (v'.ownBlock = u.ownBlock ∨ v'.ownBlock = some X.heap.size) → MkS M N w0 vp (R ++ [y]) v' cs c T vt w' := by
  obtain ⟨q1, q2, q3, ⟨us, r1, r2, r3⟩, q5, q6, ⟨L, H, t1, t2, t3, t4⟩, q8, q9⟩ := h
  refine ⟨us, r1, fun v' w' hown hgrow hB hob => ⟨q1.trans (hB.mono q2), q2, Nat.le_trans q3 hB.size, ⟨us ++ [x], by simpa using hown, by simp [r2], fun k z t' hz ht' => ?_⟩, own_grown q5 hgrow (fun g hg e => q6 g e hg), ?_, ⟨L, H, Nat.le_trans t1 hB.size, tabs_kept t2 (Kept.of_grown hgrow t3 t1) hB.size, t3.next hob t1, t4⟩, q8, trm_other q9 hB.size fun g _ h2 _ => hB.block g (by omega)⟩⟩
  · have hkept : ∀ lo hi, hi ≤ X.heap.size → Outside lo hi u → Kept lo hi X w' := fun lo hi hh ho => Kept.of_grown hgrow ho hh
    by_cases hkl : k < us.length
    · rw [List.getElem?_append_left hkl] at hz
      rw [List.getElem?_append_left (by omega)] at ht'
      obtain ⟨lo', hi', p1, p2, p3, p4, p5⟩ := r3 k z t' hz ht'
      exact ⟨lo', hi', p1, Nat.le_trans p2 hB.size, p3.next hob p2, p4, rd_kept p5 (hkept _ _ p2 p3) hB.size⟩
    · have hkk : k < (us ++ [x]).length := (List.getElem?_eq_some_iff.1 hz).1
      simp only [List.length_append, List.length_cons, List.length_nil] at hkk
      obtain rfl : k = us.length := by omega
      rw [List.getElem?_append_right (Nat.le_refl _), Nat.sub_self] at hz
      rw [List.getElem?_append_right (by omega), r2, Nat.sub_self] at ht'
      simp only [List.getElem?_cons_zero, Option.some.injEq] at hz ht'
      subst hz
      subst ht'
      exact ⟨lo, hi, hlo, Nat.le_trans hhi hB.size, ou.next hob hhi, oc, rd_kept hE (hkept _ _ hhi ou) hB.size⟩
  · intro g hg e
    rcases hob with hob | hob
    · exact q6 g (by rw [← hob]; exact hg) e
    · rw [hob] at hg
      cases hg
      exact absurd (own_block q5 e).2 (Nat.lt_irrefl _)
theorem MkS.appC {y : E} (h : MkS M N w0 vp R u cs c T vt X) : ∀ v' w', OwE N w' v' (cs ++ [y]) → X.grownBy w' c.ownBlock → Below N X w' → (v'.ownBlock = c.ownBlock ∨ v'.ownBlock = some X.heap.size) → MkS M N w0 vp R u (cs ++ [y]) v' T vt w' := by
  obtain ⟨q1, q2, q3, ⟨us, r1, r2, r3⟩, q5, q6, ⟨L, H, t1, t2, t3, t4⟩, q8, q9⟩ := h
  intro v' w' hown hgrow hB hob
  refine ⟨q1.trans (hB.mono q2), q2, Nat.le_trans q3 hB.size, ⟨us, own_grown r1 hgrow (fun g hg e => q6 g hg e), r2, fun k z t' hz ht' => ?_⟩, hown, ?_, ⟨L, H, Nat.le_trans t1 hB.size, tabs_kept t2 (Kept.of_grown hgrow t4 t1) hB.size, t3, t4.next hob t1⟩, q8, trm_other q9 hB.size fun g _ h2 _ => hB.block g (by omega)⟩
  · obtain ⟨lo', hi', p1, p2, p3, p4, p5⟩ := r3 k z t' hz ht'
    exact ⟨lo', hi', p1, Nat.le_trans p2 hB.size, p3, p4.next hob p2, rd_kept p5 (Kept.of_grown hgrow p4 p2) hB.size⟩
  · intro g hg e
    rcases hob with hob | hob
    · exact q6 g hg (by rw [← hob]; exact e)
    · rw [hob] at e
      cases e
      exact absurd (own_block r1 hg).2 (Nat.lt_irrefl _)
def Left (X W : World) (u : Value) : Prop := (∀ g t cells, Blk X g t cells → u.ownBlock ≠ some g → Blk W g t cells) ∧ X.heap.size ≤ W.heap.size ∧ ∀ k, k < X.heap.size → u.ownBlock ≠ some k → W.heap[k]? = X.heap[k]?
theorem left_of {X W : World} {u : Value} (h : X.grownBy W u.ownBlock) : Left X W u := ⟨fun _ _ _ hb hne => grown_blk h hb (fun e => hne e.symm), h.size, fun k hk hne => h.block k hk (fun e => hne e.symm)⟩
theorem Left.low {t : TypeId} {cells : Array Value} {g : Nat} (h : Left X W u) (hm : MkS M N w0 vp R u cs c T vt X) (hb : Blk X g t cells) (hg : g < N) : Blk W g t cells := by
  obtain ⟨us, r1, -⟩ := hm.row
  exact h.1 g t cells hb (fun e => absurd (own_block r1 e).1 (by omega))
theorem Left.lowC {t : TypeId} {cells : Array Value} {g : Nat} (h : Left X W c) (hm : MkS M N w0 vp R u cs c T vt X) (hb : Blk X g t cells) (hg : g < N) : Blk W g t cells :=
  h.1 g t cells hb (fun e => absurd (own_block hm.own e).1 (by omega))
theorem MkS.uLt {g : Nat} (hm : MkS M N w0 vp R u cs c T vt X) (hg : X.heap.size ≤ g) : u.ownBlock ≠ some g := fun e => by
  obtain ⟨us, r1, -⟩ := hm.row
  exact absurd (own_block r1 e).2 (by omega)
theorem MkS.cLt {g : Nat} (hm : MkS M N w0 vp R u cs c T vt X) (hg : X.heap.size ≤ g) : c.ownBlock ≠ some g := fun e => absurd (own_block hm.own e).2 (by omega)
theorem MkS.outR {lo hi : Nat} (hm : MkS M N w0 vp R u cs c T vt X) (hg : X.heap.size ≤ lo) : Outside lo hi u ∧ Outside lo hi c := ⟨fun b hb => .inl (by
  obtain ⟨us, r1, -⟩ := hm.row
  have := (own_block r1 hb).2
  omega), fun b hb => .inl (by have := (own_block hm.own hb).2; omega)⟩
theorem wpList_mkR {ops : Array Oper} {rest : List Oper} {o : Oper} {a : Act} {Q : Exit → Act → World → Prop} {n lo hi : Nat} {x : Value} {y : List E} (hgd : o.guard = none) (s p : Operand)
    (ho : o.op = .call { callee := .builtin .append, args := #[s, p], argTypes := #[40, 40] }) (hs : a.eval s = u) (hx : a.eval p = .slice (some ⟨n, 0, none⟩) 1 1) (h : MkS M N w0 vp R u cs c T vt X) (hsrc : Blk X n 22 #[x]) (hE : ExtS lo hi X x y) (hlo : N ≤ lo) (hhi : hi ≤ X.heap.size) (ou : Outside lo hi u) (oc : Outside lo hi c) (hk : R.length ≤ 100000)
    (hK : ∀ v' w', MkS M N w0 vp (R ++ [y]) v' cs c T vt w' → Left X w' u → wpList Tryz.prog ops Q rest (a.put o.dst v') w') : wpList Tryz.prog ops Q (o :: rest) a X := by
  obtain ⟨i0, hi0, hz0, hz1, hz2⟩ := info_parts sl_info
  obtain ⟨us, h1, hM⟩ := h.appR hE hlo hhi ou oc
  obtain ⟨A, cp, rfl⟩ := Rd.len hE
  exact wpList_app3 hgd s p ho Tryz.underlying40 hi0 hz0 hz1 hz2 rfl (by decide) (cl := [_]) rfl (fun v hv => by rw [List.mem_singleton.1 hv]; rfl) hs hx h1 hsrc (by unfold maxLen; omega) (by omega) h.hN fun v' w' hown hgrow hB hob => hK v' w' (hM v' w' hown hgrow hB hob) (left_of hgrow)
theorem step_mkR {ops : Array Oper} {o : Oper} {a : Act} {K : Act → World → Prop} {Q : Exit → Act → World → Prop} {EE : Prop} {n lo hi : Nat} {x : Value} {y : List E} (hgd : o.guard = none) (s p : Operand)
    (ho : o.op = .call { callee := .builtin .append, args := #[s, p], argTypes := #[40, 40] }) (hs : a.eval s = u) (hx : a.eval p = .slice (some ⟨n, 0, none⟩) 1 1) (h : MkS M N w0 vp R u cs c T vt X) (hsrc : Blk X n 22 #[x]) (hE : ExtS lo hi X x y) (hlo : N ≤ lo) (hhi : hi ≤ X.heap.size) (ou : Outside lo hi u) (oc : Outside lo hi c) (hk : R.length ≤ 100000)
    (hK : ∀ v' w', MkS M N w0 vp (R ++ [y]) v' cs c T vt w' → Left X w' u → K (a.put o.dst v') w') :
    if Region.wanted o (yielded ops a.tmps) = true then Oper.wp Tryz.prog o a X K Q else EE := by
  obtain ⟨i0, hi0, hz0, hz1, hz2⟩ := info_parts sl_info
  obtain ⟨us, h1, hM⟩ := h.appR hE hlo hhi ou oc
  obtain ⟨A, cp, rfl⟩ := Rd.len hE
  refine step_append_lies X hgd s p _ ho N 22 i0 _ _ _ Tryz.underlying40 hi0 hz0 hz1 hz2 rfl (by decide) u R.length us hs h1 ⟨n, 0, none⟩ 1 1 [_] hx rfl (blk_news hsrc) (fun v hv => by rw [List.mem_singleton.1 hv]; rfl) (by decide) (by unfold maxLen; omega) (by omega) h.hN X.heap.size rfl fun g cap w' hown hgrow hat hlt => ?_
  refine hK _ w' (hM _ w' hown hgrow ((Below.refl _ _).grown hgrow h.hN (fun g hg => (own_block h1 hg).1)) ?_) (left_of hgrow)
  rcases hat with e | e
  · exact .inl e.symm
  · exact .inr (by rw [← e]; rfl)
theorem wpList_mkC {ops : Array Oper} {rest : List Oper} {o : Oper} {a : Act} {Q : Exit → Act → World → Prop} {n : Nat} {y : E} (hgd : o.guard = none) (s p : Operand)
    (ho : o.op = .call { callee := .builtin .append, args := #[s, p], argTypes := #[22, 22] }) (hs : a.eval s = c) (hx : a.eval p = .slice (some ⟨n, 0, none⟩) 1 1) (h : MkS M N w0 vp R u cs c T vt X) (hsrc : Blk X n 26 (ec y).toArray) (hk : cs.length ≤ 100000)
    (hK : ∀ v' w', MkS M N w0 vp R u (cs ++ [y]) v' T vt w' → Left X w' c → wpList Tryz.prog ops Q rest (a.put o.dst v') w') : wpList Tryz.prog ops Q (o :: rest) a X := by
  obtain ⟨ie, he0, hez0, hez1, hez2⟩ := info_parts ext_info
  refine wpList_append_own_at X hgd s p _ ho N _ ie _ 2 16 Tryz.underlying22 he0 hez0 hez1 hez2 rfl (by decide) c cs.length (cs.flatMap ec) hs h.own ⟨n, 0, none⟩ 1 1 (ec y) hx rfl (blk_news hsrc) (ec_one y) (by unfold maxLen; omega) (by omega) h.hN ?_
  intro v' w' hown hgrow _ hat
  refine hK v' w' (h.appC v' w' ?_ hgrow ((Below.refl _ _).grown hgrow h.hN (fun g hg => (own_block h.own hg).1)) hat) (left_of hgrow)
  unfold OwE
  rw [List.flatMap_append, List.length_append]
  simpa using hown
theorem step_mkC {ops : Array Oper} {o : Oper} {a : Act} {K : Act → World → Prop} {Q : Exit → Act → World → Prop} {EE : Prop} {n : Nat} {y : E} (hgd : o.guard = none) (s p : Operand)
    (ho : o.op = .call { callee := .builtin .append, args := #[s, p], argTypes := #[22, 22] }) (hs : a.eval s = c) (hx : a.eval p = .slice (some ⟨n, 0, none⟩) 1 1) (h : MkS M N w0 vp R u cs c T vt X) (hsrc : Blk X n 26 (ec y).toArray) (hk : cs.length ≤ 100000)
    (hK : ∀ v' w', MkS M N w0 vp R u (cs ++ [y]) v' T vt w' → Left X w' c → K (a.put o.dst v') w') :
    if Region.wanted o (yielded ops a.tmps) = true then Oper.wp Tryz.prog o a X K Q else EE := by
  obtain ⟨ie, he0, hez0, hez1, hez2⟩ := info_parts ext_info
  refine step_append_lies X hgd s p _ ho N 26 ie _ 2 16 Tryz.underlying22 he0 hez0 hez1 hez2 rfl (by decide) c cs.length (cs.flatMap ec) hs h.own ⟨n, 0, none⟩ 1 1 (ec y) hx rfl (blk_news hsrc) (ec_one y) (by decide) (by unfold maxLen; omega) (by omega) h.hN X.heap.size rfl fun g cap w' hown hgrow hat hlt => ?_
  refine hK _ w' (h.appC _ w' ?_ hgrow ((Below.refl _ _).grown hgrow h.hN (fun g hg => (own_block h.own hg).1)) ?_) (left_of hgrow)
  · unfold OwE
    rw [List.flatMap_append, List.length_append]
    simpa using hown
  · rcases hat with e | e
    · exact .inl e.symm
    · exact .inr (by rw [← e]; rfl)
theorem below_al1 (w : World) (o : Obj) : Below w.heap.size w (w.alloc o) := (Below.refl w.heap.size w).alloc (Nat.le_refl _) o
theorem below_al2 (w : World) (o o' : Obj) : Below w.heap.size w ((w.alloc o).alloc o') := (below_al1 w o).trans ((below_al1 _ o').mono (by simp))
theorem blk_al1 (w : World) (t : TypeId) (cells : Array Value) : Blk (w.alloc (.cells cells t)) w.heap.size t cells := World.alloc_heap_new w _
theorem blk_al2a (w : World) (t : TypeId) (cells : Array Value) (o : Obj) : Blk ((w.alloc (.cells cells t)).alloc o) w.heap.size t cells := (blk_al1 w t cells).keep (below_al1 _ o)
theorem blk_al2b (w : World) (t : TypeId) (cells : Array Value) (o : Obj) : Blk ((w.alloc o).alloc (.cells cells t)) (w.heap.size + 1) t cells := by
  have := blk_al1 (w.alloc o) t cells
  rwa [show (w.alloc o).heap.size = w.heap.size + 1 by simp] at this
theorem Left.rd {lo hi size n : Nat} {v : Value} {cl : List Value} (h : Left X W u) (hr : Rd lo hi size X v n cl) (ho : Outside lo hi u) : Rd lo hi size W v n cl :=
  hr.other h.2.1 fun g h1 h2 h3 => h.2.2 g h3 (fun e => by rcases ho g e with q | q <;> omega)
theorem step_mkRV {V : World} {ops : Array Oper} {o : Oper} {a : Act} {K : Act → World → Prop} {Q : Exit → Act → World → Prop} {EE : Prop} {n lo hi : Nat} {x : Value} {y : List E} (h : MkS M N w0 vp R u cs c T vt V) (hE : ExtS lo hi V x y) (hgd : o.guard = none) (s p : Operand)
    (ho : o.op = .call { callee := .builtin .append, args := #[s, p], argTypes := #[40, 40] }) (hs : a.eval s = u) (hx : a.eval p = .slice (some ⟨n, 0, none⟩) 1 1) (hX : Below V.heap.size V X) (hsrc : Blk X n 22 #[x]) (hlo : N ≤ lo) (hhi : hi ≤ V.heap.size) (ou : Outside lo hi u) (oc : Outside lo hi c) (hk : R.length ≤ 100000)
    (hK : ∀ v' w', MkS M N w0 vp (R ++ [y]) v' cs c T vt w' → Left X w' u → Left V w' u → K (a.put o.dst v') w') :
    if Region.wanted o (yielded ops a.tmps) = true then Oper.wp Tryz.prog o a X K Q else EE :=
  step_mkR hgd s p ho hs hx (h.keep hX) hsrc (Rd.keep hE hX) hlo (Nat.le_trans hhi hX.size) ou oc hk fun v' w' hm hl => hK v' w' hm hl ⟨fun g t cells hb hne => hl.1 g t cells (hb.keep hX) hne, Nat.le_trans hX.size hl.2.1, fun k hk hne => (hl.2.2 k (Nat.lt_of_lt_of_le hk hX.size) hne).trans (hX.block k hk)⟩
theorem step_mkCV {V : World} {ops : Array Oper} {o : Oper} {a : Act} {K : Act → World → Prop} {Q : Exit → Act → World → Prop} {EE : Prop} {n : Nat} {y : E} (h : MkS M N w0 vp R u cs c T vt V) (hgd : o.guard = none) (s p : Operand)
    (ho : o.op = .call { callee := .builtin .append, args := #[s, p], argTypes := #[22, 22] }) (hs : a.eval s = c) (hx : a.eval p = .slice (some ⟨n, 0, none⟩) 1 1) (hX : Below V.heap.size V X) (hsrc : Blk X n 26 (ec y).toArray) (hk : cs.length ≤ 100000)
    (hK : ∀ v' w', MkS M N w0 vp R u (cs ++ [y]) v' T vt w' → Left V w' c → K (a.put o.dst v') w') :
    if Region.wanted o (yielded ops a.tmps) = true then Oper.wp Tryz.prog o a X K Q else EE :=
  step_mkC hgd s p ho hs hx (h.keep hX) hsrc hk fun v' w' hm hl => hK v' w' hm ⟨fun g t cells hb hne => hl.1 g t cells (hb.keep hX) hne, Nat.le_trans hX.size hl.2.1, fun k hk hne => (hl.2.2 k (Nat.lt_of_lt_of_le hk hX.size) hne).trans (hX.block k hk)⟩
theorem below_al1D (w : World) (o : Obj) : Below w.drew.heap.size w.drew (w.alloc o).drew := by
  have h := below_al1 w o
  exact ⟨h.os, h.tape, h.output, h.size, h.block⟩
theorem below_al2D (w : World) (o o' : Obj) : Below w.drew.heap.size w.drew ((w.alloc o).alloc o').drew := by
  have h := below_al2 w o o'
  exact ⟨h.os, h.tape, h.output, h.size, h.block⟩
theorem two_keep {V W : World} {n : Nat} {c d : Value} (hb : Below V.heap.size V W) (l : n < V.heap.size) (K : V.cell? ⟨n, 0, none⟩ = some c ∧ V.cell? ⟨n, 1, none⟩ = some d) : W.cell? ⟨n, 0, none⟩ = some c ∧ W.cell? ⟨n, 1, none⟩ = some d :=
  ⟨(hb.cell (p := ⟨n, 0, none⟩) l).trans K.1, (hb.cell (p := ⟨n, 1, none⟩) l).trans K.2⟩
theorem two_put {V : World} {n g : Nat} {c d x y : Value} (hne : n ≠ g) (K : V.cell? ⟨n, 0, none⟩ = some c ∧ V.cell? ⟨n, 1, none⟩ = some d) : ((V.setCell ⟨g, 0, none⟩ x).setCell ⟨g, 1, none⟩ y).cell? ⟨n, 0, none⟩ = some c ∧ ((V.setCell ⟨g, 0, none⟩ x).setCell ⟨g, 1, none⟩ y).cell? ⟨n, 1, none⟩ = some d := by
  have p := (Put.set V g 0 x).trans (Put.set _ g 1 y)
  have e := p.other n hne
  unfold World.cell? at K ⊢
  rw [e]
  exact K
theorem res_three {P : Program} {fn : Func} {a : Act} {w : World} {s0 s1 s2 : Tmp} {v0 : Value} {t1 t2 : TypeId} {g1 g2 : Nat} {u1 u2 : TypeId} {c1 c2 : List Value} {d1 d2 : TypeDesc} (hres : fn.results = #[.tmp s0, .cell s1 t1, .cell s2 t2]) (hp0 : a.tmps[s0]? = some v0) (hp1 : a.tmps[s1]? = some (.pointer (some ⟨g1, 0, none⟩))) (hp2 : a.tmps[s2]? = some (.pointer (some ⟨g2, 0, none⟩)))
    (hu1 : P.underlying t1 = some d1) (hd1 : d1.isRow = true) (hi1 : (P.info? t1).map (·.size) = some c1.length) (hb1 : Blk w g1 u1 c1.toArray) (hu2 : P.underlying t2 = some d2) (hd2 : d2.isRow = true) (hi2 : (P.info? t2).map (·.size) = some c2.length) (hb2 : Blk w g2 u2 c2.toArray) :
    (results fn a.tmps).run P w = .ok (.tuple #[v0, .agg c1.toArray, .agg c2.toArray]) w := by
  simp [results, hres, hp0, hp1, hp2, Sem.run_bind, asAddr, run_loadVar_mid w g1 0 t1 c1 d1 (blk_range hb1) hu1 hd1 hi1, run_loadVar_mid w g2 0 t2 c2 d2 (blk_range hb2) hu2 hd2 hi2]
theorem claim_size : (Tryz.prog.info? 42).map (·.size) = some 3 := by kernel_rfl
def slLen : Value → Nat
  | .slice _ n _ => n
  | _ => 0
end Go.Proofs.YtkgglhakimkkhaaGreatDoor
namespace Go.Proofs.YtkgglhakimkkhaaGreatDoor
open Go.RowKit

def loadSum : Op := .load 37 (.tmp 10)
theorem en_attestor_batch_Make : ∀ args w, (callFunc 21 args).run Tryz.prog w = .ok (.enter 21 args) w := enters_of Tryz.func21 (by kernel_rfl) rfl
set_option maxRecDepth 100000 in
set_option maxHeartbeats 4000000 in
theorem gMakeB (T : List E) (cs : List ClW) (n : Nat) (hn : n ≤ 8) (st : List Nat) (hst : StOk st) (vt vl : Value) (lo hi lo2 hi2 : Nat) (w : World) (hhi : hi ≤ w.heap.size) (hhi2 : hi2 ≤ w.heap.size) (hT : ExtS lo2 hi2 w vt T) (hcs : ClmU lo hi w vl cs) (hTl : T.length = 2 ^ n) (hpl : ∀ x ∈ cs, 2 ^ x.1.p.length = T.length) (hLd : Laid w) (hL : Lsh w) :
    Calls Tryz.prog 21 #[vt, vl, tsV st 0] w fun e w' => ∃ v1 A cap, e = .returned (.tuple #[v1, clV (⟨(mkIt st (tabB T cs (rhT st)) n).C, (prvV (tabB T cs (rhT st)) (mkIt st (tabB T cs (rhT st)) n).C).getD 0 0⟩, (A, cap)), tsV (mkIt st (tabB T cs (rhT st)) n).st 1]) ∧ TabS w.heap.size w'.heap.size w' v1 (mkIt st (tabB T cs (rhT st)) n).R ∧ ExtS w.heap.size w'.heap.size w' (.slice A n cap) (mkIt st (tabB T cs (rhT st)) n).C ∧ Below w.heap.size w w' := by
  obtain ⟨S, hS⟩ : ∃ S, S = tsV st 0 := ⟨_, rfl⟩
  rw [← hS]
  obtain ⟨A, cap, rfl⟩ := hcs.len
  obtain ⟨AT, capT, rfl⟩ := Rd.len hT
  obtain ⟨ie, he0, hez0, hez1, hez2⟩ := info_parts ext_info
  have h2n : 2 ^ n ≤ 2 ^ 8 := Nat.pow_le_pow_right (by decide) hn
  have h2p : 0 < 2 ^ n := Nat.two_pow_pos n
  have HST := Lib.hid hst
  have HL := Lib.hid hL
  have HS := Lib.hid (fun W (hW : Below w.heap.size w W) => gSumB T cs (rhT st) (.slice AT T.length capT) (.slice A cs.length cap) lo hi lo2 hi2 W (Nat.le_trans hhi hW.size) (Nat.le_trans hhi2 hW.size) (Rd.keep hT hW) (hcs.keep hW) (by omega) (by omega) hpl (hLd.keep hW))
  have HAL := Lib.hid (show AllLen (tabB T cs (rhT st)) (2 ^ n) from hTl ▸ tabB_all T cs (rhT st))
  clear hT hcs hpl hLd hL hst
  unfold sv at HS
  change Hid (∀ W (hW : Below w.heap.size w W), Calls _ _ _ _ (fun e w' => ∃ v1 v2, e = _ ∧ SumS 0 w'.heap.size w' v1 v2 (tabB T cs (rhT st)) trmB ∧ _)) at HS
  generalize cmbE (fun c => c.v) (pwL (rhT st) 1 cs) = yv at *
  obtain ⟨M, hM⟩ : ∃ M, M = cs.length := ⟨_, rfl⟩
  rw [← hM] at HS ⊢
  clear hM
  have HTB := Lib.hid (show (tabB T cs (rhT st)).length = 2 from rfl)
  generalize tabB T cs (rhT st) = T0 at *
  obtain ⟨NT, hNT⟩ : ∃ NT, NT = T.length := ⟨_, rfl⟩
  rw [← hNT] at HS ⊢
  clear hNT hTl
  go_enter Tryz.func21, Tryz.ntmps21
  go_upto_region 1 with (fail)
  refine wp_stk3 fun W hB hz b1 b2 b3 => ?_
  have b1' : Blk W w.heap.size 60 (tsc st 0).toArray := by first | exact b1 | (rw [hS] at b1; exact b1)
  have b2' : Blk W (w.heap.size + 1) 42 #[.slice none 0 0, .int .u64 0, .int .u64 0] := b2
  obtain ⟨cs0, hcs0, b3'⟩ : ∃ cs : Array Value, cs.size = 33 ∧ Blk W (w.heap.size + 1 + 1) 60 cs := ⟨_, rfl, b3⟩
  have hWs : W.heap.size = w.heap.size + 1 + 1 + 1 := hz.out
  clear b1 b2 b3 hz
  refine wp_region_lit ?_
  refine wpList_plain rfl fun K1 hK1 => wp_of_step (stepAt_mono (fun v17 w17 hh => ?_) (step_loadT rfl rfl HST.out.len b1'))
  obtain ⟨rfl, rfl⟩ := hh
  refine hK1 _ _ ?_
  clear hK1 K1
  try simp only [Act.put, List.setIfInBounds_toArray, List.set_cons_succ, List.set_cons_zero]
  refine wpList_plain rfl fun K2 hK2 => wp_of_step (stepAt_mono (fun v18 w18 hh => ?_) (step_callv en_attestor_transcript_Challenge (gChal st 0 HST.out (by decide) bBatch (by decide) _ (HL.out.keep hB)) rfl rfl))
  obtain ⟨rfl, B18⟩ := hh
  refine hK2 _ _ ?_
  clear hK2 K2
  try simp only [Act.put, List.setIfInBounds_toArray, List.set_cons_succ, List.set_cons_zero]
  rw [show chaT st 0 (stB bBatch) = rhT st from rfl]
  iterate 1 (refine wpList_plain rfl fun K hK => ?_; go_big_op; refine hK _ _ ?_; clear hK K)
  refine wpList_plain rfl fun K4 hK4 => wp_of_step (stepAt_mono (fun v19 w19 hh => ?_) (step_ext (v := tsV st 1) rfl rfl rfl))
  obtain ⟨rfl, rfl⟩ := hh
  refine hK4 _ _ ?_
  clear hK4 K4
  try simp only [Act.put, List.setIfInBounds_toArray, List.set_cons_succ, List.set_cons_zero]
  refine wpList_plain rfl fun K5 hK5 => wp_of_step (stepAt_mono (fun v20 w20 hh => ?_) (step_ext (v := ev (rhT st)) rfl rfl rfl))
  obtain ⟨rfl, rfl⟩ := hh
  refine hK5 _ _ ?_
  clear hK5 K5
  try simp only [Act.put, List.setIfInBounds_toArray, List.set_cons_succ, List.set_cons_zero]
  have b1x := b1'.keep B18
  have b2x := b2'.keep B18
  have b3x := b3'.keep B18
  have hBx := hB.trans (B18.mono hB.size)
  have hxs : w.heap.size + 1 + 1 + 1 ≤ w20.heap.size := by have := B18.size; omega
  clear b1' b2' b3' hB B18 hWs
  refine wpList_plain rfl fun K6 hK6 => wp_of_step (stepAt_mono (fun v9 w9' hh => ?_) (step_new0 he0 hez0 rfl))
  obtain ⟨rfl, rfl⟩ := hh
  refine hK6 _ _ ?_
  clear hK6 K6
  try simp only [Act.put, List.setIfInBounds_toArray, List.set_cons_succ, List.set_cons_zero]
  have b9 : Blk (w20.alloc (.cells (Value.agg #[.int .u64 0, .int .u64 0]).cells 26)) w20.heap.size 26 (ec (0 : E)).toArray := World.alloc_heap_new w20 _
  have BA := (Below.refl _ w20).alloc (Nat.le_refl _) (.cells (Value.agg #[.int .u64 0, .int .u64 0]).cells 26)
  refine wpList_putT rfl (.tmp 5) (.tmp 19) rfl rfl rfl (b1x.keep BA) (by rw [List.size_toArray, tsc_len _ _ HST.out.len]) HST.out.len fun X hX bX => ?_
  have b2X := hX.blk (b2x.keep BA) (by omega)
  have b3X := hX.blk (b3x.keep BA) (by omega)
  have b9X := hX.blk b9 (by omega)
  have hBX := below_put (hBx.trans (BA.mono hBx.size)) hX (by omega)
  have hXs : X.heap.size = w20.heap.size + 1 := by rw [hX.size]; simp
  clear b1x b2x b3x b9 hBx hX BA
  refine wpList_putE rfl (.tmp 9) (.tmp 20) rfl rfl rfl b9X rfl fun Y hY b9Y => ?_
  have b1Y := hY.blk bX (by omega)
  have b2Y := hY.blk b2X (by omega)
  have b3Y := hY.blk b3X (by omega)
  have hBY := below_put hBX hY (by omega)
  have hYs := hY.size
  clear bX b2X b3X b9X hBX hY
  obtain ⟨rho, hrho⟩ : ∃ rho, rho = rhT st := ⟨_, rfl⟩
  rw [← hrho] at b9Y HS ⊢
  clear hrho
  have e1 := blkE0 b9Y
  have e2 := blkE1 b9Y
  obtain ⟨n9, hn9⟩ : ∃ n, n = w20.heap.size := ⟨_, rfl⟩
  rw [← hn9] at b9Y e1 e2 hxs hXs ⊢
  clear hn9
  try simp only [Act.put, List.setIfInBounds_toArray, List.set_cons_succ, List.set_cons_zero]
  unfold ev at HS
  go_upto_region 2 with (fail)
  go_wp2_with fail
  refine (HS.out Y hBY).mono ?_
  rintro e w2 ⟨v1, v2, rfl, hSm, hb2⟩
  have b12 := b1Y.keep hb2
  have b22 := b2Y.keep hb2
  have b32 := b3Y.keep hb2
  have hB2 := hBY.trans (hb2.mono hBY.size)
  have hs2 := hb2.size
  obtain ⟨A1, cp1, rfl⟩ := hSm.ht.len
  obtain ⟨A2, cp2, rfl⟩ := hSm.hp.len
  clear b1Y b2Y b3Y b9Y e1 e2 HS hBY
  go_upto_region 3 with (fail)
  refine wp_stk2 fun Z hBZ hzZ d1 d2 => ?_
  have hZs : Z.heap.size = w2.heap.size + 1 + 1 := hzZ.out
  obtain ⟨n10, hn10⟩ : ∃ n, n = w2.heap.size := ⟨_, rfl⟩
  rw [← hn10] at d1 hZs ⊢
  have b1Z := b12.keep hBZ
  have b2Z := b22.keep hBZ
  have b3Z := b32.keep hBZ
  have hMS : MkS n10 (n10 + 2) w (.slice A2 trmB.length cp2) (mkIt st T0 0).R (.slice none 0 0) (mkIt st T0 0).C (.slice none 0 0) (mkIt st T0 0).T (.slice A1 T0.length cp1) Z :=
    ⟨hB2.trans (hBZ.mono hB2.size), by omega, by omega, ⟨[], ⟨rfl, .inl ⟨rfl, rfl⟩⟩, rfl, (fun k x t h => by simp at h)⟩, owE_nil _ _, (fun g hg => by cases hg), ⟨0, w2.heap.size, by omega, hSm.ht.keep hBZ, (fun b hb => by cases hb), (fun b hb => by cases hb)⟩, by omega, by rw [hn10]; exact hSm.hp.keep hBZ⟩
  have HSP := Lib.hid (⟨hSm.ix, hSm.short⟩ : _ ∧ _)
  have hq10 : w.heap.size + 1 + 1 + 1 < n10 := by omega
  have b4Z : Blk Z n10 37 #[.slice A1 T0.length cp1, .slice A2 trmB.length cp2] := d1
  clear b12 b22 b32 hBZ hzZ d1 d2 hSm hB2 hs2 hb2 hn10 hYs hXs
  have HTM := Lib.hid (show trmB.length = 1 from rfl)
  generalize trmB.length = ntr at *
  go_wp2_with fail
  go_loopw [12, 13] (fun u c wr => ∃ j : Nat, j ≤ n ∧ slLen u = j ∧ ∃ vt', MkS n10 (n10 + 2) w (.slice A2 ntr cp2) (mkIt st T0 j).R u (mkIt st T0 j).C c (mkIt st T0 j).T vt' wr ∧ Blk wr w.heap.size 60 (tsc (mkIt st T0 j).st 1).toArray ∧ Blk wr (w.heap.size + 1) 42 #[.slice none 0 0, .int .u64 0, .int .u64 0] ∧ Blk wr (w.heap.size + 1 + 1) 60 cs0 ∧ Blk wr n10 37 #[vt', .slice A2 ntr cp2]) (fun u _ _ => n - slLen u)
  case atStart => exact ⟨0, Nat.zero_le _, rfl, _, hMS, b1Z, b2Z, b3Z, b4Z⟩
  case round =>
    clear hMS b1Z b2Z b3Z b4Z
    obtain ⟨j, hj, hlu, vt', hm, b1, b2, b3, b4⟩ := hrel
    have hNr := hm.hN
    have HNX := Lib.hid (show mkIt st T0 (j + 1) = mkStep (mkIt st T0 j) from rfl)
    have hlR := mkIt_lenR st T0 j
    have hlC := mkIt_lenC st T0 j
    have hlT := (mkIt_lenT st T0 j).trans HTB.out
    have hok := mkIt_ok st T0 HST.out j
    have hal := mkIt_all st T0 n j HAL.out hj
    have HEN := Lib.hid (show j = n → mkIt st T0 n = mkIt st T0 j from fun e => by rw [e])
    have HBT := Lib.hid (mkIt_T st T0 j)
    generalize mkIt st T0 j = s at *
    obtain ⟨Au, cu, hv⟩ := hm.row.rowT.len (by omega)
    rw [hlR] at hv
    subst hv
    obtain ⟨Ac, cc, hv⟩ := hm.own.len
    rw [hlC] at hv
    subst hv
    obtain ⟨L, H, t1, t2, t3, t4⟩ := hm.tab
    obtain ⟨g1, o1, k1, hv, -, -, -, l1, q1⟩ := tabs_cells t2 (by omega)
    rw [hlT] at hv
    subst hv
    obtain ⟨y0, hy0⟩ : ∃ y0, s.T[0]? = some y0 := ⟨_, List.getElem?_eq_getElem (by omega)⟩
    have hy0l : y0.length = 2 ^ (n - j) := hal y0 (List.mem_of_getElem? hy0)
    obtain ⟨B1, k2, r1, E1⟩ := q1 0 y0 hy0
    simp only [Nat.add_zero] at r1
    have HG := Lib.hid E1
    have HOK := Lib.hid hok
    clear q1 E1 hok
    have e4 := b4.cell
    by_cases hlt : j < n
    · have h2m : 2 ^ (n - j) = 2 * 2 ^ (n - 1 - j) := by rw [← Nat.pow_succ']; congr 1; omega
      have hm2 : 2 ^ (n - 1 - j) ≤ 256 := Nat.le_trans (Nat.pow_le_pow_right (by decide) (show n - 1 - j ≤ 8 by omega)) (by decide)
      have hm0 : 0 < 2 ^ (n - 1 - j) := Nat.two_pow_pos _
      rw [h2m] at hal hy0l
      generalize 2 ^ (n - 1 - j) = m at *
      have HA := Lib.hid hal
      have hgt : (1 : Int) < (y0.length : Int) := by omega
      clear hal h2m hy0
      go_wp2_with fail
      have HPw := Lib.hid (show SumS 0 wr.heap.size wr (.slice (some ⟨g1, o1, none⟩) 2 k1) (.slice A2 ntr cp2) s.T trmB from ⟨t2.base, hm.trm.base, by rw [hlT, ← HTB.out]; exact HSP.out.1, by decide, HSP.out.2⟩)
      refine (gRound s.T trmB m HA.out (by omega) (by omega) (by omega) _ _ 0 wr.heap.size wr HPw.out).mono ?_
      rintro e w3 ⟨v3, rfl, hE3, hb3⟩
      replace hE3 : ExtS wr.heap.size w3.heap.size w3 v3 (rndE s.T trmB) := hE3
      have hglen : (rndE s.T trmB).length ≤ 10000 := by rw [rndE_length]; decide
      obtain ⟨A3, k3, rfl⟩ := Rd.len hE3
      have HST2 := Lib.hid (show mkStep s = ⟨s.R ++ [rndE s.T trmB], s.C ++ [coT (rdT s.st (rndE s.T trmB))], rdT s.st (rndE s.T trmB), bndE s.T (coT (rdT s.st (rndE s.T trmB)))⟩ from rfl)
      generalize rndE s.T trmB = g at *
      have hm3 := hm.keep hb3
      have b13 := b1.keep hb3
      have b23 := b2.keep hb3
      have b33 := b3.keep hb3
      have b43 := b4.keep hb3
      have hos := hm.outR (hi := w3.heap.size) (Nat.le_refl _)
      have hs3 := hb3.size
      clear HPw hm b1 b2 b3 b4 e4 t1 t2 t3 t4 r1 HG
      go_upto_region 8 with (fail)
      refine wp_stk1 fun W8 hB8 hz8 d15 => ?_
      have d15' : Blk W8 w3.heap.size 26 (ec (0 : E)).toArray := d15
      have hW8s : W8.heap.size = w3.heap.size + 1 := hz8.out
      have hN3 := hm3.hN
      have b18 := b13.keep hB8
      have b28 := b23.keep hB8
      have b38 := b33.keep hB8
      have b48 := b43.keep hB8
      have HG8 := Lib.hid (Rd.keep hE3 hB8)
      have hne15 : (Value.slice Au j cu).ownBlock ≠ some w3.heap.size := hm3.uLt (Nat.le_refl _)
      have hne15c : (Value.slice Ac j cc).ownBlock ≠ some w3.heap.size := hm3.cLt (Nat.le_refl _)
      obtain ⟨n15, hn15⟩ : ∃ n, n = w3.heap.size := ⟨_, rfl⟩
      have hq15 : w3.heap.size ≤ n15 := by omega
      rw [← hn15] at d15' hne15 hne15c hW8s hs3 HG8 hN3 hos ⊢
      clear d15 hz8 b13 b23 b33 b43 hE3 hn15
      refine wp_region_lit ?_
      refine wpList_plain rfl fun K8 hK8 => wp_of_step (stepAt_mono (fun v37 w37 hh => ?_) (step_loadT rfl rfl HOK.out.len b18))
      obtain ⟨rfl, rfl⟩ := hh
      refine hK8 _ _ ?_
      clear hK8 K8
      try simp only [Act.put, List.setIfInBounds_toArray, List.set_cons_succ, List.set_cons_zero]
      iterate 1 (refine wpList_plain rfl fun K hK => ?_; go_big_op; refine hK _ _ ?_; clear hK K)
      refine wpList_plain rfl fun K10 hK10 => wp_of_step (stepAt_mono (fun v39 w39 hh => ?_) (step_callv en_attestor_batch_coin (gCoin s.st 1 HOK.out g hglen _ wr.heap.size n15 _ (HL.out.keep (hm3.keep hB8).hB) HG8.out) rfl rfl))
      obtain ⟨rfl, B39⟩ := hh
      refine hK10 _ _ ?_
      clear hK10 K10
      try simp only [Act.put, List.setIfInBounds_toArray, List.set_cons_succ, List.set_cons_zero]
      iterate 1 (refine wpList_plain rfl fun K hK => ?_; go_big_op; refine hK _ _ ?_; clear hK K)
      refine wpList_plain rfl fun K12 hK12 => wp_of_step (stepAt_mono (fun v40 w40 hh => ?_) (step_ext (v := tsV (rdT s.st g) 1) rfl rfl rfl))
      obtain ⟨rfl, rfl⟩ := hh
      refine hK12 _ _ ?_
      clear hK12 K12
      try simp only [Act.put, List.setIfInBounds_toArray, List.set_cons_succ, List.set_cons_zero]
      refine wpList_plain rfl fun K13 hK13 => wp_of_step (stepAt_mono (fun v41 w41 hh => ?_) (step_ext (v := ev (coT (rdT s.st g))) rfl rfl rfl))
      obtain ⟨rfl, rfl⟩ := hh
      refine hK13 _ _ ?_
      clear hK13 K13
      try simp only [Act.put, List.setIfInBounds_toArray, List.set_cons_succ, List.set_cons_zero]
      have hK9 := hB8.trans (B39.mono hB8.size)
      have b19 := b18.keep B39
      have b29 := b28.keep B39
      have b39 := b38.keep B39
      have b49 := b48.keep B39
      have d159 := d15'.keep B39
      have HG9 := Lib.hid (Rd.keep HG8.out B39)
      have hs9 := B39.size
      clear hB8 b18 b28 b38 b48 d15' HG8 B39
      refine wpList_putT rfl (.tmp 5) (.tmp 40) rfl rfl rfl b19 (by rw [List.size_toArray, tsc_len _ _ HOK.out.len]) (rdT_ok s.st g).len fun XA hXA b1A => ?_
      have b2A := hXA.blk b29 (by omega)
      have b3A := hXA.blk b39 (by omega)
      have b4A := hXA.blk b49 (by omega)
      have d15A := hXA.blk d159 (by omega)
      have hXAs := hXA.size
      have HGA := Lib.hid (hXA.rd HG9.out (.inl (by omega)))
      clear b29 b39 b49 d159 HG9
      refine wpList_putE rfl (.tmp 15) (.tmp 41) rfl rfl rfl d15A rfl fun XB hXB d15B => ?_
      have b1B := hXB.blk b1A (by omega)
      have b2B := hXB.blk b2A (by omega)
      have b3B := hXB.blk b3A (by omega)
      have b4B := hXB.blk b4A (by omega)
      have HGB := Lib.hid (hXB.rd HGA.out (.inr (by omega)))
      have hXBs := hXB.size
      have hmB := hm3.mix hK9 hXA hXB hq15 (by omega) (Nat.le_refl _) HOK.out.len b19
      clear hm3 hK9 hXA hXB b19 b1A b2A b3A b4A d15A HGA
      have hmD := hmB.keep (below_Dw XB)
      have HGD := Lib.hid (show ExtS wr.heap.size n15 XB.drew (.slice A3 g.length k3) g from HGB.out.keep (below_Dw XB))
      have HMD := Lib.hid hmD
      have b4D := b4B.keep (below_Dw XB)
      have d15D := d15B.keep (below_Dw XB)
      have b1D := b1B.keep (below_Dw XB)
      have b2D := b2B.keep (below_Dw XB)
      have b3D := b3B.keep (below_Dw XB)
      generalize coT (rdT s.st g) = y at *
      have K0 : XB.cell? ⟨n15, 0, none⟩ = some (.int .u64 (fv y.a)) ∧ XB.cell? ⟨n15, 1, none⟩ = some (.int .u64 (fv y.b)) := ⟨(d15B.cell 0).trans rfl, (d15B.cell 1).trans rfl⟩
      have KD : XB.drew.cell? ⟨n15, 0, none⟩ = some (.int .u64 (fv y.a)) ∧ XB.drew.cell? ⟨n15, 1, none⟩ = some (.int .u64 (fv y.b)) := ⟨(d15D.cell 0).trans rfl, (d15D.cell 1).trans rfl⟩
      have j0 : XB.cell? ⟨n10, 0, none⟩ = some (.slice (some ⟨g1, o1, none⟩) 2 k1) := b4B.cell 0
      have j1 : XB.cell? ⟨n10, 1, none⟩ = some (.slice A2 ntr cp2) := b4B.cell 1
      have ja0 : ∀ o, (XB.alloc o).cell? ⟨n10, 0, none⟩ = some (.slice (some ⟨g1, o1, none⟩) 2 k1) := fun o => ((below_al1 XB o).cell (p := ⟨n10, 0, none⟩) b4B.lt).trans j0
      have ja1 : ∀ o, (XB.alloc o).cell? ⟨n10, 1, none⟩ = some (.slice A2 ntr cp2) := fun o => ((below_al1 XB o).cell (p := ⟨n10, 1, none⟩) b4B.lt).trans j1
      have jb0 : ∀ o o', ((XB.alloc o).alloc o').cell? ⟨n10, 0, none⟩ = some (.slice (some ⟨g1, o1, none⟩) 2 k1) := fun o o' => ((below_al2 XB o o').cell (p := ⟨n10, 0, none⟩) b4B.lt).trans j0
      have jb1 : ∀ o o', ((XB.alloc o).alloc o').cell? ⟨n10, 1, none⟩ = some (.slice A2 ntr cp2) := fun o o' => ((below_al2 XB o o').cell (p := ⟨n10, 1, none⟩) b4B.lt).trans j1
      have l10D := b4D.lt
      have l15D := d15D.lt
      try simp only [Act.put, List.setIfInBounds_toArray, List.set_cons_succ, List.set_cons_zero]
      have HBd := Lib.hid (fun (W1 : World) (vt : Value) (L H : Nat) (h : TabS L H W1 vt s.T) => show Calls Tryz.prog 59 #[.agg #[vt, .slice A2 ntr cp2], .agg #[.int .u64 (fv y.a), .int .u64 (fv y.b)]] W1 _ from gBndSum s.T y m HA.out hm0 (by omega) (by omega) vt (.slice A2 ntr cp2) L H W1 h ⟨_, _, _, rfl⟩)
      have hr15 : n10 + 2 ≤ wr.heap.size := hNr
      have hD15 : n15 ≤ XB.drew.heap.size := by rw [show XB.drew.heap.size = XB.heap.size from rfl]; omega
      have hj5 : s.R.length ≤ 100000 := by omega
      have hj5c : s.C.length ≤ 100000 := by omega
      have hne1510 : n15 ≠ n10 := by omega
      clear hXBs hXAs
      go_upto_region 9 with (fail)
      have hml : loadSum = Op.load 37 (.tmp 10) := rfl
      rw [← hml]
      go_region_held3 (fun X => X.cell? ⟨n15, 0, none⟩ = some (.int .u64 (fv y.a)) ∧ X.cell? ⟨n15, 1, none⟩ = some (.int .u64 (fv y.b)))
        (first | with_reducible exact KD | with_reducible exact K4 | with_reducible exact K5 | with_reducible exact K6 | with_reducible exact K0 | exact two_keep (below_al1D XB _) l15D KD | exact two_keep (below_al2D XB _ _) l15D KD | exact two_keep (below_al1 w4 _) l154 K4 | exact two_put hne1510 K6)
        (first
          | (refine step_mkRV (V := XB.drew) HMD.out HGD.out rfl (.tmp 42) (.tmp 44) rfl rfl rfl ?hX ?hsrc hr15 hD15 hos.1 hos.2 hj5 fun v4 w4 hm4 hlX hl4 => ?_
             case hX => first | exact below_al1D XB _ | exact below_al2D XB _ _
             case hsrc => first | exact blk_al1 XB _ _ | exact blk_al2a XB _ _ _ | exact blk_al2b XB _ _ _
             obtain ⟨A4, c4, hv4⟩ := hm4.row.rowT.len (by rw [List.length_append, hlR]; show j + 1 ≤ _; omega)
             rw [List.length_append, hlR] at hv4
             subst hv4
             have b44 := hl4.low HMD.out b4D (by omega)
             have d154 := hl4.1 _ _ _ d15D hne15
             have j40 : w4.cell? ⟨n10, 0, none⟩ = some (.slice (some ⟨g1, o1, none⟩) 2 k1) := b44.cell 0
             have j41 : w4.cell? ⟨n10, 1, none⟩ = some (.slice A2 ntr cp2) := b44.cell 1
             have jc0 : ∀ o, (w4.alloc o).cell? ⟨n10, 0, none⟩ = some (.slice (some ⟨g1, o1, none⟩) 2 k1) := fun o => ((below_al1 w4 o).cell (p := ⟨n10, 0, none⟩) b44.lt).trans j40
             have jc1 : ∀ o, (w4.alloc o).cell? ⟨n10, 1, none⟩ = some (.slice A2 ntr cp2) := fun o => ((below_al1 w4 o).cell (p := ⟨n10, 1, none⟩) b44.lt).trans j41
             have l154 := d154.lt
             have K4 : w4.cell? ⟨n15, 0, none⟩ = some (.int .u64 (fv y.a)) ∧ w4.cell? ⟨n15, 1, none⟩ = some (.int .u64 (fv y.b)) := ⟨(d154.cell 0).trans rfl, (d154.cell 1).trans rfl⟩)
          | (refine step_mkCV (V := w4) (y := y) hm4 rfl (.tmp 46) (.tmp 48) rfl rfl rfl ?hX ?hsrc hj5c fun v5 w5 hm5 hl5 => ?_
             case hX => first | with_reducible exact Below.refl _ _ | exact below_al1 _ _
             case hsrc => first | exact blk_al1 w4 _ _ | exact hlX.1 _ _ _ (blk_al2b XB _ _ _) (HMD.out.uLt (Nat.le_succ _)) | exact hlX.1 _ _ _ (blk_al2a XB _ _ _) (HMD.out.uLt (Nat.le_refl _))
             obtain ⟨A5, c5, hv5⟩ := hm5.own.len
             rw [List.length_append, hlC] at hv5
             subst hv5
             have b45 := hl5.lowC hm4 b44 (by omega)
             have d155 := hl5.1 _ _ _ d154 hne15c
             have j50 : w5.cell? ⟨n10, 0, none⟩ = some (.slice (some ⟨g1, o1, none⟩) 2 k1) := b45.cell 0
             have j51 : w5.cell? ⟨n10, 1, none⟩ = some (.slice A2 ntr cp2) := b45.cell 1
             have K5 : w5.cell? ⟨n15, 0, none⟩ = some (.int .u64 (fv y.a)) ∧ w5.cell? ⟨n15, 1, none⟩ = some (.int .u64 (fv y.b)) := ⟨(d155.cell 0).trans rfl, (d155.cell 1).trans rfl⟩)
          | (go_at_call 59
             obtain ⟨L5, H5, t15, t25, t35, t45⟩ := hm5.tab
             with_reducible refine Calls.mono (HBd.out w5 _ L5 H5 t25) ?_
             rintro e w6 ⟨v6, he, ⟨vt6, hv6, hT6⟩, hb6⟩
             subst he
             obtain ⟨A6, c6, hv7⟩ := hT6.len
             subst hv7
             subst hv6
             unfold sv
             have b46 := b45.keep hb6
             have d156 := d155.keep hb6
             have K6 : w6.cell? ⟨n15, 0, none⟩ = some (.int .u64 (fv y.a)) ∧ w6.cell? ⟨n15, 1, none⟩ = some (.int .u64 (fv y.b)) := ⟨(d156.cell 0).trans rfl, (d156.cell 1).trans rfl⟩
             have e6 := b46.cell
             have f6 := b46.frozen))
      all_goals
        clear K0 KD K4 K5 K6 j0 j1 ja0 ja1 jb0 jb1 j40 j41 jc0 jc1 j50 j51 e6 f6
        rename_i hHeld
        clear hHeld
        refine set2 (M := fun W => Exit.inBlock 1 _ Exit.normal _ W) b46 fun Y hY bY => ?_
        have hm6 := hm5.keep hb6
        have hoo := hm5.outR (hi := w6.heap.size) (Nat.le_refl _)
        have h66 := hb6.size
        have hn5 := hm5.hN
        have b1F := hY.blk ((hl5.lowC hm4 (hl4.low HMD.out b1D (by omega)) (by omega)).keep hb6) (by omega)
        have b2F := hY.blk ((hl5.lowC hm4 (hl4.low HMD.out b2D (by omega)) (by omega)).keep hb6) (by omega)
        have b3F := hY.blk ((hl5.lowC hm4 (hl4.low HMD.out b3D (by omega)) (by omega)).keep hb6) (by omega)
        have hm7 := hm6.put' hY (by omega) (by omega) ⟨w5.heap.size, w6.heap.size, by rw [hY.size]; exact Nat.le_refl _, hT6.put hY (.inl (by omega)), hoo.1, hoo.2⟩ (trm_other hm6.trm (by rw [hY.size]; exact Nat.le_refl _) fun k _ h2 _ => hY.other k (by omega))
        clear hm6 hm5 hm4 b46 b45 b44 d154 d155 d156 hl4 hl5 hlX hT6 hb6 hoo t15 t25 t35 t45
        have HM7 := Lib.hid hm7
        have HB7 := Lib.hid bY
        clear hm7 bY
        go_wp2_with fail
        exact ⟨⟨j + 1, by omega, rfl, _, by rw [HNX.out, HST2.out]; exact HM7.out, by rw [HNX.out, HST2.out]; exact b1F, b2F, b3F, HB7.out⟩, by simp [slLen]; omega⟩
    · obtain rfl : j = n := by omega
      rw [Nat.sub_self] at hy0l
      obtain ⟨x0, rfl⟩ : ∃ x0, y0 = [x0] := by
        match y0, hy0l with
        | [x], _ => exact ⟨x, rfl⟩
      have HX0 := Lib.hid (show (prvV T0 s.C).getD 0 0 = x0 by
        unfold prvV
        rw [← HBT.out]
        simp [List.getD, hy0])
      have HE0 := Lib.hid (HEN.out rfl)
      obtain ⟨g2, o2, k3, hv, -, -, -, l2, q2⟩ := exts_cells HG.out (show 0 < [x0].length from Nat.one_pos)
      obtain ⟨d1, d2⟩ := q2 0 x0 rfl
      simp only [Nat.zero_mul, Nat.add_zero] at d1 d2
      cases hv
      have hgt : ¬ (1 : Int) < ((1 : Nat) : Int) := by decide
      have y4 := gw_blk b4
      have y5 := gw_cell l1 r1
      have y6 := gw_cell l2 d1
      have y7 := gw_cell l2 d2
      have HRW := Lib.hid (hm.row.rowT.tabs (by omega))
      have HCW := Lib.hid (hm.own.ext (by omega) (Nat.le_refl _))
      have hBr := hm.hB
      have h0w := hm.h0
      clear q2 hal hy0l hm t1 t2 t3 t4 e4 hlu hy0
      simp only [List.length_cons, List.length_nil, Nat.zero_add] at r1 y5
      have e4 := b4.cell
      go_upto_region 10 with (fail)
      refine wp_region_swap 11 9 undef [(9, Spec.val (tsV s.st 1))] (by kernel_rfl) (by kernel_rfl) (by kernel_rfl) rfl rfl rfl rfl trivial ?_ ?_
      iterate 9 (refine rg_det rfl rfl rfl (fun K hK => ?_); go_big_quiet_op; refine hK _ ?_; clear hK K)
      refine rg_val rfl rfl (fun W1 hW1 hF => step_loadTB rfl rfl HOK.out.len (b1.below (grw_below hW1) b1.lt)) ?_
      intro a' ha
      simp only [Act.put, List.setIfInBounds_toArray, List.set_cons_succ, List.set_cons_zero] at ha
      subst ha
      refine rg_det rfl rfl rfl (fun K hK => ?_)
      go_big_quiet_op
      refine hK _ ?_; clear hK K
      refine rg_nil (fun w' hw' hF => ?_)
      obtain ⟨y, rfl⟩ := hw'
      simp only [List.drop_succ_cons, List.drop_zero]
      rotate_left 1
      iterate 9 (refine rg_det rfl rfl rfl (fun K hK => ?_); go_big_quiet_op; refine hK _ ?_; clear hK K)
      refine rg_pass rfl rfl ?_
      intro a' ha
      simp only [Act.put, List.setIfInBounds_toArray, List.set_cons_succ, List.set_cons_zero] at ha
      subst ha
      refine rg_det rfl rfl rfl (fun K hK => ?_)
      go_big_quiet_op
      refine hK _ ?_; clear hK K
      refine rg_nil (fun w' hw' hF => ?_)
      obtain ⟨y, rfl⟩ := hw'
      simp only [List.drop_succ_cons, List.drop_zero]
      refine wpList_putS ?_
      intro a' ha
      simp only [Act.put, List.setIfInBounds_toArray, List.set_cons_succ, List.set_cons_zero] at ha
      subst ha
      rotate_right 1
      all_goals
        clear hF
        have b1z := b1.gw y
        have b2z := b2.gw y
        have b3z := b3.gw y
        have hBz := hBr.trans (y.h.mono hBr.size)
        have hys := y.h.size
        have hRz := HRW.out.keep y.h
        have hCz : ExtS (n10 + 2) wr.heap.size y.w (.slice Ac j cc) s.C := Rd.keep HCW.out y.h
        refine wpList_put rfl 42 (.tmp 7) (.tmp 61) rfl rfl (cells := [.slice Ac j cc, .int .u64 (fv x0.a), .int .u64 (fv x0.b)]) rfl b2z (by show 0 + 3 ≤ 3; decide) claim_size rfl (spl_all _ _ rfl) fun Z hZ bZ => ?_
        have b1Z := hZ.blk b1z (by omega)
        have b3Z := hZ.blk b3z (by omega)
        have hRZ := hRz.put hZ (.inl (by omega))
        have hCZ : ExtS (n10 + 2) wr.heap.size Z (.slice Ac j cc) s.C := hZ.rd hCz (.inl (by omega))
        have hBZ := below_put hBz hZ (by omega)
        have hZs := hZ.size
        clear b1z b2z b3z hBz hRz hCz
      rotate_left 1
      simp only [Act.put, List.setIfInBounds_toArray, List.set_cons_succ, List.set_cons_zero]
      refine wpList_plain rfl fun K hK => wp_of_step (stepAt_mono (fun v w' hh => ?_) (step_loadT rfl rfl HOK.out.len b1Z))
      obtain ⟨rfl, rfl⟩ := hh
      refine hK _ _ ?_
      clear hK K
      rotate_right 1
      all_goals
        refine wpList_putT rfl (.tmp 8) (.tmp 62) rfl rfl rfl b3Z hcs0 HOK.out.len fun V hV bV => ?_
        have bZV := hV.blk bZ (by omega)
        have hRV := hRZ.put hV (.inl (by omega))
        have hCV : ExtS (n10 + 2) wr.heap.size V (.slice Ac j cc) s.C := hV.rd hCZ (.inl (by omega))
        have hBV := below_put hBZ hV (by omega)
        have hVs := hV.size
        go_wp2_with fail
        refine bodyPost_ret (v := .tuple #[.slice Au j cu, .agg #[.slice Ac j cc, .int .u64 (fv x0.a), .int .u64 (fv x0.b)], tsV s.st 1]) (res_three (c1 := [.slice Ac j cc, .int .u64 (fv x0.a), .int .u64 (fv x0.b)]) (c2 := tsc s.st 1) rfl rfl rfl rfl Tryz.underlying42 rfl claim_size bZV Tryz.underlying60 rfl (by rw [tr_size, tsc_len _ _ HOK.out.len]) bV) rfl ?_
        rw [HE0.out, show (prvV T0 s.C)[0]?.getD 0 = x0 from HX0.out]
        exact ⟨.slice Au j cu, Ac, cc, by unfold clV clc ptV; rw [hlC], hRV.wide (by omega) (by omega), Rd.wide hCV (by omega) (by omega), hBV⟩
end Go.Proofs.YtkgglhakimkkhaaGreatDoor
