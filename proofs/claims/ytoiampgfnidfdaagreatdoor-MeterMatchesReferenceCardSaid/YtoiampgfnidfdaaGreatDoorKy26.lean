/-
  The program's keyed digest.
-/
import Derived.Test.YtoiampgfnidfdaaGreatDoorMs26
import Derived.Test.YtoiampgfnidfdaaGreatDoorSeq
import Derived.Test.YtoiampgfnidfdaaGreatDoorSs
set_option maxRecDepth 100000
set_option maxHeartbeats 8000000
namespace Go.Proofs.YtoiampgfnidfdaaGreatDoor
open Go.RowKit
section
open Go.RowKit

def Al {α β : Type} (R : α → β → Prop) (us : List α) (ps : List β) : Prop := us.length = ps.length ∧ ∀ (k : Nat) u p, us[k]? = some u → ps[k]? = some p → R u p
section
variable {α β : Type} {R S : α → β → Prop} {us : List α} {ps : List β}
theorem Al.nil : Al R [] [] := ⟨rfl, fun k u p h => (by cases h)⟩
theorem Al.mono (h : Al R us ps) (hs : ∀ u p, R u p → S u p) : Al S us ps := ⟨h.1, fun k u p h1 h2 => hs _ _ (h.2 k u p h1 h2)⟩
theorem Al.snoc (h : Al R us ps) {u : α} {p : β} (hu : R u p) : Al R (us ++ [u]) (ps ++ [p]) := by
 refine ⟨by simp [h.1], fun k x y hx hy => ?_⟩
 by_cases hk : k < us.length
 ·
  rw [List.getElem?_append_left hk] at hx
  rw [List.getElem?_append_left (by rw [← h.1]; exact hk)] at hy
  exact h.2 k x y hx hy
 ·
  have hk2 := (List.getElem?_eq_some_iff.1 hx).1
  simp only [List.length_append, List.length_singleton] at hk2
  obtain rfl : k = us.length := by omega
  rw [List.getElem?_append_right (Nat.le_refl _), Nat.sub_self] at hx
  rw [List.getElem?_append_right (by rw [h.1]; exact Nat.le_refl _), h.1, Nat.sub_self] at hy
  cases hx
  cases hy
  exact hu
theorem Al.set (h : Al R us ps) {i : Nat} {u : α} {p : β} (hu : R u p) : Al R (us.set i u) (ps.set i p) := by
 refine ⟨by simp [h.1], fun k x y hx hy => ?_⟩
 by_cases hk : i = k
 ·
  subst hk
  have h1 := (List.getElem?_eq_some_iff.1 hx).1
  have h2 := (List.getElem?_eq_some_iff.1 hy).1
  rw [List.length_set] at h1 h2
  rw [List.getElem?_set_self h1] at hx
  rw [List.getElem?_set_self h2] at hy
  cases hx
  cases hy
  exact hu
 ·
  rw [List.getElem?_set_ne hk] at hx hy
  exact h.2 k x y hx hy
theorem Al.get (h : Al R us ps) {k : Nat} (hk : k < ps.length) : ∃ u p, us[k]? = some u ∧ ps[k]? = some p ∧ R u p := by
 have h1 : k < us.length := by rw [h.1]; exact hk
 exact ⟨us[k], ps[k], List.getElem?_eq_getElem h1, List.getElem?_eq_getElem hk, h.2 k _ _ (List.getElem?_eq_getElem h1) (List.getElem?_eq_getElem hk)⟩
end
def RdA (size : Nat) (W : World) (v : Value) (n : Nat) (cs : List Value) : Prop := Rd 0 W.heap.size size W v n cs
theorem RdA.keep {size n : Nat} {W W' : World} {v : Value} {cs : List Value} (h : RdA size W v n cs) (hb : Below W.heap.size W W') : RdA size W' v n cs := (Rd.keep h hb).wide (Nat.le_refl _) hb.size
theorem RdA.of {size n lo hi : Nat} {W : World} {v : Value} {cs : List Value} (h : Rd lo hi size W v n cs) : RdA size W v n cs := by
 obtain ⟨q1, q2, A, cap, q3, q4, q5⟩ := h
 refine ⟨q1, q2, A, cap, q3, q4, fun h0 => ?_⟩
 obtain ⟨g, off, r1, r2, r3, r4, r5⟩ := q5 h0
 exact ⟨g, off, r1, Nat.zero_le _, r4, r4, r5⟩
def ExA (W : World) (v : Value) (xs : List E) : Prop := RdA 2 W v xs.length (xs.flatMap ec)
theorem ExA.keep {W W' : World} {v : Value} {xs : List E} (h : ExA W v xs) (hb : Below W.heap.size W W') : ExA W' v xs := RdA.keep h hb
structure PtW where
 r : Value
 v : Value
 u : Bool
def ptc (x : PtW) : List Value := [x.r, x.v, .bool x.u]
theorem J27 (x : PtW) : (ptc x).length = 3 := rfl
def PtIn (W : World) (x : PtW) (p : Pt) : Prop := ExA W x.r p.R ∧ ExA W x.v p.V ∧ x.u = p.used
theorem PtIn.keep {W W' : World} {x : PtW} {p : Pt} (h : PtIn W x p) (hb : Below W.heap.size W W') : PtIn W' x p := ⟨h.1.keep hb, h.2.1.keep hb, h.2.2⟩
def PtsA (W : World) (v : Value) (ps : List Pt) : Prop := ∃ us : List PtW, RdA 3 W v us.length (us.flatMap ptc) ∧ Al (PtIn W) us ps
theorem PtsA.keep {W W' : World} {v : Value} {ps : List Pt} (h : PtsA W v ps) (hb : Below W.heap.size W W') : PtsA W' v ps := by
 obtain ⟨us, h1, h2⟩ := h
 exact ⟨us, h1.keep hb, h2.mono fun _ _ h => h.keep hb⟩
theorem J4q (l : List Nat) : (byc l).length = l.length := by simp [byc]
def DgOk (d : Dg) : Prop := d.length = 32 ∧ ∀ x ∈ d, x < 256
def DgsA (W : World) (v : Value) (ds : List Dg) : Prop := RdA 32 W v ds.length (ds.flatMap byc) ∧ ∀ d ∈ ds, DgOk d
theorem DgsA.keep {W W' : World} {v : Value} {ds : List Dg} (h : DgsA W v ds) (hb : Below W.heap.size W W') : DgsA W' v ds := ⟨h.1.keep hb, h.2⟩
structure EpW where
 log : Nat
 count : Nat
 closed : Bool
 p : Value
 k : Value
def epc (x : EpW) : List Value := [.int .i64 (x.log : Int), .int .i64 (x.count : Int), .bool x.closed, x.p, x.k]
theorem J16 (x : EpW) : (epc x).length = 5 := rfl
def EpIn (W : World) (x : EpW) (e : Ep) : Prop := (x.log = e.log ∧ x.count = e.count ∧ x.closed = e.closed) ∧ PtsA W x.p e.pts ∧ DgsA W x.k e.peaks
theorem EpIn.keep {W W' : World} {x : EpW} {e : Ep} (h : EpIn W x e) (hb : Below W.heap.size W W') : EpIn W' x e := ⟨h.1, h.2.1.keep hb, h.2.2.keep hb⟩
def EpsA (W : World) (v : Value) (es : List Ep) : Prop := ∃ us : List EpW, RdA 5 W v us.length (us.flatMap epc) ∧ Al (EpIn W) us es
theorem EpsA.keep {W W' : World} {v : Value} {es : List Ep} (h : EpsA W v es) (hb : Below W.heap.size W W') : EpsA W' v es := by
 obtain ⟨us, h1, h2⟩ := h
 exact ⟨us, h1.keep hb, h2.mono fun _ _ h => h.keep hb⟩
theorem RdA.form {size n : Nat} {W : World} {v : Value} {cs : List Value} (h : RdA size W v n cs) (h0 : 0 < n) : ∃ g off cap, v = .slice (some ⟨g, off, none⟩) n cap ∧ n ≤ cap ∧ g < W.heap.size ∧ ∀ j u, cs[j]? = some u → W.cell? ⟨g, off + j, none⟩ = some u := by
 obtain ⟨g, off, cap, h1, h2, _, _, h3, h4⟩ := Rd.form h h0
 exact ⟨g, off, cap, h1, h2, h3, h4⟩
theorem RdA.at {α : Type} {f : α → List Value} {size : Nat} {W : World} {v : Value} {us : List α} (hf : ∀ x, (f x).length = size) (h : RdA size W v us.length (us.flatMap f)) {k : Nat} {u : α} (hk : us[k]? = some u) :
  ∃ g off cap, v = .slice (some ⟨g, off, none⟩) us.length cap ∧ us.length ≤ cap ∧ g < W.heap.size ∧ ∀ j x, (f u)[j]? = some x → W.cell? ⟨g, off + (k * size + j), none⟩ = some x := by
 have h0 : 0 < us.length := by have := (List.getElem?_eq_some_iff.1 hk).1; omega
 obtain ⟨g, off, cap, h1, h2, h3, h4⟩ := h.form h0
 exact ⟨g, off, cap, h1, h2, h3, fun j x hj => h4 _ _ (J1l hf us k j u x hk hj)⟩
theorem EpsA.len {W : World} {v : Value} {es : List Ep} (h : EpsA W v es) : ∃ A cap, v = .slice A es.length cap := by
 obtain ⟨us, h1, h2⟩ := h
 obtain ⟨A, cap, h3⟩ := Rd.len h1
 exact ⟨A, cap, by rw [h3, h2.1]⟩
theorem EpsA.small {W : World} {v : Value} {es : List Ep} (h : EpsA W v es) : es.length ≤ 140737488355327 := by
 obtain ⟨us, h1, h2⟩ := h
 rw [← h2.1]
 exact h1.2.1
theorem PtsA.len {W : World} {v : Value} {es : List Pt} (h : PtsA W v es) : ∃ A cap, v = .slice A es.length cap := by
 obtain ⟨us, h1, h2⟩ := h
 obtain ⟨A, cap, h3⟩ := Rd.len h1
 exact ⟨A, cap, by rw [h3, h2.1]⟩
theorem PtsA.small {W : World} {v : Value} {es : List Pt} (h : PtsA W v es) : es.length ≤ 140737488355327 := by
 obtain ⟨us, h1, h2⟩ := h
 rw [← h2.1]
 exact h1.2.1
theorem DgsA.len {W : World} {v : Value} {ds : List Dg} (h : DgsA W v ds) : ∃ A cap, v = .slice A ds.length cap := Rd.len h.1
theorem EpsA.at {W : World} {v : Value} {es : List Ep} (h : EpsA W v es) {k : Nat} {e : Ep} (hk : es[k]? = some e) : ∃ g off cap p d, v = .slice (some ⟨g, off, none⟩) es.length cap ∧ es.length ≤ cap ∧ g < W.heap.size ∧
  W.cell? ⟨g, off + k * 5, none⟩ = some (.int .i64 (e.log : Int)) ∧ W.cell? ⟨g, off + k * 5 + 1, none⟩ = some (.int .i64 (e.count : Int)) ∧ W.cell? ⟨g, off + k * 5 + 2, none⟩ = some (.bool e.closed) ∧
  W.cell? ⟨g, off + k * 5 + 3, none⟩ = some p ∧ W.cell? ⟨g, off + k * 5 + 4, none⟩ = some d ∧ PtsA W p e.pts ∧ DgsA W d e.peaks := by
 obtain ⟨us, h1, h2⟩ := h
 have hl : k < es.length := (List.getElem?_eq_some_iff.1 hk).1
 obtain ⟨u, e', hu, he', hR⟩ := h2.get hl
 obtain rfl : e' = e := Option.some.inj (he'.symm.trans hk)
 obtain ⟨g, off, cap, q1, q2, q3, q4⟩ := RdA.at J16 h1 hu
 obtain ⟨⟨r1, r2, r3⟩, r4, r5⟩ := hR
 refine ⟨g, off, cap, u.p, u.k, by rw [q1, h2.1], by rw [← h2.1]; exact q2, q3, ?_, ?_, ?_, ?_, ?_, r4, r5⟩
 · rw [← r1]; exact q4 0 _ rfl
 · rw [← r2, Nat.add_assoc]; exact q4 1 _ rfl
 · rw [← r3, Nat.add_assoc]; exact q4 2 _ rfl
 · rw [Nat.add_assoc]; exact q4 3 _ rfl
 · rw [Nat.add_assoc]; exact q4 4 _ rfl
theorem PtsA.at {W : World} {v : Value} {ps : List Pt} (h : PtsA W v ps) {k : Nat} {p : Pt} (hk : ps[k]? = some p) : ∃ g off cap r x, v = .slice (some ⟨g, off, none⟩) ps.length cap ∧ ps.length ≤ cap ∧ g < W.heap.size ∧
  W.cell? ⟨g, off + k * 3, none⟩ = some r ∧ W.cell? ⟨g, off + k * 3 + 1, none⟩ = some x ∧ W.cell? ⟨g, off + k * 3 + 2, none⟩ = some (.bool p.used) ∧ ExA W r p.R ∧ ExA W x p.V := by
 obtain ⟨us, h1, h2⟩ := h
 have hl : k < ps.length := (List.getElem?_eq_some_iff.1 hk).1
 obtain ⟨u, e', hu, he', hR⟩ := h2.get hl
 obtain rfl : e' = p := Option.some.inj (he'.symm.trans hk)
 obtain ⟨g, off, cap, q1, q2, q3, q4⟩ := RdA.at J27 h1 hu
 obtain ⟨r1, r2, r3⟩ := hR
 refine ⟨g, off, cap, u.r, u.v, by rw [q1, h2.1], by rw [← h2.1]; exact q2, q3, ?_, ?_, ?_, r1, r2⟩
 · exact q4 0 _ rfl
 · rw [Nat.add_assoc]; exact q4 1 _ rfl
 · rw [← r3, Nat.add_assoc]; exact q4 2 _ rfl
theorem DgsA.at {W : World} {v : Value} {ds : List Dg} (h : DgsA W v ds) {k : Nat} {d : Dg} (hk : ds[k]? = some d) : ∃ g off cap, v = .slice (some ⟨g, off, none⟩) ds.length cap ∧ ds.length ≤ cap ∧ g < W.heap.size ∧ W.rangeAt g (off + k * 32) (byc d) ∧ DgOk d := by
 have hl : k < ds.length := (List.getElem?_eq_some_iff.1 hk).1
 have hd := h.2 d (List.mem_of_getElem? hk)
 obtain ⟨g, off, cap, h1, h2, h3, h4⟩ := h.1.form (by omega)
 refine ⟨g, off, cap, h1, h2, h3, fun j v hj => ?_, hd⟩
 rw [Nat.add_assoc]
 refine h4 _ _ ?_
 have hj2 : j < 32 := by
  have := (List.getElem?_eq_some_iff.1 hj).1
  rw [J4q, hd.1] at this
  exact this
 have hall : ∀ (l : List Dg), (∀ x ∈ l, DgOk x) → ∀ (k : Nat) (d : Dg), l[k]? = some d → (l.flatMap byc)[k * 32 + j]? = (byc d)[j]? := by
  intro l
  induction l with
  | nil => intro _ k d hk; cases hk
  | cons y l ih =>
   intro hl k d hk
   have hy : (byc y).length = 32 := by rw [J4q]; exact (hl y (List.mem_cons_self ..)).1
   rcases k with _ | k
   ·
    cases hk
    rw [List.flatMap_cons, Nat.zero_mul, Nat.zero_add, List.getElem?_append_left (by omega)]
   ·
    rw [List.flatMap_cons, List.getElem?_append_right (by rw [hy, Nat.succ_mul]; omega), hy, show (k + 1) * 32 + j - 32 = k * 32 + j by rw [Nat.succ_mul]; omega]
    exact ih (fun x hx => hl x (List.mem_cons_of_mem _ hx)) k d (by simpa using hk)
 rw [hall ds h.2 k d hk]
 exact hj
def mtc (m : Mt) (v : Value) : List Value := .int .u64 (m.ver : Int) :: (byc m.seed ++ [v])
def mtV (m : Mt) (v : Value) : Value := .agg (mtc m v).toArray
theorem J0 (m : Mt) (v : Value) (h : m.seed.length = 32) : (mtc m v).length = 34 := by simp [mtc, byc, h]
theorem mtc_33 (m : Mt) (v : Value) (h : m.seed.length = 32) : (mtc m v)[33]? = some v := by
 unfold mtc
 rw [List.getElem?_cons_succ, List.getElem?_append_right (by rw [J4q, h]; omega), J4q, h]
 rfl
theorem Jg2 (m : Mt) (v x : Value) (h : m.seed.length = 32) : (mtc m v).set 33 x = mtc m x := by
 unfold mtc
 rw [List.set_cons_succ, List.set_append_right _ _ (by rw [J4q, h]; omega), J4q, h]
 rfl
theorem J11 {W : World} {g : Nat} {t : TypeId} {m : Mt} {v : Value} (b : Blk W g t (mtc m v).toArray) (h : m.seed.length = 32) : W.cell? ⟨g, 33, none⟩ = some v := by
 rw [b.cell]
 simpa using mtc_33 m v h
theorem J4r {W : World} {g : Nat} {t : TypeId} {m : Mt} {v : Value} (b : Blk W g t (mtc m v).toArray) : W.cell? ⟨g, 0, none⟩ = some (.int .u64 (m.ver : Int)) := by
 rw [b.cell]
 simp [mtc]
theorem J5v {W : World} {g : Nat} {t : TypeId} {m : Mt} {v : Value} (b : Blk W g t (mtc m v).toArray) : W.rangeAt g 1 (byc m.seed) := fun j u hu => by
 rw [b.cell]
 have hj := (List.getElem?_eq_some_iff.1 hu).1
 simp only [List.getElem?_toArray]
 unfold mtc
 rw [show 1 + j = j + 1 by omega, List.getElem?_cons_succ, List.getElem?_append_left hj]
 exact hu
theorem J9 : Tryz.prog.underlying 35 = some (.struct (Tryz.prog.fieldsOf 35)) := by kernel_rfl
theorem J5 : (Tryz.prog.info? 35).map (·.size) = some 34 := by kernel_rfl
end
section
open Go.RowKit

theorem Jlz {l : List Nat} : Fit (ByA l) (SlF l.length) := ⟨by_st, fun _ => ⟨.slice none l.length 0, none, 0, rfl⟩, fun _ _ _ _ h => by
 obtain ⟨A, cap, e⟩ := Rd.len h
 exact ⟨A, cap, e⟩⟩
theorem Jai {w w' : World} {n m k : Nat} {x : Value} {vs : List Value} {ps : List (List Nat)} (h : Lit 56 k vs.toArray n m x w') (hk : k = vs.length) (hs : vs.length ≤ 1000) (hm : m = w'.heap.size) (hl : vs.length = ps.length) (hB : Below w.heap.size w w')
  (ha : ∀ (i : Nat) u p, vs[i]? = some u → ps[i]? = some p → ∃ lo hi, ByS lo hi w u p) : BylA ps n m x w' := by
 obtain ⟨rfl, hn, hb⟩ := h
 subst hm
 subst hk
 refine ⟨vs, hl, ⟨by rw [hl]; simp, by omega, some ⟨n, 0, none⟩, vs.length, by rw [hl], by omega, fun _ => ⟨n, 0, rfl, Nat.le_refl _, hn, hb.lt, fun j x hj => ?_⟩⟩, fun i x p hx hp => ?_⟩
 ·
  rw [Nat.zero_add, hb.cell]
  simpa using hj
 ·
  obtain ⟨lo, hi, q⟩ := ha i x p hx hp
  exact Jjh q hB
theorem bys2 {w : World} {u1 u2 : Value} {p1 p2 : List Nat} {l1 h1 l2 h2 : Nat} (a : ByS l1 h1 w u1 p1) (b : ByS l2 h2 w u2 p2) : ∀ (i : Nat) u p, [u1, u2][i]? = some u → [p1, p2][i]? = some p → ∃ lo hi, ByS lo hi w u p := fun i u p hu hp => by
 rcases i with _ | _ | i
 · cases hu; cases hp; exact ⟨_, _, a⟩
 · cases hu; cases hp; exact ⟨_, _, b⟩
 · cases hu
theorem bys3 {w : World} {u1 u2 u3 : Value} {p1 p2 p3 : List Nat} {l1 h1 l2 h2 l3 h3 : Nat} (a : ByS l1 h1 w u1 p1) (b : ByS l2 h2 w u2 p2) (c : ByS l3 h3 w u3 p3) : ∀ (i : Nat) u p, [u1, u2, u3][i]? = some u → [p1, p2, p3][i]? = some p → ∃ lo hi, ByS lo hi w u p := fun i u p hu hp => by
 rcases i with _ | _ | _ | i
 · cases hu; cases hp; exact ⟨_, _, a⟩
 · cases hu; cases hp; exact ⟨_, _, b⟩
 · cases hu; cases hp; exact ⟨_, _, c⟩
 · cases hu
theorem J3z : ∀ args w, (callFunc 124 args).run Tryz.prog w = .ok (.enter 124 args) w := J5l
theorem J8c : En Tryz.prog 105 := enters_of Tryz.func105 (by kernel_rfl) rfl
theorem J3j : En Tryz.prog 107 := enters_of Tryz.func107 (by kernel_rfl) rfl
attribute [local irreducible] wpRg
theorem gLeaf (b : List Nat) (hn : b.length ≤ 900000) (hb8 : ∀ x ∈ b, x < 256) (v : Value) (lo hi : Nat) (w : World) (hL : Lsh w) (h : ByS lo hi w v b) : Calls Tryz.prog 105 #[v] w (Ret (dgv (leafD b)) w) := by
 obtain ⟨A, cap, rfl⟩ := h.len
 obtain ⟨isl, hsl, sz0, sz1, sz2⟩ := info_parts Ja7
 have HV := Lib.hid h
 have HL := Lib.hid hL
 have H8 := Lib.hid (show ∀ x ∈ [[0], b].flatten, x < 256 by
  intro x hx
  simp only [List.flatten_cons, List.flatten_nil, List.append_nil, List.mem_append, List.mem_singleton] at hx
  rcases hx with hx | hx
  · rw [hx]; decide
  · exact hb8 x hx)
 have HF := Lib.hid (show [[0], b].flatten.length ≤ 1000000 by simp; omega)
 have HE := Lib.hid (show sha [[0], b].flatten = leafD b by unfold leafD; simp)
 clear h hL hb8
 go_enter Tryz.func105, Tryz.ntmps105
 go_upto_region 1 with (fail)
 refine J13 fun W hB hz b1 => ?_
 obtain ⟨cs0, hcs0, b1'⟩ : ∃ cs : Array Value, cs.size = 32 ∧ Blk W w.heap.size 23 cs := ⟨_, rfl, b1⟩
 clear b1 hz
 refine wp_region_lit ?_
 refine wpSk rfl (J4p [0] rfl (by decide) (by decide) rfl (by simp [Act.eval, byc])) fun v3 w3 hh => ?_
 obtain ⟨s3, B3⟩ := hh
 try simp only [PutS]
 obtain ⟨A0, c0, rfl⟩ := Rd.len s3
 have hB3 := hB.trans (B3.mono hB.size)
 refine wpList_plain rfl fun K hK => ?_; go_big_op; refine hK _ _ ?_; clear hK K
 refine wpSk rfl (J2l (parts := [(0, .tmp 3), (1, .tmp 4)]) (vs := [.slice A0 1 c0, .slice A b.length cap]) J7i hsl sz0 sz1 rfl (by simp) (by simp) rfl rfl (by simp [Value.cells])) fun v5 w5 hh => ?_
 obtain ⟨l5, B5⟩ := hh
 try simp only [PutS]
 have y5 := Jai (ps := [[0], b]) l5 rfl (by simp) rfl rfl B5 (bys2 s3 (HV.out.keep hB3))
 have hB5 := hB3.trans (B5.mono hB3.size)
 refine wpSk rfl (Jp J5l (gConcat [[0], b] HF.out (by simp) _ _ _ w5 y5.byl) rfl rfl) fun v6 w6 hh => ?_
 obtain ⟨o6, B6⟩ := hh
 try simp only [PutS]
 have hB6 := hB5.trans (B6.mono hB5.size)
 refine wpSk rfl (J7 J2t (gSum _ HF.out H8.out _ _ _ w6 (HL.out.keep hB6) (o6.bys (Nat.le_trans HF.out (by decide)))) rfl rfl) fun v7 w7 hh => ?_
 obtain ⟨rfl, B7⟩ := hh
 try simp only [PutS]
 have hBz := hB6.trans (B7.mono hB6.size)
 rw [HE.out]
 have b1z := (((b1'.keep B3).keep B5).keep B6).keep B7
 refine J6 rfl 23 (.tmp 2) (.tmp 7) rfl rfl (cells := byc (leafD b)) rfl b1z (by rw [J3, leafD, Js, hcs0]; decide) (by rw [Jc, J3, leafD, Js]) (Jw _) (Ja _ _ (by rw [hcs0, J3, leafD, Js])) fun Y hY bY => ?_
 have hBY := J2 hBz hY (Nat.le_refl _)
 clear b1z hBz b1' hB3 hB5 hB6 B3 B5 B6 B7 s3 l5 y5 o6 sz0 sz1 sz2 hsl
 go_wp2_with fail
 exact bodyPost_ret (v := dgv (leafD b)) (Jv (g := w.heap.size) rfl rfl Jg rfl (by rw [Jc, J3, leafD, Js]) bY) rfl ⟨rfl, hBY⟩
theorem Jc1 {W : World} {g : Nat} {t : TypeId} {d : List Nat} (h : Blk W g t (byc d).toArray) (hd : d.length = 32) : ByS 0 W.heap.size W (.slice (some ⟨g, 0, none⟩) 32 32) d := by
 have := J6r (lo := 0) (hi := W.heap.size) (l := d) h (by omega) (Nat.zero_le _) h.lt
 rwa [hd] at this
theorem gPair (a b : Dg) (ha : DgOk a) (hb : DgOk b) (w : World) (hL : Lsh w) : Calls Tryz.prog 107 #[dgv a, dgv b] w (Ret (dgv (pairD a b)) w) := by
 obtain ⟨Sa, hSa⟩ : ∃ S, S = dgv a := ⟨_, rfl⟩
 obtain ⟨Sb, hSb⟩ : ∃ S, S = dgv b := ⟨_, rfl⟩
 rw [← hSa, ← hSb]
 obtain ⟨isl, hsl, sz0, sz1, sz2⟩ := info_parts Ja7
 have HL := Lib.hid hL
 have HA := Lib.hid ha
 have HB := Lib.hid hb
 have H8 := Lib.hid (show ∀ x ∈ [[1], a, b].flatten, x < 256 by
  intro x hx
  simp only [List.flatten_cons, List.flatten_nil, List.append_nil, List.mem_append, List.mem_singleton] at hx
  rcases hx with hx | hx | hx
  · rw [hx]; decide
  · exact ha.2 x hx
  · exact hb.2 x hx)
 have HF := Lib.hid (show [[1], a, b].flatten.length ≤ 1000000 by simp [ha.1, hb.1])
 have HE := Lib.hid (show sha [[1], a, b].flatten = pairD a b by unfold pairD; simp)
 clear hL ha hb
 go_enter Tryz.func107, Tryz.ntmps107
 go_upto_region 1 with (fail)
 refine J26 fun W hB hz b2 b3 b4 => ?_
 have b2' : Blk W w.heap.size 23 (byc a).toArray := by first | exact b2 | (rw [hSa] at b2; exact b2)
 have b3' : Blk W (w.heap.size + 1) 23 (byc b).toArray := by first | exact b3 | (rw [hSb] at b3; exact b3)
 obtain ⟨cs0, hcs0, b4'⟩ : ∃ cs : Array Value, cs.size = 32 ∧ Blk W (w.heap.size + 1 + 1) 23 cs := ⟨_, rfl, b4⟩
 clear b2 b3 b4 hz hSa hSb
 refine Jd 6 [(0, Spec.rel (ByA [1]) (SlF 1)), (3, Spec.rel (BylA [[1], a, b]) AnyV), (4, Spec.rel (OwA ([[1], a, b].flatten)) AnyV), (5, Spec.val (dgv (sha [[1], a, b].flatten)))] (by kernel_rfl) (by kernel_rfl) (by kernel_rfl) ⟨Jlz, fit_of (byl_st), fit_of (ow_st), trivial⟩ ?_
 refine rg_rel rfl rfl (fun W1 hW1 hF => J4p [1] rfl (by decide) (by decide) rfl (by simp [Act.eval, Act.put, byc])) ?_
 intro n0 m0 v0 hn0 hm0 hd0 hf0 a' ha
 simp only [PutS] at ha
 subst ha
 obtain ⟨A0, cap0, rfl⟩ := hf0
 iterate 2 (refine rg_det rfl rfl rfl (fun K hK => ?_); go_big_quiet_op; refine hK _ ?_; clear hK K)
 refine rg_rel rfl rfl (fun W1 hW1 hF => Jb (fun v w' hh => ⟨Jai hh.1 rfl (by simp) rfl rfl hh.2 (bys3 (J1a hF (by kernel_rfl)).2 (Jc1 (b2'.keep (J8 hW1)) HA.out.1) (Jc1 (b3'.keep (J8 hW1)) HB.out.1)), hh.2⟩) (J2l (parts := [(0, .tmp 5), (1, .tmp 6), (2, .tmp 7)]) (vs := [.slice A0 1 cap0, .slice (some ⟨w.heap.size, 0, none⟩) 32 32, .slice (some ⟨w.heap.size + 1, 0, none⟩) 32 32]) J7i hsl sz0 sz1 rfl (by simp) (by simp) rfl rfl (by simp [Value.cells]))) ?_
 intro n3 m3 v3 hn3 hm3 hd3 hf3 a' ha
 simp only [PutS] at ha
 subst ha
 refine rg_rel rfl rfl (fun W1 hW1 hF => Jp J3z (gConcat [[1], a, b] HF.out (by simp) _ _ _ W1 (J1a hF (by kernel_rfl)).2.byl) rfl rfl) ?_
 intro n4 m4 v4 hn4 hm4 hd4 hf4 a' ha
 simp only [PutS] at ha
 subst ha
 refine rg_val rfl rfl (fun W1 hW1 hF => J7 J2t (gSum _ HF.out H8.out _ _ _ W1 (HL.out.keep (hB.trans ((J8 hW1).mono hB.size))) ((J1a hF (by kernel_rfl)).2.bys (Nat.le_trans HF.out (by decide)))) rfl rfl) ?_
 intro a' ha
 simp only [PutS] at ha
 subst ha
 refine rg_nil (fun w' hw' hF => ?_)
 obtain ⟨z, rfl⟩ := hw'
 simp only [List.drop_succ_cons, List.drop_zero]
 rw [HE.out]
 have b1z := b4'.gw z
 have hBz := hB.trans (z.h.mono hB.size)
 refine J6 rfl 23 (.tmp 4) (.tmp 10) rfl rfl (cells := byc (pairD a b)) rfl b1z (by rw [J3, pairD, Js, hcs0]; decide) (by rw [Jc, J3, pairD, Js]) (Jw _) (Ja _ _ (by rw [hcs0, J3, pairD, Js])) fun Y hY bY => ?_
 have hBY := J2 hBz hY (by omega)
 clear hF b1z hBz b2' b3' b4' sz0 sz1 sz2 hsl
 go_wp2_with fail
 exact bodyPost_ret (v := dgv (pairD a b)) (Jv (g := w.heap.size + 1 + 1) rfl rfl Jg rfl (by rw [Jc, J3, pairD, Js]) bY) rfl ⟨rfl, hBY⟩
end
section
open Go.RowKit

theorem Jjn : (Tryz.prog.info? 162).map (fun i => (i.zero, i.size, i.bytes)) = some (some (.agg (zb 64).toArray), 64, 64) := by kernel_rfl
def mskG (key : Dg) (m k : Nat) : List Nat := (key.take k).map (fun x => x ^^^ m) ++ List.replicate (64 - k) m
theorem Jea (key : Dg) (m k : Nat) (h : key.length = 32) (hk : k < 32) : (mskG key m k)[k]? = some m := by
 unfold mskG
 rw [List.getElem?_append_right (by simp; omega)]
 have e : k - ((key.take k).map fun x => x ^^^ m).length = 0 := by simp [h]; omega
 rw [e, List.getElem?_replicate]
 rw [if_pos (by omega)]
theorem Jcw (key : Dg) (m k x : Nat) (h : key.length = 32) (hx : key[k]? = some x) : mskG key m (k + 1) = (mskG key m k).set k (x ^^^ m) := by
 have hk : k < 32 := by rw [← h]; exact (List.getElem?_eq_some_iff.1 hx).1
 unfold mskG
 rw [List.take_add_one, hx, List.map_append, List.set_append_right _ _ (by simp; omega)]
 simp only [Option.toList_some, List.map_cons, List.map_nil, List.append_assoc, List.length_map, List.length_take, h]
 rw [show k - min k 32 = 0 by omega, show 64 - k = (64 - (k + 1)) + 1 by omega, List.replicate_succ, List.set_cons_zero]
 rfl
theorem Jeb (key : Dg) (m : Nat) (h : key.length = 32) : mskG key m 32 = maskK key m := by
 unfold mskG maskK
 rw [List.take_of_length_le (by omega), List.map_append]
 simp
theorem Jcx (key : Dg) (m : Nat) : mskG key m 0 = List.replicate 64 m := by simp [mskG]
theorem Jg3 (l : List Nat) (k x : Nat) : (byc l).set k (.int .u8 (x : Int)) = byc (l.set k x) := by unfold byc; rw [List.map_set]
theorem Jec (k m : Nat) : List.replicate (k + 1) m = List.replicate k m ++ [m] := List.replicate_succ'
theorem set11 {M : World → Prop} {w : World} {g h i j : Nat} {t u : TypeId} {cs ds : Array Value} {v x : Value} (b1 : Blk w g t cs) (b2 : Blk w h u ds) (hne : g ≠ h) (H : ∀ X1 X2, Put w X1 g → Put X1 X2 h → Blk X2 g t (cs.setIfInBounds i v) → Blk X2 h u (ds.setIfInBounds j x) → M X2) :
  M ((w.setCell ⟨g, i, none⟩ v).setCell ⟨h, j, none⟩ x) :=
 H _ _ (Put.set w g i v) (Put.set _ h j x) ((Put.set _ h j x).blk (b1.set_ i v) hne) (((Put.set w g i v).blk b2 (fun e => hne e.symm)).set_ j x)
theorem Jm0 {key : Dg} {k x : Nat} (h : key.length = 32) (hk : k < 32) (hx : key[k]? = some x) (w : World) : (Instr.index 23 (.agg (byc key).toArray) (.int .i64 (k : Int))).run Tryz.prog w = .ok (.int .u8 (x : Int)) w := by
 obtain ⟨i, hi, hs⟩ : ∃ i, Tryz.prog.info? 5 = some i ∧ i.size = 1 := by
  obtain ⟨i, h1, -, h2, -⟩ := info_parts J22
  exact ⟨i, h1, h2⟩
 have h1 : (k : Int) < 32 := by omega
 have h2 : (byc key)[k]? = some (.int .u8 (x : Int)) := by simp [byc, hx]
 have h3 : k < (byc key).length := by rw [J4q, h]; exact hk
 generalize byc key = l at *
 obtain ⟨_, h4⟩ := List.getElem?_eq_some_iff.1 h2
 simp [Instr.index, asIntOf, run_underlying Jg, run_underlying Jbc, part, sizeOf, typeInfo, hi, hs, h1, h4, h2, h3]
 omega
theorem Jg4 : ((List.range 256).all fun x => (bits .xor .u8 54 (x : Int) == ((x ^^^ 54 : Nat) : Int)) && (bits .xor .u8 92 (x : Int) == ((x ^^^ 92 : Nat) : Int))) = true := by kernel_rfl
theorem xor54 {x : Nat} (h : x < 256) : bits .xor .u8 54 (x : Int) = ((x ^^^ 54 : Nat) : Int) := by
 have := List.all_eq_true.1 Jg4 x (List.mem_range.2 h)
 simp only [Bool.and_eq_true, beq_iff_eq] at this
 exact this.1
theorem xor92 {x : Nat} (h : x < 256) : bits .xor .u8 92 (x : Int) = ((x ^^^ 92 : Nat) : Int) := by
 have := List.all_eq_true.1 Jg4 x (List.mem_range.2 h)
 simp only [Bool.and_eq_true, beq_iff_eq] at this
 exact this.2
theorem byc_64 {W : World} {g : Nat} {t : TypeId} {d : List Nat} (h : Blk W g t (byc d).toArray) (hd : d.length = 64) : ByS 0 W.heap.size W (.slice (some ⟨g, 0, none⟩) 64 64) d := by
 have := J6r (lo := 0) (hi := W.heap.size) (l := d) h (by omega) (Nat.zero_le _) h.lt
 rwa [hd] at this
theorem J80 : En Tryz.prog 99 := enters_of Tryz.func99 (by kernel_rfl) rfl
attribute [local irreducible] wpRg
theorem gKeyed (key : Dg) (hk : DgOk key) (b : List Nat) (hb : b.length ≤ 900000) (hb8 : ∀ x ∈ b, x < 256) (v : Value) (lo hi : Nat) (w : World) (hL : Lsh w) (h : ByS lo hi w v b) : Calls Tryz.prog 99 #[dgv key, v] w (Ret (dgv (keyD key b)) w) := by
 obtain ⟨A, cap, rfl⟩ := h.len
 obtain ⟨Sk, hSk⟩ : ∃ S, S = dgv key := ⟨_, rfl⟩
 rw [← hSk]
 obtain ⟨isl, hsl, sz0, sz1, sz2⟩ := info_parts Ja7
 obtain ⟨i64, h64, iz0, iz1, iz2⟩ := info_parts Jjn
 have HV := Lib.hid h
 have HL := Lib.hid hL
 have HK := Lib.hid hk
 have H8 := Lib.hid hb8
 clear h hL hk hb8
 go_enter Tryz.func99, Tryz.ntmps99
 go_upto_region 1 with (fail)
 refine J1h fun W hB hz b2 b4 => ?_
 have b2' : Blk W w.heap.size 23 (byc key).toArray := by first | exact b2 | (rw [hSk] at b2; exact b2)
 obtain ⟨cs0, hcs0, b4'⟩ : ∃ cs : Array Value, cs.size = 32 ∧ Blk W (w.heap.size + 1) 23 cs := ⟨_, rfl, b4⟩
 have hWs : W.heap.size = w.heap.size + 1 + 1 := hz.out
 clear b2 b4 hz
 refine wp_region_lit ?_
 refine wpSk rfl (Jl h64 iz0 rfl) fun v5 w5 hh => ?_
 obtain ⟨rfl, rfl⟩ := hh
 try simp only [PutS]
 have c5 : Blk (W.alloc (.cells (Value.agg (zb 64).toArray).cells 162)) W.heap.size 162 (zb 64).toArray := World.alloc_heap_new W _
 have B5 := (Below.refl _ W).alloc (Nat.le_refl _) (.cells (Value.agg (zb 64).toArray).cells 162)
 have s5 : (W.alloc (.cells (Value.agg (zb 64).toArray).cells 162)).heap.size = W.heap.size + 1 := by simp
 generalize W.alloc (.cells (Value.agg (zb 64).toArray).cells 162) = w5 at *
 refine wpSk rfl (Jl h64 iz0 rfl) fun v6 w6 hh => ?_
 obtain ⟨rfl, rfl⟩ := hh
 try simp only [PutS]
 have c6 : Blk (w5.alloc (.cells (Value.agg (zb 64).toArray).cells 162)) w5.heap.size 162 (zb 64).toArray := World.alloc_heap_new w5 _
 have B6 := (Below.refl _ w5).alloc (Nat.le_refl _) (.cells (Value.agg (zb 64).toArray).cells 162)
 have s6 : (w5.alloc (.cells (Value.agg (zb 64).toArray).cells 162)).heap.size = w5.heap.size + 1 := by simp
 generalize w5.alloc (.cells (Value.agg (zb 64).toArray).cells 162) = w6 at *
 have c5' := c5.keep B6
 have b26 := (b2'.keep B5).keep B6
 have b46 := (b4'.keep B5).keep B6
 have hB6 := (hB.trans (B5.mono hB.size)).trans (B6.mono (by omega))
 rw [s5] at c6 ⊢
 obtain ⟨g5, hg5⟩ : ∃ g, g = W.heap.size := ⟨_, rfl⟩
 rw [← hg5] at c5' c6 ⊢
 have hg : w.heap.size + 1 + 1 = g5 := by omega
 have c50 : Blk w6 g5 162 (arrB 64 (List.replicate 0 54)).toArray := by rw [List.replicate_zero, J8k]; exact c5'
 have c60 : Blk w6 (g5 + 1) 162 (arrB 64 (List.replicate 0 92)).toArray := by rw [List.replicate_zero, J8k]; exact c6
 clear c5 c5' c6 B5 B6 s5 s6 b2' b4' hB hWs hg5
 try simp only [PutS]
 go_wp2_with fail
 go_loopw [11] (fun i wr => ∃ k : Nat, k ≤ 64 ∧ i = .int .i64 k ∧ Blk wr g5 162 (arrB 64 (List.replicate k 54)).toArray ∧ Blk wr (g5 + 1) 162 (arrB 64 (List.replicate k 92)).toArray ∧ Blk wr w.heap.size 23 (byc key).toArray ∧ Blk wr (w.heap.size + 1) 23 cs0 ∧ Below w.heap.size w wr) (fun i _ => 64 - (intOf i).toNat)
 case atStart => exact ⟨0, Nat.zero_le _, rfl, c50, c60, b26, b46, hB6⟩
 case round =>
  clear c50 c60 b26 b46 hB6
  obtain ⟨k, hk, rfl, c5, c6, b2, b4, hBr⟩ := hrel
  by_cases hlt : k < 64
  ·
   have e1 := c5.frozen
   have e3 := c6.frozen
   have e2 : wr.cell? ⟨g5, k, none⟩ = some (.int .u8 0) := (c5.cell k).trans (by have := J8i 64 (List.replicate k 54) (by simpa using hlt); rw [List.length_replicate] at this; simpa using this)
   have e4 : wr.cell? ⟨g5 + 1, k, none⟩ = some (.int .u8 0) := (c6.cell k).trans (by have := J8i 64 (List.replicate k 92) (by simpa using hlt); rw [List.length_replicate] at this; simpa using this)
   go_upto_region 6 with (fail)
   refine set11 (M := fun W => Code.wp _ _ _ _ W) c5 c6 (by omega) fun X1 X2 hX1 hX2 bX5 bX6 => ?_
   have c5X : Blk X2 g5 162 (arrB 64 (List.replicate (k + 1) 54)).toArray := by
    have := J9b 64 (List.replicate k 54) 54 (by simpa using hlt)
    rw [List.length_replicate] at this
    rw [Jec, ← this, ← List.setIfInBounds_toArray]
    exact bX5
   have c6X : Blk X2 (g5 + 1) 162 (arrB 64 (List.replicate (k + 1) 92)).toArray := by
    have := J9b 64 (List.replicate k 92) 92 (by simpa using hlt)
    rw [List.length_replicate] at this
    rw [Jec, ← this, ← List.setIfInBounds_toArray]
    exact bX6
   have b2X := hX2.blk (hX1.blk b2 (by omega)) (by omega)
   have b4X := hX2.blk (hX1.blk b4 (by omega)) (by omega)
   have hBX := J2 (J2 hBr hX1 (by omega)) hX2 (by omega)
   clear e1 e2 e3 e4 bX5 bX6
   go_wp2_with fail
   exact ⟨⟨k + 1, by omega, by go_num, c5X, c6X, b2X, b4X, hBX⟩, by simp [intOf]; omega⟩
  ·
   obtain rfl : k = 64 := by omega
   have hkl := HK.out.1
   rw [J8j 64 _ (by simp), ← Jcx key 54] at c5
   rw [J8j 64 _ (by simp), ← Jcx key 92] at c6
   go_upto_region 7 with (fail)
   refine wp_region_lit ?_
   refine wpSk rfl (J1 (cs := byc key) Jg rfl (by rw [Jc, J3, hkl]) rfl rfl (J4 b2)) fun v19 w19 hh => ?_
   obtain ⟨rfl, rfl⟩ := hh
   try simp only [PutS]
   have b2' : Blk w19 w.heap.size 23 (byc key).toArray := b2
   refine wpList_plain rfl fun K hK => ?_; go_big_op; refine hK _ _ ?_; clear hK K
   try simp only [PutS]
   have HSk := Lib.hid hSk
   clear hSk
   obtain ⟨S1, hS1⟩ : ∃ S, S = Value.agg (byc key).toArray := ⟨_, rfl⟩
   rw [← hS1]
   have HS1 := Lib.hid hS1
   clear hS1
   go_wp2_with fail
   go_loopw [20] (fun i wr => ∃ k : Nat, k ≤ 32 ∧ i = .int .i64 k ∧ Blk wr g5 162 (byc (mskG key 54 k)).toArray ∧ Blk wr (g5 + 1) 162 (byc (mskG key 92 k)).toArray ∧ Blk wr w.heap.size 23 (byc key).toArray ∧ Blk wr (w.heap.size + 1) 23 cs0 ∧ Below w.heap.size w wr) (fun i _ => 32 - (intOf i).toNat)
   case atStart => exact ⟨0, Nat.zero_le _, rfl, c5, c6, b2', b4, hBr⟩
   case round =>
    clear c5 c6 b2' b2 b4 hBr
    obtain ⟨k, hk, rfl, c5, c6, b2, b4, hBr⟩ := hrel
    by_cases hlt : k < 32
    ·
     obtain ⟨x, hx⟩ : ∃ x, key[k]? = some x := ⟨key[k]'(by omega), List.getElem?_eq_getElem (by omega)⟩
     have hx8 : x < 256 := HK.out.2 x (List.mem_of_getElem? hx)
     have e1 := c5.frozen
     have e3 := c6.frozen
     have e2 : wr.cell? ⟨g5, k, none⟩ = some (.int .u8 54) := (c5.cell k).trans (by simp [byc, Jea key 54 k hkl hlt])
     have e4 : wr.cell? ⟨g5 + 1, k, none⟩ = some (.int .u8 92) := (c6.cell k).trans (by simp [byc, Jea key 92 k hkl hlt])
     have hix := Jm0 (key := key) hkl hlt hx
     rw [← HS1.out] at hix
     go_upto_region 12 with (fail)
     rw [xor54 hx8, xor92 hx8]
     refine set11 (M := fun W => Code.wp _ _ _ _ W) c5 c6 (by omega) fun X1 X2 hX1 hX2 bX5 bX6 => ?_
     rw [List.setIfInBounds_toArray, Jg3, ← Jcw key 54 k x hkl hx] at bX5
     rw [List.setIfInBounds_toArray, Jg3, ← Jcw key 92 k x hkl hx] at bX6
     have b2X := hX2.blk (hX1.blk b2 (by omega)) (by omega)
     have b4X := hX2.blk (hX1.blk b4 (by omega)) (by omega)
     have hBX := J2 (J2 hBr hX1 (by omega)) hX2 (by omega)
     clear e1 e2 e3 e4 hix c5 c6 b2 b4 hBr hX1 hX2
     go_wp2_with fail
     exact ⟨⟨k + 1, by omega, by go_num, bX5, bX6, b2X, b4X, hBX⟩, by simp [intOf]; omega⟩
    ·
     obtain rfl : k = 32 := by omega
     rw [Jeb key 54 hkl] at c5
     rw [Jeb key 92 hkl] at c6
     have hm : ∀ m, m < 256 → ∀ x ∈ maskK key m, x < 256 := fun m hm x hx => by
      unfold maskK at hx
      obtain ⟨y, hy, rfl⟩ := List.mem_map.1 hx
      refine Nat.xor_lt_two_pow (n := 8) ?_ hm
      rcases List.mem_append.1 hy with hy | hy
      · exact HK.out.2 y hy
      · rw [(List.mem_replicate.1 hy).2]; decide
     have hml : ∀ m, (maskK key m).length = 64 := fun m => by simp [maskK, hkl]
     have s5 := J6r (lo := 0) (hi := wr.heap.size) c5 (by rw [hml]; decide) (Nat.zero_le _) c5.lt
     rw [hml] at s5
     go_upto_region 13 with (fail)
     refine wp_region_lit ?_
     iterate 2 (refine wpList_plain rfl fun K hK => ?_; go_big_op; refine hK _ _ ?_; clear hK K)
     refine wpSk rfl (J2l (parts := [(0, .tmp 37), (1, .tmp 38)]) (vs := [.slice (some ⟨g5, 0, none⟩) 64 64, .slice A b.length cap]) J7i hsl sz0 sz1 rfl (by simp) (by simp) rfl rfl (by simp [Value.cells])) fun v39 w39 hh => ?_
     obtain ⟨l39, B39⟩ := hh
     try simp only [PutS]
     have y39 := Jai (ps := [maskK key 54, b]) l39 rfl (by simp) rfl rfl B39 (bys2 s5 (HV.out.keep hBr))
     have hB39 := hBr.trans (B39.mono hBr.size)
     have hF1 : [maskK key 54, b].flatten.length ≤ 1000000 := by simp [hml]; omega
     refine wpSk rfl (Jp J5l (gConcat [maskK key 54, b] hF1 (by simp) _ _ _ w39 y39.byl) rfl rfl) fun v40 w40 hh => ?_
     obtain ⟨o40, B40⟩ := hh
     try simp only [PutS]
     have hB40 := hB39.trans (B40.mono hB39.size)
     have h81 : ∀ x ∈ [maskK key 54, b].flatten, x < 256 := fun x hx => by
      simp only [List.flatten_cons, List.flatten_nil, List.append_nil, List.mem_append] at hx
      rcases hx with hx | hx
      · exact hm 54 (by decide) x hx
      · exact H8.out x hx
     refine wpSk rfl (J7 J2t (gSum _ hF1 h81 _ _ _ w40 (HL.out.keep hB40) (o40.bys (Nat.le_trans hF1 (by decide)))) rfl rfl) fun v41 w41 hh => ?_
     obtain ⟨rfl, B41⟩ := hh
     try simp only [PutS]
     have hB41 := hB40.trans (B41.mono hB40.size)
     have e1 : sha [maskK key 54, b].flatten = sha (maskK key 54 ++ b) := by simp
     obtain ⟨i32', h32, i320, i321, i322⟩ := info_parts J2b
     rw [e1]
     obtain ⟨d, hd⟩ : ∃ d, d = sha (maskK key 54 ++ b) := ⟨_, rfl⟩
     have hdk : DgOk d := by rw [hd]; exact ⟨Js _, sha_lt _⟩
     have hF2 : [maskK key 92, d].flatten.length ≤ 1000000 := by simp [hml, hdk.1]
     have h82 : ∀ x ∈ [maskK key 92, d].flatten, x < 256 := fun x hx => by
      simp only [List.flatten_cons, List.flatten_nil, List.append_nil, List.mem_append] at hx
      rcases hx with hx | hx
      · exact hm 92 (by decide) x hx
      · exact hdk.2 x hx
     rw [← hd]
     refine wpSk rfl (Jl h32 i320 rfl) fun v10 w10 hh => ?_
     obtain ⟨rfl, rfl⟩ := hh
     try simp only [PutS]
     have c10 : Blk (w41.alloc (.cells (Value.agg (zb 32).toArray).cells 23)) w41.heap.size 23 (zb 32).toArray := World.alloc_heap_new w41 _
     have BA := (Below.refl _ w41).alloc (Nat.le_refl _) (.cells (Value.agg (zb 32).toArray).cells 23)
     obtain ⟨g10, hg10⟩ : ∃ g, g = w41.heap.size := ⟨_, rfl⟩
     rw [← hg10] at c10 ⊢
     refine J6 rfl 23 (.tmp 10) (.tmp 41) rfl rfl (cells := byc d) rfl c10 (by rw [J3, hdk.1]; simp [zb]) (by rw [Jc, J3, hdk.1]) (Jw _) (Ja _ _ (by rw [J3, hdk.1]; simp [zb])) fun X hX bX => ?_
     have h41 := B41.size
     have h40 := B40.size
     have h39 := B39.size
     have c6X := hX.blk (((((c6.keep B39).keep B40).keep B41).keep BA)) (by have := c6.lt; omega)
     have b4X := hX.blk (((((b4.keep B39).keep B40).keep B41).keep BA)) (by have := b4.lt; omega)
     have hBX : Below w.heap.size w X := J2 (hB41.trans (BA.mono hB41.size)) hX (by have := hB41.size; omega)
     have l6 := c6X.lt
     clear c5 c6 b2 b4 hBr s5 l39 y39 hB39 o40 hB40 hB41 h81 B39 B40 B41 BA c10 hX e1 hg10 h39 h40 h41
     try simp only [PutS]
     go_upto_region 14 with (fail)
     refine Jd 5 [(2, Spec.rel (BylA [maskK key 92, d]) AnyV), (3, Spec.rel (OwA ([maskK key 92, d].flatten)) AnyV), (4, Spec.val (dgv (sha [maskK key 92, d].flatten)))] (by kernel_rfl) (by kernel_rfl) (by kernel_rfl) ⟨fit_of (byl_st), fit_of (ow_st), trivial⟩ ?_
     iterate 2 (refine rg_det rfl rfl rfl (fun K hK => ?_); go_big_quiet_op; refine hK _ ?_; clear hK K)
     refine rg_rel rfl rfl (fun W1 hW1 hF => Jb (fun v w' hh => ⟨Jai hh.1 rfl (by simp) rfl rfl hh.2 (bys2 (byc_64 (c6X.keep (J8 hW1)) (hml 92)) (Jc1 (bX.keep (J8 hW1)) hdk.1)), hh.2⟩) (J2l (parts := [(0, .tmp 42), (1, .tmp 43)]) (vs := [.slice (some ⟨g5 + 1, 0, none⟩) 64 64, .slice (some ⟨g10, 0, none⟩) 32 32]) J7i hsl sz0 sz1 rfl (by simp) (by simp) rfl rfl (by simp [Value.cells]))) ?_
     intro n2 m2 v2 hn2 hm2 hd2 hf2 a' ha
     simp only [PutS] at ha
     subst ha
     refine rg_rel rfl rfl (fun W1 hW1 hF => Jp J3z (gConcat [maskK key 92, d] hF2 (by simp) _ _ _ W1 (J1a hF (by kernel_rfl)).2.byl) rfl rfl) ?_
     intro n3 m3 v3 hn3 hm3 hd3 hf3 a' ha
     simp only [PutS] at ha
     subst ha
     refine rg_val rfl rfl (fun W1 hW1 hF => J7 J2t (gSum _ hF2 h82 _ _ _ W1 (HL.out.keep (hBX.trans ((J8 hW1).mono hBX.size))) ((J1a hF (by kernel_rfl)).2.bys (Nat.le_trans hF2 (by decide)))) rfl rfl) ?_
     intro a' ha
     simp only [PutS] at ha
     subst ha
     refine rg_nil (fun w' hw' hF => ?_)
     obtain ⟨z, rfl⟩ := hw'
     simp only [List.drop_succ_cons, List.drop_zero]
     have he2 : sha [maskK key 92, d].flatten = keyD key b := by rw [hd]; unfold keyD; simp
     rw [he2]
     have b4z := b4X.gw z
     have hBz := hBX.trans (z.h.mono hBX.size)
     refine J6 rfl 23 (.tmp 4) (.tmp 46) rfl rfl (cells := byc (keyD key b)) rfl b4z (by rw [J3, keyD, Js, hcs0]; decide) (by rw [Jc, J3, keyD, Js]) (Jw _) (Ja _ _ (by rw [hcs0, J3, keyD, Js])) fun Y hY bY => ?_
     have hBY := J2 hBz hY (by omega)
     clear hF b4z hBz b4X bX c6X sz0 sz1 sz2 hsl
     go_wp2_with fail
     exact bodyPost_ret (v := dgv (keyD key b)) (Jv (g := w.heap.size + 1) rfl rfl Jg rfl (by rw [Jc, J3, keyD, Js]) bY) rfl ⟨rfl, hBY⟩
end
end Go.Proofs.YtoiampgfnidfdaaGreatDoor
