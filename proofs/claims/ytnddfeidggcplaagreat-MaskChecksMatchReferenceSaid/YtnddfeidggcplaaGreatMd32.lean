/-
  Slices of slices as they may come in.
  Log of the reference's sum-check, by contract.
  Sums as chapter 06 makes them: rows of terms that a call builds of its own; the raw description.
  Made of the reference's sum-check, by contract.
  The reference's sums: Degree, Final, Total, by contract.
  MadeRounds of the reference's sums, by contract.
  Made of the reference of masks, and made of the law, by contract.
-/
import Derived.Test.YtnddfeidggcplaaGreatFi
import Derived.Test.YtnddfeidggcplaaGreatCpm
import Derived.Test.YtnddfeidggcplaaGreatPa
import Derived.Test.YtnddfeidggcplaaGreatRgU
import Derived.Test.YtnddfeidggcplaaGreatRow
import Derived.Test.YtnddfeidggcplaaGreatInts
import Derived.Deep.Cut
import Derived.Test.YtnddfeidggcplaaGreatIp
import Derived.Deep.RegionHeld3
namespace Go.Proofs.YtnddfeidggcplaaGreat
open Go.RowKit

def RTabS (lo hi : Nat) (w : World) (v : Value) (tabs : List (List Raw)) : Prop := ∃ us : List Value, us.length = tabs.length ∧ Rd lo hi 1 w v tabs.length us ∧ ∀ (k : Nat) u t, us[k]? = some u → tabs[k]? = some t → RawS lo hi w u t
theorem RTabS.keep {lo hi : Nat} {w w' : World} {v : Value} {tabs : List (List Raw)} (h : RTabS lo hi w v tabs) (hb : Below w.heap.size w w') : RTabS lo hi w' v tabs := by
  obtain ⟨us, h1, h2, h3⟩ := h
  exact ⟨us, h1, h2.keep hb, fun k u t hu ht => ⟨Rd.keep (h3 k u t hu ht).1 hb, (h3 k u t hu ht).2⟩⟩
theorem RTabS.len {lo hi : Nat} {w : World} {v : Value} {tabs : List (List Raw)} (h : RTabS lo hi w v tabs) : ∃ A cap, v = .slice A tabs.length cap := by
  obtain ⟨us, _, h2, _⟩ := h
  exact h2.len
theorem RTabS.small {lo hi : Nat} {w : World} {v : Value} {tabs : List (List Raw)} (h : RTabS lo hi w v tabs) : tabs.length ≤ 140737488355327 := by
  obtain ⟨us, _, h2, _⟩ := h
  exact h2.2.1
theorem rtabs_cells {lo hi : Nat} {w : World} {v : Value} {tabs : List (List Raw)} (h : RTabS lo hi w v tabs) (h0 : 0 < tabs.length) : ∃ g off cap, v = .slice (some ⟨g, off, none⟩) tabs.length cap ∧ g < w.heap.size ∧
    ∀ k t, tabs[k]? = some t → ∃ A c, w.cell? ⟨g, off + k, none⟩ = some (.slice A t.length c) ∧ RawS lo hi w (.slice A t.length c) t := by
  obtain ⟨us, h1, h2, h3⟩ := h
  obtain ⟨g, off, cap, q1, q2, q3, q4, q5, q6⟩ := Rd.form h2 h0
  refine ⟨g, off, cap, q1, q5, fun k t ht => ?_⟩
  have hk : k < tabs.length := (List.getElem?_eq_some_iff.1 ht).1
  have hu : us[k]? = some (us[k]'(by omega)) := List.getElem?_eq_getElem _
  have h4 := h3 k _ t hu ht
  obtain ⟨A, c, hA⟩ := h4.1.len
  have h5 := q6 k _ hu
  rw [hA] at h4 h5
  exact ⟨A, c, h5, h4⟩
end Go.Proofs.YtnddfeidggcplaaGreat
namespace Go.Proofs.YtnddfeidggcplaaGreat
open Go.RowKit

theorem prod_info : (Tryz.prog.info? 74).map (fun i => (i.zero, i.size, i.bytes)) = some (some (.agg #[.int .u64 0, .int .u64 0, .slice none 0 0]), 3, 40) := by kernel_rfl
theorem int_info6 : (Tryz.prog.info? 3).map (fun i => (i.zero, i.size, i.bytes)) = some (some (.int .i64 0), 1, 8) := by kernel_rfl
theorem pow_i64 (k : Nat) (hk : k ≤ 16) : ∃ K : Nat, K = 2 ^ k ∧ wrap64 ((2 : Int) ^ k) = (K : Int) ∧ K ≤ 65536 := by
  refine ⟨2 ^ k, rfl, ?_, Nat.le_trans (Nat.pow_le_pow_right (by decide) hk) (by decide)⟩
  have h2 : 2 ^ k ≤ 2 ^ 16 := Nat.pow_le_pow_right (by decide) hk
  have h3 : ((2 : Int) ^ k) = ((2 ^ k : Nat) : Int) := by simp
  rw [h3]
  generalize 2 ^ k = K at *
  have : K ≤ 65536 := h2
  simp only [wrap64]
  omega
set_option maxRecDepth 100000 in
set_option maxHeartbeats 1000000 in
theorem rLog (tabs : List (List E)) (n : Nat) (hn : n ≤ 16) (hall : AllLen tabs (2 ^ n)) (h0 : 0 < tabs.length) (vt vp : Value) (lo hi : Nat) (w : World) (h : TabS lo hi w vt tabs) (hvp : ∃ A n c, vp = .slice A n c) :
    Calls Tryz.prog 52 #[sv vt vp] w (Ret (.int .i64 (n : Nat)) w) := by
  obtain ⟨AP, nP, cP, rfl⟩ := hvp
  obtain ⟨t, ht⟩ : ∃ t, tabs[0]? = some t := ⟨_, List.getElem?_eq_getElem h0⟩
  have htl : t.length = 2 ^ n := hall t (List.mem_of_getElem? ht)
  obtain ⟨g, off, cap, rfl, q1, q2, q3, q4, q5⟩ := tabs_cells h h0
  have d0 := q5 0 t ht
  obtain ⟨N, hN, -, hN6⟩ := pow_i64 n hn
  rw [htl, ← hN] at d0
  obtain ⟨A0, c0, d1, -⟩ := d0
  rw [Nat.add_zero] at d1
  have HN := Lib.hid hN
  obtain ⟨m, hm⟩ : ∃ m, m = tabs.length := ⟨_, rfl⟩
  have h0' : 0 < m := by omega
  rw [← hm]
  clear q5 h hall ht htl hN h0 hm
  unfold sv
  go_enter Tryz.func52, Tryz.ntmps52
  go_wp2_with fail
  refine wp_stk1 fun W hB hz b1 => ?_
  go_loopw [3] (fun i wr => ∃ k : Nat, k ≤ n ∧ i = .int .i64 k ∧ Blk wr w.heap.size 36 #[.slice (some ⟨g, off, none⟩) m cap, .slice AP nP cP] ∧ Below w.heap.size w wr) (fun i _ => n - (intOf i).toNat)
  case atStart => exact ⟨0, Nat.zero_le _, rfl, b1, hB⟩
  case round =>
    obtain ⟨k, hk, rfl, bk, hBk⟩ := hrel
    obtain ⟨K, hK, hK2, hK6⟩ := pow_i64 k (by omega)
    have hg : g < wr.heap.size := Nat.lt_of_lt_of_le q4 hBk.size
    have c1 := gw_blk bk
    have c2 := gw_cell (W := wr) hg ((hBk.cell (p := ⟨g, off, none⟩) q4).trans d1)
    clear d1 b1 hB
    by_cases hlt : k < n
    · have hKN : (K : Int) < (N : Int) := by
        rw [hK, HN.out]
        exact_mod_cast Nat.pow_lt_pow_right (by decide) hlt
      clear hK
      go_wp2_with fail
      refine wp_region_rg 8 [] (by kernel_rfl) (by kernel_rfl) (by kernel_rfl) trivial ?_
      refine rg_det rfl rfl rfl (fun K hK => ?_)
      go_big_quiet_op
      refine hK _ ?_; clear hK K
      refine rg_det rfl rfl rfl (fun K hK => ?_)
      go_big_quiet_op
      refine hK _ ?_; clear hK K
      refine rg_det rfl rfl rfl (fun K hK => ?_)
      go_big_quiet_op
      refine hK _ ?_; clear hK K
      refine rg_det rfl rfl rfl (fun K hK => ?_)
      go_big_quiet_op
      refine hK _ ?_; clear hK K
      refine rg_det rfl rfl rfl (fun K hK => ?_)
      go_big_quiet_op
      refine hK _ ?_; clear hK K
      refine rg_det rfl rfl rfl (fun K hK => ?_)
      go_big_quiet_op
      refine hK _ ?_; clear hK K
      refine rg_det rfl rfl rfl (fun K hK => ?_)
      go_big_quiet_op
      refine hK _ ?_; clear hK K
      refine rg_det rfl rfl rfl (fun K hK => ?_)
      go_big_quiet_op
      refine hK _ ?_; clear hK K
      refine rg_nil (fun w' hw' hF => ?_)
      obtain ⟨z, rfl⟩ := hw'
      simp only [List.drop_succ_cons, List.drop_zero]
      go_wp2_with fail
      exact ⟨⟨k + 1, by omega, by go_num, bk.gw z, hBk.trans (z.h.mono hBk.size)⟩, by simp [intOf]; omega⟩
    · obtain rfl : k = n := by omega
      have hKN : ¬ ((K : Int) < (N : Int)) := by rw [hK, HN.out]; exact Int.lt_irrefl _
      clear hK
      go_wp2_with fail
      refine wp_region_rg 8 [] (by kernel_rfl) (by kernel_rfl) (by kernel_rfl) trivial ?_
      refine rg_det rfl rfl rfl (fun K hK => ?_)
      go_big_quiet_op
      refine hK _ ?_; clear hK K
      refine rg_det rfl rfl rfl (fun K hK => ?_)
      go_big_quiet_op
      refine hK _ ?_; clear hK K
      refine rg_det rfl rfl rfl (fun K hK => ?_)
      go_big_quiet_op
      refine hK _ ?_; clear hK K
      refine rg_det rfl rfl rfl (fun K hK => ?_)
      go_big_quiet_op
      refine hK _ ?_; clear hK K
      refine rg_det rfl rfl rfl (fun K hK => ?_)
      go_big_quiet_op
      refine hK _ ?_; clear hK K
      refine rg_det rfl rfl rfl (fun K hK => ?_)
      go_big_quiet_op
      refine hK _ ?_; clear hK K
      refine rg_det rfl rfl rfl (fun K hK => ?_)
      go_big_quiet_op
      refine hK _ ?_; clear hK K
      refine rg_det rfl rfl rfl (fun K hK => ?_)
      go_big_quiet_op
      refine hK _ ?_; clear hK K
      refine rg_nil (fun w' hw' hF => ?_)
      obtain ⟨z, rfl⟩ := hw'
      simp only [List.drop_succ_cons, List.drop_zero]
      go_wp2_with fail
      go_ret
      exact ⟨rfl, hBk.trans (z.h.mono hBk.size)⟩
end Go.Proofs.YtnddfeidggcplaaGreat
namespace Go.Proofs.YtnddfeidggcplaaGreat
open Go.RowKit

/-- A row of one's own of terms. -/
def RowP (base : Nat) (w : World) (u : Value) (ps : List Trm) : Prop := ∃ us : List Value, w.ownsRow base 74 3 u ps.length ((ps.zip us).flatMap trc) ∧ us.length = ps.length ∧ ∀ (k : Nat) x p, us[k]? = some x → ps[k]? = some p → ∃ lo hi, base ≤ lo ∧ hi ≤ w.heap.size ∧ Outside lo hi u ∧ IdxS lo hi w x p.t
theorem RowP.first (base : Nat) (w : World) : RowP base w (.slice none 0 0) [] := ⟨[], ⟨rfl, .inl ⟨rfl, rfl⟩⟩, rfl, fun k x t h => by simp at h⟩
theorem RowP.keep {base : Nat} {w X : World} {u : Value} {ps : List Trm} (h : RowP base w u ps) (hb : Below w.heap.size w X) : RowP base X u ps := by
  obtain ⟨us, h1, h2, h3⟩ := h
  refine ⟨us, own_below h1 (Nat.le_refl _) hb, h2, fun k x t hx ht => ?_⟩
  obtain ⟨lo, hi, q1, q2, q3, q4⟩ := h3 k x t hx ht
  exact ⟨lo, hi, q1, Nat.le_trans q2 hb.size, q3, Rd.keep q4 hb⟩
theorem RowP.put {base g : Nat} {w X : World} {u : Value} {ps : List Trm} (h : RowP base w u ps) (hp : Put w X g) (hg : g < base) : RowP base X u ps := by
  obtain ⟨us, h1, h2, h3⟩ := h
  refine ⟨us, own_put h1 hp hg, h2, fun k x t hx ht => ?_⟩
  obtain ⟨lo, hi, q1, q2, q3, q4⟩ := h3 k x t hx ht
  exact ⟨lo, hi, q1, by rw [hp.size]; exact q2, q3, hp.rd q4 (.inl (by omega))⟩
theorem RowP.block {base g : Nat} {w : World} {u : Value} {ps : List Trm} (h : RowP base w u ps) (hg : u.ownBlock = some g) : base ≤ g ∧ g < w.heap.size := by
  obtain ⟨us, h1, _⟩ := h
  exact own_block h1 hg
theorem RowP.trms {base : Nat} {w : World} {u : Value} {ps : List Trm} (h : RowP base w u ps) (hl : ps.length ≤ 1000000) : TrmS base w.heap.size w u ps := by
  obtain ⟨us, h1, h2, h3⟩ := h
  refine ⟨us, h2, Rd.of_own h1 (by omega) (Nat.le_refl _), fun k x t hx ht => ?_⟩
  obtain ⟨lo, hi, q1, q2, q3, q4⟩ := h3 k x t hx ht
  exact Rd.wide q4 q1 q2
theorem RowP.len {base : Nat} {w : World} {u : Value} {ps : List Trm} (h : RowP base w u ps) : ∃ A cap, u = .slice A ps.length cap := by
  obtain ⟨us, h1, _⟩ := h
  exact own_len h1
theorem RowT.len' {base : Nat} {w : World} {u : Value} {ts : List (List E)} (h : RowT base w u ts) : ∃ A cap, u = .slice A ts.length cap := by
  obtain ⟨us, h1, _⟩ := h
  exact own_len h1
theorem trc_one (x : Trm × Value) (h : x.2.oneCell' = true) : ∀ u ∈ trc x, u.oneCell' = true := by
  intro u hu
  simp only [trc, List.mem_cons, List.not_mem_nil, or_false] at hu
  rcases hu with rfl | rfl | rfl <;> first | rfl | exact h
theorem wpList_appP {ops : Array Oper} {rest : List Oper} {o : Oper} {a : Act} {Q : Exit → Act → World → Prop} {X : World} {base n lo hi : Nat} {t : TypeId} {ps : List Trm} {u x : Value} {y : Trm} (hgd : o.guard = none) (s p : Operand)
    (ho : o.op = .call { callee := .builtin .append, args := #[s, p], argTypes := #[t, t] }) (ht : Tryz.prog.underlying t = some (.slice 74)) (hs : a.eval s = u) (hx : a.eval p = .slice (some ⟨n, 0, none⟩) 1 1) (hrow : RowP base X u ps) (hsrc : Blk X n 74 #[.int .u64 (fv y.c.a), .int .u64 (fv y.c.b), x]) (hxc : x.oneCell' = true)
    (hE : IdxS lo hi X x y.t) (hlo : base ≤ lo) (hhi : hi ≤ X.heap.size) (hout : Outside lo hi u) (hk : ps.length ≤ 100000) (hbase : base ≤ X.heap.size)
    (h : ∀ v' w', RowP base w' v' (ps ++ [y]) → Below base X w' → X.grownBy w' u.ownBlock → (v'.ownBlock = u.ownBlock ∨ v'.ownBlock = some X.heap.size) → wpList Tryz.prog ops Q rest (a.put o.dst v') w') : wpList Tryz.prog ops Q (o :: rest) a X := by
  obtain ⟨i0, hi0, hz0, hz1, hz2⟩ := info_parts prod_info
  obtain ⟨us, h1, h2, h3⟩ := hrow
  refine wpList_app3 hgd s p ho ht hi0 hz0 hz1 hz2 rfl (by decide) (cl := trc (y, x)) rfl (trc_one (y, x) hxc) hs hx h1 hsrc (by unfold maxLen; omega) (by omega) hbase fun v' w' hown hgrow hB hob => ?_
  have hkept : ∀ lo hi, hi ≤ X.heap.size → Outside lo hi u → Kept lo hi X w' := fun lo hi hh ho => Kept.of_grown hgrow ho hh
  refine h v' w' ⟨us ++ [x], ?_, by simp [h2], fun k z t' hz ht' => ?_⟩ hB hgrow hob
  · rw [List.zip_append h2.symm, List.flatMap_append, List.length_append]
    simpa using hown
  by_cases hkl : k < us.length
  · rw [List.getElem?_append_left hkl] at hz
    rw [List.getElem?_append_left (by omega)] at ht'
    obtain ⟨lo', hi', q1, q2, q3, q4⟩ := h3 k z t' hz ht'
    exact ⟨lo', hi', q1, Nat.le_trans q2 hB.size, q3.next hob q2, rd_kept q4 (hkept _ _ q2 q3) hB.size⟩
  · have hkk : k < (us ++ [x]).length := (List.getElem?_eq_some_iff.1 hz).1
    simp only [List.length_append, List.length_cons, List.length_nil] at hkk
    obtain rfl : k = us.length := by omega
    rw [List.getElem?_append_right (Nat.le_refl _), Nat.sub_self] at hz
    rw [List.getElem?_append_right (by omega), h2, Nat.sub_self] at ht'
    simp only [List.getElem?_cons_zero, Option.some.injEq] at hz ht'
    subst hz
    subst ht'
    exact ⟨lo, hi, hlo, Nat.le_trans hhi hB.size, hout.next hob hhi, rd_kept hE (hkept _ _ hhi hout) hB.size⟩

/-! ### What comes in -/
structure TRaw where
  c : Raw
  t : Nat → Int
  n : Int
def Byte (z : Int) : Prop := 0 ≤ z ∧ z < 256
structure TRaw.ok (x : TRaw) : Prop where
  c1 : Word x.c.1
  c2 : Word x.c.2
  t : ∀ k, k < 3 → Byte (x.t k)
  n : Byte x.n
def trawc (x : TRaw) : List Value := [.int .u64 x.c.1, .int .u64 x.c.2, .int .u8 (x.t 0), .int .u8 (x.t 1), .int .u8 (x.t 2), .int .u8 x.n]
theorem trawc_len (x : TRaw) : (trawc x).length = 6 := rfl
def TRawS (lo hi : Nat) (w : World) (v : Value) (L : List TRaw) : Prop := Rd lo hi 6 w v L.length (L.flatMap trawc) ∧ ∀ x ∈ L, x.ok
theorem TRawS.keep {lo hi : Nat} {w w' : World} {v : Value} {L : List TRaw} (h : TRawS lo hi w v L) (hb : Below w.heap.size w w') : TRawS lo hi w' v L := ⟨Rd.keep h.1 hb, h.2⟩
def trIx (x : TRaw) (k : Nat) : Nat := (x.t k % 3).toNat
def trLen (x : TRaw) : Nat := (x.n % 3).toNat + 1
def trL (x : TRaw) (k : Nat) : List Nat := (List.range k).map (trIx x)
theorem trL_succ (x : TRaw) (k : Nat) : trL x (k + 1) = trL x k ++ [trIx x k] := by simp [trL, List.range_succ]
theorem trL_length (x : TRaw) (k : Nat) : (trL x k).length = k := by simp [trL]
def trM (x : TRaw) : Trm := ⟨em x.c.1 x.c.2, trL x (trLen x)⟩
structure Raw6 where
  T : Nat → List Raw
  L : List TRaw
  N : Int
def Raw6.n (q : Raw6) (most : Nat) : Nat := (q.N % ((most : Int) + 1)).toNat
def Raw6.tk (q : Raw6) (most k : Nat) : List (List E) := (List.range k).map fun i => madeAll (q.T i) (2 ^ q.n most)
def Raw6.tabs (q : Raw6) (most : Nat) : List (List E) := q.tk most 3
def Raw6.pk (q : Raw6) (k : Nat) : List Trm := (q.L.take k).map trM
def Raw6.trms (q : Raw6) : List Trm := q.pk 4
theorem Raw6.tk_succ (q : Raw6) (most k : Nat) : q.tk most (k + 1) = q.tk most k ++ [madeAll (q.T k) (2 ^ q.n most)] := by simp [Raw6.tk, List.range_succ]
theorem Raw6.tk_length (q : Raw6) (most k : Nat) : (q.tk most k).length = k := by simp [Raw6.tk]
theorem Raw6.pk_succ (q : Raw6) (k : Nat) (x : TRaw) (h : q.L[k]? = some x) : q.pk (k + 1) = q.pk k ++ [trM x] := by simp [Raw6.pk, List.take_add_one, h]
theorem Raw6.n_le (q : Raw6) (most : Nat) : q.n most ≤ most := by
  unfold Raw6.n
  have h1 := Int.emod_nonneg q.N (b := (most : Int) + 1) (by omega)
  have h2 := Int.emod_lt_of_pos q.N (b := (most : Int) + 1) (by omega)
  omega
theorem Raw6.all (q : Raw6) (most : Nat) : AllLen (q.tabs most) (2 ^ q.n most) := fun t ht => by
  obtain ⟨i, _, rfl⟩ := List.mem_map.1 ht
  exact madeAll_length _ _
theorem Raw6.tabs_len (q : Raw6) (most : Nat) : (q.tabs most).length = 3 := q.tk_length most 3
theorem Raw6.trms_len (q : Raw6) : q.trms.length ≤ 4 := by simp [Raw6.trms, Raw6.pk]; omega
theorem trIx_lt (x : TRaw) (k : Nat) : trIx x k < 3 := by unfold trIx; omega
theorem trLen_le (x : TRaw) : 1 ≤ trLen x ∧ trLen x ≤ 3 := by unfold trLen; omega
theorem Raw6.ix (q : Raw6) : ∀ p ∈ q.trms, ∀ k ∈ p.t, k < 3 := fun p hp k hk => by
  obtain ⟨x, _, rfl⟩ := List.mem_map.1 hp
  obtain ⟨i, _, rfl⟩ := List.mem_map.1 hk
  exact trIx_lt _ _
theorem Raw6.short (q : Raw6) : ∀ p ∈ q.trms, 1 ≤ p.t.length ∧ p.t.length ≤ 3 := fun p hp => by
  obtain ⟨x, _, rfl⟩ := List.mem_map.1 hp
  have := trLen_le x
  show 1 ≤ (trL x (trLen x)).length ∧ (trL x (trLen x)).length ≤ 3
  rw [trL_length]
  exact this
theorem Raw6.deg (q : Raw6) : degE q.trms ≤ 3 := degE_le _ 3 (by decide) fun p hp => (q.short p hp).2
end Go.Proofs.YtnddfeidggcplaaGreat
namespace Go.Proofs.YtnddfeidggcplaaGreat
open Go.RowKit

/-- What Made hands back. -/
def MadeA (tabs : List (List E)) (ps : List Trm) (lo hi : Nat) (v : Value) (w : World) : Prop := ∃ vt vp, v = sv vt vp ∧ TabS lo hi w vt tabs ∧ TrmS lo hi w vp ps
/-- A slice literal of one slice of elements, which lies in a stretch of new blocks. -/
def LitT (b : Nat) (y : List E) (n m : Nat) (v : Value) (w : World) : Prop := v = .slice (some ⟨n, 0, none⟩) 1 1 ∧ n < m ∧ ∃ x lo hi, Blk w n 22 #[x] ∧ x.oneCell' = true ∧ b ≤ lo ∧ hi ≤ m ∧ ExtS lo hi w x y
theorem fit_litT {b : Nat} {y : List E} : Fit (LitT b y) (LitF 1) := ⟨fun _ _ _ _ _ ⟨h1, h2, x, lo, hi, h3, h4, h5, h6, h7⟩ hb => ⟨h1, h2, x, lo, hi, h3.below hb h2, h4, h5, h6, Rd.below h7 hb h6⟩, fun _ => ⟨_, rfl⟩, fun _ _ _ _ h => h.1⟩
theorem TrmS.put {lo hi g : Nat} {w w' : World} {v : Value} {ps : List Trm} (h : TrmS lo hi w v ps) (hp : Put w w' g) (hne : g < lo ∨ hi ≤ g) : TrmS lo hi w' v ps :=
  h.other (by rw [hp.size]; exact Nat.le_refl _) fun k h1 h2 _ => hp.other k (by omega)
set_option maxRecDepth 100000 in
set_option maxHeartbeats 8000000 in
theorem rMade6 (q : Raw6) (most : Nat) (hm : most ≤ 5) (A C : Nat → Option Addr) (cc : Nat → Nat) (AL : Option Addr) (cL lo hi : Nat) (w : World)
    (hT : ∀ k, k < 3 → RawS lo hi w (.slice (A k) (q.T k).length (cc k)) (q.T k)) (hL : TRawS lo hi w (.slice AL q.L.length cL) q.L) (hN : Byte q.N) :
    Calls Tryz.prog 50 #[.agg #[.slice (A 0) (q.T 0).length (cc 0), .slice (A 1) (q.T 1).length (cc 1), .slice (A 2) (q.T 2).length (cc 2), .slice AL q.L.length cL, .int .u8 q.N], .int .i64 (most : Int)] w
      (RetR (MadeA (q.tabs most) q.trms) w) := by
  obtain ⟨n, hn⟩ : ∃ n, n = q.n most := ⟨_, rfl⟩
  have hn5 : n ≤ 5 := by have := q.n_le most; omega
  have hni : q.N % ((most : Int) + 1) = (n : Int) := by
    rw [hn]
    unfold Raw6.n
    have h1 := Int.emod_nonneg q.N (b := (most : Int) + 1) (by omega)
    omega
  obtain ⟨h01, h02⟩ := hN
  obtain ⟨N, hNe, hN2, hN6⟩ := pow_i64 n (by omega)
  have HTk := Lib.hid (q.tk_succ most)
  have HTl := Lib.hid (q.tk_length most)
  have HPk := Lib.hid q.pk_succ
  rw [← hn, ← hNe] at HTk
  have HT := Lib.hid hT
  have HLL := Lib.hid hL
  obtain ⟨L0, hL0⟩ : ∃ l, l = (q.T 0).length := ⟨_, rfl⟩
  obtain ⟨L1, hL1⟩ : ∃ l, l = (q.T 1).length := ⟨_, rfl⟩
  obtain ⟨L2, hL2⟩ : ∃ l, l = (q.T 2).length := ⟨_, rfl⟩
  obtain ⟨LL, hLL⟩ : ∃ l, l = q.L.length := ⟨_, rfl⟩
  rw [← hL0, ← hL1, ← hL2, ← hLL]
  have HL0 := Lib.hid hL0
  have HL1 := Lib.hid hL1
  have HL2 := Lib.hid hL2
  have HLn := Lib.hid hLL
  clear hL0 hL1 hL2 hLL hT hL hn hNe
  go_enter Tryz.func50, Tryz.ntmps50
  go_upto_region 3 with (fail)
  rw [hni]
  refine wp_stk3 fun W hB hz b1 b2 b3 => ?_
  have hW := hz.out
  have HW := Lib.hid hW
  obtain ⟨s0, hs0, hsz0, hsz1, hsz2⟩ := info_parts sl_info
  obtain ⟨k0, hk0, hkz0, hkz1, hkz2⟩ := info_parts int_info6
  clear hW hz
  go_wp2_with fail
  go_loopw [7] (fun i wr => ∃ j : Nat, j ≤ 3 ∧ i = .int .i64 j ∧ ∃ vT, RowT (w.heap.size + 3) wr vT (q.tk most j) ∧ Blk wr (w.heap.size + 1 + 1) 36 #[vT, .slice none 0 0] ∧ Blk wr w.heap.size 26 #[.slice (A 0) L0 (cc 0), .slice (A 1) L1 (cc 1), .slice (A 2) L2 (cc 2), .slice AL LL cL, .int .u8 q.N] ∧ Blk wr (w.heap.size + 1) 36 #[.slice none 0 0, .slice none 0 0] ∧ Below w.heap.size w wr ∧ w.heap.size + 3 ≤ wr.heap.size) (fun i _ => 3 - (intOf i).toNat)
  case atStart => exact ⟨0, by decide, rfl, .slice none 0 0, RowT.first _ _, b3, b1, b2, hB, by have := HW.out; omega⟩
  case round =>
    obtain ⟨j, hj, rfl, vT, hrow, bs, br, bo, hBr, hsz⟩ := hrel
    obtain ⟨AT, cT, rfl⟩ := hrow.len'
    have hjl := HTl.out j
    rw [hjl] at hrow bs
    clear b1 b2 b3 hB
    by_cases hlt : j < 3
    · have hc : wr.cell? ⟨w.heap.size, j, none⟩ = some (.slice (A j) (q.T j).length (cc j)) := by
        rw [br.cell]
        match j, hlt with
        | 0, _ => rw [HL0.out]; rfl
        | 1, _ => rw [HL1.out]; rfl
        | 2, _ => rw [HL2.out]; rfl
      have c1 := gw_cell br.lt hc
      have c2 := gw_blk bs
      have hr := HT.out j hlt
      have HX := Lib.hid (show ∀ W1, Below wr.heap.size wr W1 → Calls Tryz.prog 41 #[.slice (A j) (q.T j).length (cc j), .int .i64 (wrap64 ((2 : Int) ^ n))] W1 (RetR (ExtA (madeAll (q.T j) N)) W1) from fun W1 h => by
        rw [hN2]
        exact xExact (q.T j) N (by omega) _ lo hi W1 ⟨Rd.keep (Rd.keep hr.1 hBr) h, hr.2⟩)
      go_wp2_with fail
      refine wp_region_rg 10 [(8, Spec.rel (ExtA (madeAll (q.T j) N)) (SlF (madeAll (q.T j) N).length)), (9, Spec.rel (LitT wr.heap.size (madeAll (q.T j) N)) (LitF 1))] (by kernel_rfl) (by kernel_rfl) (by kernel_rfl) ⟨fit_ext, fit_litT, trivial⟩ ?_
      refine rg_det rfl rfl rfl (fun K hK => ?_)
      go_big_quiet_op
      refine hK _ ?_; clear hK K
      refine rg_det rfl rfl rfl (fun K hK => ?_)
      go_big_quiet_op
      refine hK _ ?_; clear hK K
      refine rg_det rfl rfl rfl (fun K hK => ?_)
      go_big_quiet_op
      refine hK _ ?_; clear hK K
      refine rg_det rfl rfl rfl (fun K hK => ?_)
      go_big_quiet_op
      refine hK _ ?_; clear hK K
      refine rg_det rfl rfl rfl (fun K hK => ?_)
      go_big_quiet_op
      refine hK _ ?_; clear hK K
      refine rg_det rfl rfl rfl (fun K hK => ?_)
      go_big_quiet_op
      refine hK _ ?_; clear hK K
      refine rg_det rfl rfl rfl (fun K hK => ?_)
      go_big_quiet_op
      refine hK _ ?_; clear hK K
      refine rg_det rfl rfl rfl (fun K hK => ?_)
      go_big_quiet_op
      refine hK _ ?_; clear hK K
      refine rg_rel rfl rfl (fun W1 hW1 hF => step_callr en_attestor_attestorref03_Exactly (HX.out W1 (grw_below hW1)) rfl rfl) ?_
      intro n8 m8 v8 hn8 hm8 hd8 hf8 a' ha
      simp only [Act.put, List.setIfInBounds_toArray, List.set_cons_succ, List.set_cons_zero] at ha
      subst ha
      obtain ⟨A8, cap8, rfl⟩ := hf8
      refine rg_rel rfl rfl (fun W1 hW1 hF => stepAt_mono (fun v w' h => ⟨⟨h.1.1, h.1.2.1, _, _, _, h.1.2.2, rfl, Nat.le_trans (Nat.le_refl _) hn8, Nat.le_trans (pick_last hF (by kernel_rfl)).1 h.2.size, Rd.keep (pick_last hF (by kernel_rfl)).2 h.2⟩, h.2⟩) (step_lit1 Tryz.underlying27 hs0 hsz0 hsz1 (by decide) (by decide) rfl rfl rfl)) ?_
      intro n9 m9 v9 hn9 hm9 hd9 hf9 a' ha
      simp only [Act.put, List.setIfInBounds_toArray, List.set_cons_succ, List.set_cons_zero] at ha
      subst ha
      obtain rfl := hf9
      refine rg_nil (fun w' hw' hF => ?_)
      obtain ⟨z, rfl⟩ := hw'
      simp only [List.drop_succ_cons, List.drop_zero]
      obtain ⟨hm9', -, hl9, x, l1, l2, bx, hx1, hlo, hhi, hE⟩ := end_last hF
      have hrz := hrow.keep z.h
      have hzs := z.h.size
      have bsz := bs.gw z
      have brz := br.gw z
      have boz := bo.gw z
      have hBz := hBr.trans (z.h.mono hBr.size)
      have HTj := Lib.hid (HTk.out j)
      have HJ := Lib.hid hjl
      clear hF HX c1 c2 hc hr hjl hd8 hd9
      go_wp2_with (at_builtin; refine wpList_appT (x := x) (y := madeAll (q.T j) N) (lo := l1) (hi := l2) (base := w.heap.size + 3) (ts := q.tk most j) rfl _ _ rfl Tryz.underlying27 rfl rfl ?hrow ?hsrc hx1 ?hE ?hlo ?hhi ?hout ?hk ?hbase ?_)
      case hrow => exact hrz
      case hsrc => exact bx
      case hE => exact hE
      case hlo => omega
      case hhi => omega
      case hout => exact hrow.out hlo
      case hk => rw [HJ.out]; omega
      case hbase => omega
      intro u' w3 hrow3 hB3 hg3 hob3
      rw [← HTj.out] at hrow3
      obtain ⟨A', c', hv⟩ := hrow3.len'
      rw [HTl.out] at hv
      subst hv
      have bs3 := bsz.below hB3 (by omega)
      have br3 := brz.below hB3 (by omega)
      have bo3 := boz.below hB3 (by omega)
      have hs3 := hB3.size
      have hBw3 : Below w.heap.size w w3 := hBz.trans (hB3.mono (by omega))
      have e1 := bs3.cell
      have e2 := bs3.frozen
      clear hrz bsz brz boz hg3 hob3 bx hE hrow bs br bo
      go_wp2_with fail
      have hp : Put w3 _ (w.heap.size + 1 + 1) := Put.set w3 (w.heap.size + 1 + 1) 0 (.slice A' (j + 1) c')
      exact ⟨⟨j + 1, by omega, by go_num, .slice A' (j + 1) c', hrow3.put hp (by omega), bs3.set_ 0 _, hp.blk br3 (by omega), hp.blk bo3 (by omega), hBw3.setCell (by show w.heap.size ≤ w.heap.size + 1 + 1; omega) _, by rw [hp.size]; omega⟩, by simp [intOf]; omega⟩
    · obtain rfl : j = 3 := by omega
      rw [show ((3 : Nat) : Int) = 3 from rfl]
      have HTt := Lib.hid (hrow.tabs (by rw [hjl]; decide))
      have HP4 := Lib.hid (show q.trms = q.pk 4 from rfl)
      have HTB := Lib.hid (show q.tabs most = q.tk most 3 from rfl)
      rw [HTB.out]
      generalize q.trms = TR at *
      clear hrow hjl HTk HT
      obtain ⟨V, hV⟩ : ∃ V, V = wr := ⟨_, rfl⟩
      subst hV
      go_wp2_with fail
      go_loopw [8] (fun i X => ∃ k : Nat, k ≤ LL ∧ k ≤ 4 ∧ i = .int .i64 k ∧ ∃ vP, RowP V.heap.size X vP (q.pk k) ∧ Blk X (w.heap.size + 1 + 1) 36 #[.slice AT 3 cT, vP] ∧ Blk X w.heap.size 26 #[.slice (A 0) L0 (cc 0), .slice (A 1) L1 (cc 1), .slice (A 2) L2 (cc 2), .slice AL LL cL, .int .u8 q.N] ∧ Blk X (w.heap.size + 1) 36 #[.slice none 0 0, .slice none 0 0] ∧ Below w.heap.size w X ∧ TabS (w.heap.size + 3) V.heap.size X (.slice AT 3 cT) (q.tk most 3) ∧ V.heap.size ≤ X.heap.size) (fun i _ => 4 - (intOf i).toNat)
      case atStart => exact ⟨0, Nat.zero_le _, by decide, rfl, .slice none 0 0, RowP.first _ _, bs, br, bo, hBr, HTt.out, Nat.le_refl _⟩
      case round =>
        obtain ⟨k, hk1, hk2, rfl, vP, hrow, bs2, br2, bo2, hB2, hT2, hX⟩ := hrel
        obtain ⟨X, hXe⟩ : ∃ X, X = wr := ⟨_, rfl⟩
        subst hXe
        obtain ⟨AP, cP, hv⟩ := hrow.len
        have hpl : (q.pk k).length = k := by unfold Raw6.pk; rw [List.length_map, List.length_take]; have := HLn.out; omega
        rw [hpl] at hv
        subst hv
        clear bs br bo hBr
        by_cases hkl : k < LL
        · by_cases hk4 : k < 4
          · obtain ⟨g, off, cap', hv, q1, q2, q3, q4, q5⟩ := Rd.form (HLL.out.keep hB2).1 (by have := HLn.out; omega)
            rw [← HLn.out] at hv
            cases hv
            obtain ⟨x, hx⟩ : ∃ x, q.L[k]? = some x := ⟨_, List.getElem?_eq_getElem (by have := HLn.out; omega)⟩
            have hxo := HLL.out.2 x (List.mem_of_getElem? hx)
            have hc : ∀ j u, (trawc x)[j]? = some u → X.cell? ⟨g, off + k * 6 + j, none⟩ = some u := fun j u hu => by
              have := q5 (k * 6 + j) _ (flat_get trawc_len _ k j _ _ hx hu)
              rwa [← Nat.add_assoc] at this
            have d0 := hc 0 _ rfl
            have d1 := hc 1 _ rfl
            rw [Nat.add_zero] at d0
            have e1 := br2.cell
            have HPx := Lib.hid (HPk.out k x hx)
            have HC := Lib.hid hc
            clear q5 hx hc
            go_wp2_with fail
            refine (xMade x.c.1 x.c.2 hxo.c1.1 hxo.c1.2 hxo.c2.1 hxo.c2.2 _).mono ?_
            rintro e w2 ⟨he, hb2⟩
            unfold ev at he
            subst he
            go_upto_region 11 with (fail)
            refine wp_stk1 fun Y hY hzY bt => ?_
            have hYs := Lib.hid hzY.out
            have HYB := Lib.hid hY
            clear e1 d0 d1 hzY
            obtain ⟨tn, htn⟩ : ∃ tn, tn = (x.n % 3).toNat := ⟨_, rfl⟩
            have hn3 : x.n % 3 = (tn : Int) := by rw [htn]; omega
            have HTN := Lib.hid (show trLen x = tn + 1 by rw [htn]; rfl)
            have hn8 := hxo.n
            unfold Byte at hn8
            obtain ⟨hn81, hn82⟩ := hn8
            have HT8 := Lib.hid hxo.t
            obtain ⟨ca, hca⟩ : ∃ c, c = em x.c.1 x.c.2 := ⟨_, rfl⟩
            have HCA := Lib.hid hca
            rw [← hca] at bt ⊢
            have hw2 := hb2.size
            clear htn hca hY hxo
            go_wp2_with fail
            go_loopw [10] (fun i Z => ∃ m : Nat, m ≤ tn + 1 ∧ i = .int .i64 m ∧ ∃ u, Z.ownsRow (w2.heap.size + 1) 3 1 u m ((trL x m).flatMap ic) ∧ Blk Z w2.heap.size 74 #[.int .u64 (fv ca.a), .int .u64 (fv ca.b), u] ∧ Below w2.heap.size w2 Z ∧ w2.heap.size + 1 ≤ Z.heap.size) (fun i _ => tn + 1 - (intOf i).toNat)
            case atStart => exact ⟨0, Nat.zero_le _, rfl, .slice none 0 0, ⟨rfl, .inl ⟨rfl, rfl⟩⟩, bt, HYB.out, by have := hYs.out; omega⟩
            case round =>
              obtain ⟨m, hm1, rfl, u, hown, bt, hBZ, hZs⟩ := hrel
              obtain ⟨Au, cu, rfl⟩ := own_len hown
              have brZ := (br2.keep hb2).keep hBZ
              have hgZ : g < wr.heap.size := by have := hBZ.size; omega
              have c1 := gw_blk brZ
              have c2 := gw_cell (W := wr) hgZ (((hb2.cell (p := ⟨g, off + k * 6 + 5, none⟩) q4).trans (HC.out 5 _ rfl)) |> (hBZ.cell (p := ⟨g, off + k * 6 + 5, none⟩) (by show g < w2.heap.size; omega)).trans)
              have e1 := brZ.cell
              have e2 := c2 ⟨wr, Below.refl _ _⟩
              by_cases hlt : m < tn + 1
              · have ha : m < 3 := by omega
                have hcm : X.cell? ⟨g, off + k * 6 + 2 + m, none⟩ = some (.int .u8 (x.t m)) := by
                  have := HC.out (2 + m) (.int .u8 (x.t m)) (by match m, ha with | 0, _ => rfl | 1, _ => rfl | 2, _ => rfl)
                  rwa [← Nat.add_assoc] at this
                have c3 := gw_cell (W := wr) hgZ ((hBZ.cell (p := ⟨g, off + k * 6 + 2 + m, none⟩) (by show g < w2.heap.size; omega)).trans ((hb2.cell (p := ⟨g, off + k * 6 + 2 + m, none⟩) q4).trans hcm))
                clear hcm
                have c4 := gw_blk bt
                obtain ⟨h81, h82⟩ := HT8.out m ha
                have HTm := Lib.hid (show x.t m % 3 = (trIx x m : Int) by unfold trIx; omega)
                have HLm := Lib.hid (trL_succ x m)
                go_wp2_with fail
                refine wp_region_rg 13 [(12, Spec.rel (Lit 3 1 #[.int .i64 (x.t m % 3)]) (LitF 1))] (by kernel_rfl) (by kernel_rfl) (by kernel_rfl) ⟨fit_lit, trivial⟩ ?_
                refine rg_det rfl rfl rfl (fun K hK => ?_)
                go_big_quiet_op
                refine hK _ ?_; clear hK K
                refine rg_det rfl rfl rfl (fun K hK => ?_)
                go_big_quiet_op
                refine hK _ ?_; clear hK K
                refine rg_det rfl rfl rfl (fun K hK => ?_)
                go_big_quiet_op
                refine hK _ ?_; clear hK K
                refine rg_det rfl rfl rfl (fun K hK => ?_)
                go_big_quiet_op
                refine hK _ ?_; clear hK K
                refine rg_det rfl rfl rfl (fun K hK => ?_)
                go_big_quiet_op
                refine hK _ ?_; clear hK K
                refine rg_det rfl rfl rfl (fun K hK => ?_)
                go_big_quiet_op
                refine hK _ ?_; clear hK K
                refine rg_det rfl rfl rfl (fun K hK => ?_)
                go_big_quiet_op
                refine hK _ ?_; clear hK K
                refine rg_det rfl rfl rfl (fun K hK => ?_)
                go_big_quiet_op
                refine hK _ ?_; clear hK K
                refine rg_det rfl rfl rfl (fun K hK => ?_)
                go_big_quiet_op
                refine hK _ ?_; clear hK K
                refine rg_det rfl rfl rfl (fun K hK => ?_)
                go_big_quiet_op
                refine hK _ ?_; clear hK K
                refine rg_det rfl rfl rfl (fun K hK => ?_)
                go_big_quiet_op
                refine hK _ ?_; clear hK K
                refine rg_det rfl rfl rfl (fun K hK => ?_)
                go_big_quiet_op
                refine hK _ ?_; clear hK K
                refine rg_rel rfl rfl (fun W1 hW1 hF => step_litF (parts := [(0, Operand.tmp 76)]) (vs := [.int .i64 (x.t m % 3)]) Tryz.underlying72 hk0 hkz0 hkz1 rfl (by decide) (by decide) rfl rfl (by simp [Value.cells])) ?_
                intro n12 m12 v12 hn12 hm12 hd12 hf12 a' ha
                simp only [Act.put, List.setIfInBounds_toArray, List.set_cons_succ, List.set_cons_zero] at ha
                subst ha
                obtain rfl := hf12
                refine rg_nil (fun w' hw' hF => ?_)
                obtain ⟨z, rfl⟩ := hw'
                simp only [List.drop_succ_cons, List.drop_zero]
                obtain ⟨hm12, -, hl12, b12⟩ := end_last hF
                have hBz2 := hBZ.trans (z.h.mono hBZ.size)
                have hzs := z.h.size
                have btz := bt.gw z
                clear hF hd12 c1 c2 c3 c4 e1 e2 bt
                go_wp2_with (at_builtin; refine wpList_app3 rfl _ _ rfl Tryz.underlying72 hk0 hkz0 hkz1 hkz2 rfl (by decide) (cl := [.int .i64 (x.t m % 3)]) rfl (fun u hu => by rw [List.mem_singleton.1 hu]; rfl) rfl rfl (own_below hown (Nat.le_refl _) z.h) b12 ?h63 ?hby ?hbase ?_)
                case h63 => unfold maxLen; omega
                case hby => omega
                case hbase => omega
                intro v' w3 hown3 hg3 hB3 hob3
                have hown4 : w3.ownsRow (w2.heap.size + 1) 3 1 v' (m + 1) ((trL x (m + 1)).flatMap ic) := by
                  rw [HLm.out, List.flatMap_append]
                  have := hown3
                  rw [HTm.out] at this
                  exact this
                obtain ⟨A', c', hv⟩ := own_len hown4
                subst hv
                have bt3 := btz.below hB3 (by omega)
                have hs3 := hB3.size
                have hBw3 : Below w2.heap.size w2 w3 := hBz2.trans (hB3.mono (by omega))
                have e1 := bt3.cell
                have e2 := bt3.frozen
                clear hown3 hg3 hob3 btz b12 hown
                go_wp2_with fail
                have hp : Put w3 _ w2.heap.size := Put.set w3 w2.heap.size 2 (.slice A' (m + 1) c')
                exact ⟨⟨m + 1, by omega, by go_num, .slice A' (m + 1) c', own_put hown4 hp (by omega), bt3.set_ 2 _, hBw3.setCell (by show w2.heap.size ≤ w2.heap.size; omega) _, by rw [hp.size]; omega⟩, by simp [intOf]; omega⟩
              · obtain rfl : m = tn + 1 := by omega
                have hI : IdxS (w2.heap.size + 1) wr.heap.size wr (.slice Au (tn + 1) cu) (trL x (tn + 1)) := by
                  unfold IdxS
                  rw [trL_length]
                  exact Rd.of_own hown (by omega) (Nat.le_refl _)
                have HI := Lib.hid hI
                have hbsZ := (bs2.keep hb2).keep hBZ
                have hboZ := (bo2.keep hb2).keep hBZ
                have hrowZ := (hrow.keep hb2).keep hBZ
                have hTZ := (hT2.keep hb2).keep hBZ
                have hBZ2 := hB2.trans ((hb2.trans (hBZ.mono hb2.size)).mono hB2.size)
                have e3 := hbsZ.cell
                have e4 := bt.cell
                have hsZ := hBZ.size
                have HROW := Lib.hid hrow
                clear hI hown c1 c2 hrow bs2 bo2 hT2 br2
                go_wp2_with (at_builtin; refine wpList_appP (x := .slice Au (tn + 1) cu) (y := ⟨ca, trL x (tn + 1)⟩) (lo := w2.heap.size + 1) (hi := wr.heap.size) (base := V.heap.size) (ps := q.pk k) rfl _ _ rfl Tryz.underlying34 rfl rfl ?hrow ?hsrc rfl ?hE ?hlo ?hhi ?hout ?hk ?hbase ?_)
                case hrow => exact hrowZ.keep ((Below.refl _ _).alloc (Nat.le_refl _) _)
                case hsrc => exact Blk.new_at _ _ _ rfl
                case hE => exact Rd.keep HI.out ((Below.refl _ _).alloc (Nat.le_refl _) _)
                case hlo => omega
                case hout => exact fun b hb => .inl (by have := (HROW.out.block hb).2; omega)
                case hk => first | omega | (rw [hpl]; omega)
                case hbase => first | omega | (simp; omega)
                intro u' w4 hrow4 hB4 hg4 hob4
                have hal : Below wr.heap.size wr (wr.alloc (.cells #[.int .u64 (fv ca.a), .int .u64 (fv ca.b), .slice Au (tn + 1) cu] 74)) := (Below.refl _ _).alloc (Nat.le_refl _) _
                have hM : (⟨ca, trL x (tn + 1)⟩ : Trm) = trM x := by unfold trM; rw [HCA.out, HTN.out]
                rw [hM, ← HPx.out] at hrow4
                obtain ⟨A', c', hv⟩ := hrow4.len
                rw [show (q.pk (k + 1)).length = k + 1 by rw [HPx.out, List.length_append, hpl]; rfl] at hv
                subst hv
                have bs4 := (hbsZ.keep hal).below hB4 (by omega)
                have br4 := (brZ.keep hal).below hB4 (by omega)
                have bo4 := (hboZ.keep hal).below hB4 (by omega)
                have hs4 : wr.heap.size + 1 ≤ w4.heap.size := by have := hB4.size; simpa using this
                have hT4 := (hTZ.keep hal).other hB4.size fun g h1 h2 h3 => hB4.block g h2
                have hBw4 : Below w.heap.size w w4 := (hBZ2.trans (hal.mono hBZ2.size)).trans (hB4.mono (by omega))
                have e1 := bs4.cell
                have e2 := bs4.frozen
                clear hg4 hob4 hbsZ hboZ hrowZ hTZ brZ e3 e4 bt hM
                go_wp2_with fail
                have hp : Put w4 _ (w.heap.size + 1 + 1) := Put.set w4 (w.heap.size + 1 + 1) 1 (.slice A' (k + 1) c')
                exact ⟨⟨k + 1, by omega, by omega, by go_num, .slice A' (k + 1) c', hrow4.put hp (by omega), bs4.set_ 1 _, hp.blk br4 (by omega), hp.blk bo4 (by omega), hBw4.setCell (by show w.heap.size ≤ w.heap.size + 1 + 1; omega) _, hT4.put hp (.inl (by omega)), by rw [hp.size]; omega⟩, by simp [intOf]; omega⟩
          · obtain rfl : k = 4 := by omega
            have e1 := br2.cell
            have e3 := bs2.cell
            have e4 := bo2.cell
            have e5 := bo2.frozen
            have HP : Hid (TrmS V.heap.size X.heap.size X (.slice AP 4 cP) (q.pk 4)) := Lib.hid (hrow.trms (by rw [hpl]; decide))
            clear hrow
            go_wp2_with fail
            refine set2 (M := fun W => bodyPost _ _ _ _ _ W) bo2 fun X2 hp bo => ?_
            have f1 := bo.cell
            have hs2 := hp.size
            refine bodyPost_ret (v := sv (.slice AT 3 cT) (.slice AP 4 cP)) (by simp [results, Tryz.results50, go_sem, f1, sv]) rfl (show RetR (MadeA _ _) w (.returned _) X2 from ⟨_, rfl, ⟨_, _, rfl, ?_, ?_⟩, ?_⟩)
            · exact (hT2.put hp (.inl (by omega))).wide (by omega) (by omega)
            · have t1 := TrmS.put HP.out hp (.inl (show w.heap.size + 1 < V.heap.size by omega))
              rw [HP4.out]
              exact t1.wide (by omega) (by omega)
            · exact below_put hB2 hp (by omega)
        · obtain rfl : k = LL := by omega
          have hq4 : q.pk 4 = q.pk k := by
            unfold Raw6.pk
            rw [List.take_of_length_le (by have := HLn.out; omega), List.take_of_length_le (by have := HLn.out; omega)]
          have e1 := br2.cell
          have e3 := bs2.cell
          have e4 := bo2.cell
          have e5 := bo2.frozen
          have HQ4 := Lib.hid hq4
          have HP : Hid (TrmS V.heap.size X.heap.size X (.slice AP k cP) (q.pk k)) := Lib.hid (hrow.trms (by rw [hpl]; omega))
          clear hrow hq4
          go_wp2_with fail
          refine set2 (M := fun W => bodyPost _ _ _ _ _ W) bo2 fun X2 hp bo => ?_
          have f1 := bo.cell
          have hs2 := hp.size
          refine bodyPost_ret (v := sv (.slice AT 3 cT) (.slice AP k cP)) (by simp [results, Tryz.results50, go_sem, f1, sv]) rfl (show RetR (MadeA _ _) w (.returned _) X2 from ⟨_, rfl, ⟨_, _, rfl, ?_, ?_⟩, ?_⟩)
          · exact (hT2.put hp (.inl (by omega))).wide (by omega) (by omega)
          · have t1 := TrmS.put HP.out hp (.inl (show w.heap.size + 1 < V.heap.size by omega))
            rw [HP4.out, HQ4.out]
            exact t1.wide (by omega) (by omega)
          · exact below_put hB2 hp (by omega)
end Go.Proofs.YtnddfeidggcplaaGreat
namespace Go.Proofs.YtnddfeidggcplaaGreat
open Go.RowKit

set_option maxRecDepth 100000 in
set_option maxHeartbeats 1000000 in
theorem rDegree (vt vp : Value) (ps : List Trm) (lo hi : Nat) (w : World) (h : TrmS lo hi w vp ps) (hsh : ∀ p ∈ ps, p.t.length ≤ 1000) :
    Calls Tryz.prog 19 #[sv vt vp] w (Ret (.int .i64 (degE ps : Nat)) w) := by
  obtain ⟨A, capP, rfl⟩ := h.len
  have hsm := h.small
  have HSH := Lib.hid hsh
  have HD := Lib.hid (fun j => Nat.le_trans (deg_fold (ps.take j) 1000 (fun p hp => hsh p (List.mem_of_mem_take hp)) 1 (by omega)) (Nat.le_refl _))
  have HH := Lib.hid h
  clear hsh h
  unfold sv
  go_enter Tryz.func19, Tryz.ntmps19
  go_upto_region 1 with (fail)
  refine wp_stk1 fun W hB hz b1 => ?_
  clear hz
  go_wp2_with fail
  go_loopw [3, 4] (fun d i wr => ∃ j : Nat, j ≤ ps.length ∧ i = .int .i64 j ∧ d = .int .i64 (degK ps j : Nat) ∧ Below W.heap.size W wr) (fun _ i _ => ps.length - (intOf i).toNat)
  case atStart => exact ⟨0, Nat.zero_le _, rfl, rfl, Below.refl _ _⟩
  case round =>
    obtain ⟨j, hj, rfl, rfl, hBr⟩ := hrel
    have e0 := (b1.keep hBr).cell
    by_cases hlt : j < ps.length
    · obtain ⟨g, off, cap', hv, q1, q2, q3, q4, q5⟩ := trms_cells ((HH.out.keep hB).keep hBr) (by omega)
      cases hv
      obtain ⟨p, hpj⟩ : ∃ p, ps[j]? = some p := ⟨_, List.getElem?_eq_getElem hlt⟩
      obtain ⟨A2, c2, d1, d2, d3, hI⟩ := q5 j p hpj
      have hF := degK_succ ps j p hpj
      have hl1 := HSH.out p (List.mem_of_getElem? hpj)
      have hd : degK ps j ≤ 1000 := HD.out j
      obtain ⟨m, hm⟩ : ∃ m, m = degK ps j := ⟨_, rfl⟩
      obtain ⟨m2, hm2⟩ : ∃ m2, m2 = degK ps (j + 1) := ⟨_, rfl⟩
      rw [← hm, ← hm2] at hF
      rw [← hm] at hd ⊢
      have HMX := Lib.hid (show (if m < p.t.length then (p.t.length : Int) else (m : Int)) = (m2 : Int) by split <;> omega)
      have HM := Lib.hid hm2
      clear q5 hpj hm hm2 hF
      go_wp2_with fail
      exact ⟨⟨j + 1, by omega, by go_num, by rw [← HM.out, HMX.out], hBr⟩, by simp [intOf]; omega⟩
    · obtain rfl : j = ps.length := by omega
      rw [degK_all]
      go_wp2_with fail
      go_ret
      exact ⟨rfl, hB.trans (hBr.mono hB.size)⟩
set_option maxRecDepth 100000 in
set_option maxHeartbeats 2000000 in
theorem rFinal (vals : List E) (vt vp v : Value) (ps : List Trm) (lo hi lo2 hi2 : Nat) (w : World) (hp : TrmS lo hi w vp ps) (h : ExtS lo2 hi2 w v vals) (hix : ∀ p ∈ ps, ∀ k ∈ p.t, k < vals.length) :
    Calls Tryz.prog 140 #[sv vt vp, v] w (Ret (ev (finE (valL vals) ps)) w) := by
  obtain ⟨A, capP, rfl⟩ := hp.len
  obtain ⟨AV, capV, rfl⟩ := Rd.len h
  have hsm := hp.small
  have hsv := h.2.1
  have HIX := Lib.hid hix
  have HP := Lib.hid hp
  have HV := Lib.hid h
  clear hix hp h
  unfold sv ev
  go_enter Tryz.func140, Tryz.ntmps140
  go_upto_region 2 with (fail)
  refine wp_stk3 fun W hB hz b2 b4 b5 => ?_
  have hWs : W.heap.size = w.heap.size + 1 + 1 + 1 := hz.out
  clear hz
  go_wp2_with fail
  go_loopw [6] (fun i wr => ∃ j : Nat, j ≤ ps.length ∧ i = .int .i64 j ∧ Blk wr (w.heap.size + 2) 30 #[.int .u64 (fv (finK (valL vals) ps j).a), .int .u64 (fv (finK (valL vals) ps j).b)] ∧ Below (w.heap.size + 2) W wr) (fun i _ => ps.length - (intOf i).toNat)
  case atStart => exact ⟨0, Nat.zero_le _, rfl, b5, Below.refl _ _⟩
  case round =>
    obtain ⟨j, hj, rfl, b5, hBr⟩ := hrel
    have b2r := b2.below hBr (by omega)
    have b4r := b4.below hBr (by omega)
    have hBw := hB.trans (hBr.mono (by omega))
    have e1 := b2r.cell
    by_cases hlt : j < ps.length
    · obtain ⟨g, off, cap', hv, q1, q2, q3, q4, q5⟩ := trms_cells (HP.out.keep hBw) (by omega)
      cases hv
      obtain ⟨p, hpj⟩ : ∃ p, ps[j]? = some p := ⟨_, List.getElem?_eq_getElem hlt⟩
      obtain ⟨A2, c2, d1, d2, d3, hI⟩ := q5 j p hpj
      have HF := Lib.hid (finK_succ (valL vals) ps j p hpj)
      have HPI := Lib.hid (HIX.out p (List.mem_of_getElem? hpj))
      have HI := Lib.hid hI
      have hpl : p.t.length ≤ 140737488355327 := hI.2.1
      obtain ⟨X0, hX0⟩ : ∃ X, X = wr := ⟨_, rfl⟩
      subst hX0
      clear q5 hpj hI
      go_upto_region 6 with (fail)
      refine wp_stk1 fun X hX hzX b7 => ?_
      have hXs : X.heap.size = X0.heap.size + 1 := hzX.out
      have b2X := b2r.keep hX
      have b5X := b5.keep hX
      have k1 := (hX.cell (p := ⟨g, off + j * 3 + 2, none⟩) q4).trans d3
      have B7 : Blk X X0.heap.size 30 #[.int .u64 (fv (trmK (valL vals) p 0).a), .int .u64 (fv (trmK (valL vals) p 0).b)] := b7
      clear hzX e1 d1 d2 d3 b7
      go_wp2_with fail
      go_loopw [8] (fun i wr => ∃ k : Nat, k ≤ p.t.length ∧ i = .int .i64 k ∧ Blk wr X0.heap.size 30 #[.int .u64 (fv (trmK (valL vals) p k).a), .int .u64 (fv (trmK (valL vals) p k).b)] ∧ Below X0.heap.size X wr) (fun i _ => p.t.length - (intOf i).toNat)
      case atStart => exact ⟨0, Nat.zero_le _, rfl, B7, Below.refl _ _⟩
      case round =>
        obtain ⟨k, hk, rfl, b7, hBz⟩ := hrel
        have b2z := b2X.below hBz b2r.lt
        have b5z := b5X.below hBz b5.lt
        have k2 := (hBz.cell (p := ⟨g, off + j * 3 + 2, none⟩) q4).trans k1
        have e1 := b2z.cell
        have hXB := hX.trans hBz
        by_cases hltk : k < p.t.length
        · obtain ⟨gi, oi, ci, hv, -, -, -, li, qi⟩ := idxs_cells HI.out (by omega)
          cases hv
          obtain ⟨x, hx⟩ : ∃ x, p.t[k]? = some x := ⟨_, List.getElem?_eq_getElem hltk⟩
          have hxl := HPI.out x (List.mem_of_getElem? hx)
          obtain ⟨gV, oV, cV, hv, -, -, -, lV, qV⟩ := exts_cells HV.out (by omega)
          cases hv
          obtain ⟨y, hy, hyd⟩ := get_of hxl
          have HT := Lib.hid (show trmK (valL vals) p (k + 1) = trmK (valL vals) p k * y by rw [trmK_succ _ _ _ _ hx]; unfold valL; rw [hyd])
          obtain ⟨d1, d2⟩ := qV x y hy
          have hwz := hBw.trans (hXB.mono hBw.size)
          have f1 := gw_blk b7
          have f2 := gw_blk b2z
          have f3 := gw_cell (W := wr) (Nat.lt_of_lt_of_le q4 hXB.size) k2
          have f4 := gw_cell (W := wr) (Nat.lt_of_lt_of_le li hXB.size) ((hXB.cell (p := ⟨gi, oi + k, none⟩) li).trans (qi k x hx))
          have f5 := gw_cell (W := wr) (Nat.lt_of_lt_of_le lV hwz.size) ((hwz.cell (p := ⟨gV, oV + x * 2, none⟩) lV).trans d1)
          have f6 := gw_cell (W := wr) (Nat.lt_of_lt_of_le lV hwz.size) ((hwz.cell (p := ⟨gV, oV + x * 2 + 1, none⟩) lV).trans d2)
          clear qi qV hx hy hyd d1 d2
          generalize trmK (valL vals) p k = m at *
          go_wp2_with fail
          refine wp_region_rg 14 [(13, Spec.val (.agg #[.int .u64 (fv (m * y).a), .int .u64 (fv (m * y).b)]))] (by kernel_rfl) (by kernel_rfl) (by kernel_rfl) trivial ?_
          refine rg_det rfl rfl rfl (fun K hK => ?_)
          go_big_quiet_op
          refine hK _ ?_; clear hK K
          refine rg_det rfl rfl rfl (fun K hK => ?_)
          go_big_quiet_op
          refine hK _ ?_; clear hK K
          refine rg_det rfl rfl rfl (fun K hK => ?_)
          go_big_quiet_op
          refine hK _ ?_; clear hK K
          refine rg_det rfl rfl rfl (fun K hK => ?_)
          go_big_quiet_op
          refine hK _ ?_; clear hK K
          refine rg_det rfl rfl rfl (fun K hK => ?_)
          go_big_quiet_op
          refine hK _ ?_; clear hK K
          refine rg_det rfl rfl rfl (fun K hK => ?_)
          go_big_quiet_op
          refine hK _ ?_; clear hK K
          refine rg_det rfl rfl rfl (fun K hK => ?_)
          go_big_quiet_op
          refine hK _ ?_; clear hK K
          refine rg_det rfl rfl rfl (fun K hK => ?_)
          go_big_quiet_op
          refine hK _ ?_; clear hK K
          refine rg_det rfl rfl rfl (fun K hK => ?_)
          go_big_quiet_op
          refine hK _ ?_; clear hK K
          refine rg_det rfl rfl rfl (fun K hK => ?_)
          go_big_quiet_op
          refine hK _ ?_; clear hK K
          refine rg_det rfl rfl rfl (fun K hK => ?_)
          go_big_quiet_op
          refine hK _ ?_; clear hK K
          refine rg_det rfl rfl rfl (fun K hK => ?_)
          go_big_quiet_op
          refine hK _ ?_; clear hK K
          refine rg_det rfl rfl rfl (fun K hK => ?_)
          go_big_quiet_op
          refine hK _ ?_; clear hK K
          refine rg_val rfl rfl (fun W1 hW1 hF => step_callv en_attestor_attestorref02_Mul (xMul m y W1) rfl rfl) ?_
          intro a' ha
          simp only [Act.put, List.setIfInBounds_toArray, List.set_cons_succ, List.set_cons_zero] at ha
          subst ha
          refine rg_nil (fun w' hw' hF => ?_)
          obtain ⟨z9, rfl⟩ := hw'
          simp only [List.drop_succ_cons, List.drop_zero]
          have b7z := b7.gw z9
          have hBz9 := hBz.trans (z9.h.mono (by have := hX.size; have := hBz.size; omega))
          have e2 := b7z.frozen
          have e3 := b7z.cell
          clear hF f1 f2 f3 f4 f5 f6 b7
          go_upto_region 8 with (fail)
          refine set2 (M := fun W => Code.wp _ _ _ _ W) b7z fun Y hY bY => ?_
          have HN := Lib.hid (show Blk Y X0.heap.size 30 #[.int .u64 (fv (trmK (valL vals) p (k + 1)).a), .int .u64 (fv (trmK (valL vals) p (k + 1)).b)] by rw [HT.out]; exact bY)
          have hBY := below_put hBz9 hY (Nat.le_refl _)
          clear e1 e2 e3 b7z bY hY
          go_wp2_with fail
          exact ⟨⟨k + 1, by omega, by go_num, HN.out, hBY⟩, by simp [intOf]; omega⟩
        · obtain rfl : k = p.t.length := by omega
          rw [trmK_all] at b7
          have e2 := b5z.cell
          have e3 := b7.cell
          generalize finK (valL vals) ps j = s at *
          generalize trmE (valL vals) p = y at *
          go_wp2_with fail
          refine (xAdd s y _).mono ?_
          rintro e w3 ⟨he, hb3⟩
          unfold ev at he
          subst he
          have b53 := b5z.keep hb3
          have e4 := b53.frozen
          have e5 := b53.cell
          have hB3 := (hBr.trans ((hX.trans hBz).mono (by have := hBr.size; omega))).trans (hb3.mono (by have := hBr.size; have := hXB.size; omega))
          clear e1 e2 e3 b7
          go_upto_region 4 with (fail)
          refine set2 (M := fun W => Code.wp _ _ _ _ W) b53 fun Y hY bY => ?_
          have HN := Lib.hid (show Blk Y (w.heap.size + 2) 30 #[.int .u64 (fv (finK (valL vals) ps (j + 1)).a), .int .u64 (fv (finK (valL vals) ps (j + 1)).b)] by rw [HF.out]; exact bY)
          have hBY := below_put hB3 hY (Nat.le_refl _)
          clear e4 e5 b53 bY hY
          go_wp2_with fail
          exact ⟨⟨j + 1, by omega, by go_num, HN.out, hBY⟩, by simp [intOf]; omega⟩
    · obtain rfl : j = ps.length := by omega
      rw [finK_all] at b5
      have e2 := b5.cell
      have e3 := b4r.cell
      have e4 := b4r.frozen
      generalize finE (valL vals) ps = y at *
      go_wp2_with fail
      refine bodyPost_ret (v := .agg #[.int .u64 (fv (y).a), .int .u64 (fv (y).b)]) (by simp [results, Tryz.results140, go_sem, e3]) rfl ⟨rfl, ?_⟩
      exact below_set2 hBw (by omega)
def colE (tabs : List (List E)) (j k : Nat) : List E := (tabs.take k).map fun t => t.getD j 0
theorem colE_succ (tabs : List (List E)) (j k : Nat) (t : List E) (h : tabs[k]? = some t) : colE tabs j (k + 1) = colE tabs j k ++ [t.getD j 0] := by simp [colE, List.take_add_one, h]
theorem colE_len (tabs : List (List E)) (j k : Nat) (h : k ≤ tabs.length) : (colE tabs j k).length = k := by simp [colE]; omega
theorem colE_fin (tabs : List (List E)) (j : Nat) (ps : List Trm) (hix : ∀ p ∈ ps, ∀ k ∈ p.t, k < tabs.length) : finE (valL (colE tabs j tabs.length)) ps = finE (valT tabs j) ps :=
  finE_congr _ _ ps tabs.length hix fun k hk => by
    unfold valL valT colE
    rw [List.take_length]
    simp [List.getD, hk]
set_option maxRecDepth 100000 in
set_option maxHeartbeats 2000000 in
theorem rTotal (tabs : List (List E)) (N : Nat) (vt vp : Value) (ps : List Trm) (lo hi : Nat) (w : World) (h : SumS lo hi w vt vp tabs ps) (h0 : 0 < tabs.length) (hl : tabs.length ≤ 1000) (hall : AllLen tabs N) (hN : N ≤ 1000000) :
    Calls Tryz.prog 127 #[sv vt vp] w (Ret (ev (totE tabs ps)) w) := by
  obtain ⟨i0, hi0, iz0, iz1, iz2⟩ := info_parts ext_info
  obtain ⟨AP, capP, rfl⟩ := h.hp.len
  obtain ⟨A, capt, rfl⟩ := h.ht.len
  have HT := Lib.hid (show totK tabs ps N = totE tabs ps by unfold totE; rw [hall.lenT h0])
  have HA := Lib.hid hall
  have HH := Lib.hid h
  clear hall h
  obtain ⟨g, off, cap', hv, q1, q2, q3, q4, q5⟩ := tabs_cells HH.out.ht h0
  cases hv
  obtain ⟨t0, ht0⟩ : ∃ t, tabs[0]? = some t := ⟨_, List.getElem?_eq_getElem h0⟩
  obtain ⟨A0, c0, k0, hE0⟩ := q5 0 t0 ht0
  have hl0 : t0.length = N := HA.out t0 (List.mem_of_getElem? ht0)
  rw [hl0] at k0
  rw [Nat.add_zero] at k0
  have HQ5 := Lib.hid q5
  clear q5 ht0 hE0 hl0
  obtain ⟨np, hnp⟩ : ∃ np, np = ps.length := ⟨_, rfl⟩
  have HNP := Lib.hid hnp
  rw [← hnp]
  obtain ⟨nt, hnt⟩ : ∃ nt, nt = tabs.length := ⟨_, rfl⟩
  have HNT := Lib.hid hnt
  rw [← hnt] at h0 hl ⊢
  clear hnp hnt
  unfold sv ev
  go_enter Tryz.func127, Tryz.ntmps127
  go_upto_region 2 with (fail)
  refine wp_stk3 fun W hB hz b1 b2 b3 => ?_
  have hWs : W.heap.size = w.heap.size + 1 + 1 + 1 := hz.out
  have k1 := (hB.cell (p := ⟨g, off, none⟩) q4).trans k0
  clear hz k0
  go_wp2_with fail
  go_loopw [4] (fun i wr => ∃ j : Nat, j ≤ N ∧ i = .int .i64 j ∧ Blk wr (w.heap.size + 2) 30 #[.int .u64 (fv (totK tabs ps j).a), .int .u64 (fv (totK tabs ps j).b)] ∧ Below (w.heap.size + 2) W wr) (fun i _ => N - (intOf i).toNat)
  case atStart => exact ⟨0, Nat.zero_le _, rfl, b3, Below.refl _ _⟩
  case round =>
    obtain ⟨j, hj, rfl, b3, hBr⟩ := hrel
    have b1r := b1.below hBr (by omega)
    have b2r := b2.below hBr (by omega)
    have hBw := hB.trans (hBr.mono (by omega))
    have e1 := b1r.cell
    have k2 := (hBr.cell (p := ⟨g, off, none⟩) (by show g < w.heap.size + 2; omega)).trans k1
    by_cases hlt : j < N
    · have HFT := Lib.hid (totK_succ tabs ps j)
      have hNs := hBr.size
      obtain ⟨X0, hX0⟩ : ∃ X, X = wr := ⟨_, rfl⟩
      subst hX0
      go_upto_region 6 with (fail)
      refine wp_stk1 fun X hX hzX b5 => ?_
      have hXs : X.heap.size = X0.heap.size + 1 := hzX.out
      have own0 : X.ownsRow X0.heap.size 30 2 (.slice (some ⟨X0.heap.size, 0, none⟩) 0 0) 0 ((colE tabs j 0).flatMap ec) := ⟨rfl, .inr ⟨X0.heap.size, 0, #[], rfl, Nat.le_refl _, b5, Nat.le_refl _, Nat.zero_le _, rfl, rfl⟩⟩
      clear hzX e1 k2 b5
      go_wp2_with fail
      go_loopw [5, 6] (fun u i wr => ∃ k : Nat, k ≤ nt ∧ i = .int .i64 k ∧ wr.ownsRow X0.heap.size 30 2 u k ((colE tabs j k).flatMap ec) ∧ Below X0.heap.size X wr) (fun _ i _ => nt - (intOf i).toNat)
      case atStart => exact ⟨0, Nat.zero_le _, rfl, own0, Below.refl _ _⟩
      case round =>
        obtain ⟨k, hk, rfl, hown, hBz⟩ := hrel
        obtain ⟨Au, cu, rfl⟩ := own_len hown
        have hXB := hX.trans hBz
        have b1z := b1r.below hXB b1r.lt
        have hwz := hBw.trans (hXB.mono hBw.size)
        have e1 := b1z.cell
        have hXz : X0.heap.size ≤ wr.heap.size := hXB.size
        by_cases hltk : k < nt
        · obtain ⟨t, ht⟩ : ∃ t, tabs[k]? = some t := ⟨_, List.getElem?_eq_getElem (by rw [← HNT.out]; exact hltk)⟩
          obtain ⟨At, ct, d1, hE⟩ := HQ5.out k t ht
          have htl := HA.out t (List.mem_of_getElem? ht)
          obtain ⟨gt, ot, ct', hv, -, -, -, lt', qt⟩ := exts_cells hE (by omega)
          cases hv
          obtain ⟨y, hy, hyd⟩ := get_of (l := t) (k := j) (by omega)
          obtain ⟨d2, d3⟩ := qt j y hy
          have HC := Lib.hid (show (colE tabs j (k + 1)).flatMap ec = (colE tabs j k).flatMap ec ++ ec y by rw [colE_succ tabs j k t ht, List.flatMap_append, hyd]; simp)
          have e2 := (hwz.cell (p := ⟨g, off + k, none⟩) q4).trans d1
          have e3 := (hwz.cell (p := ⟨gt, ot + j * 2, none⟩) lt').trans d2
          have e4 := (hwz.cell (p := ⟨gt, ot + j * 2 + 1, none⟩) lt').trans d3
          rw [htl] at e2
          have HO := Lib.hid hown
          clear qt ht htl hE hy hyd d1 d2 d3 hown
          go_wp2_with (at_builtin; refine wpList_app1 rfl _ _ rfl Tryz.underlying22 hi0 iz0 iz1 iz2 rfl (by decide) (cl := ec y) rfl (ec_one _) rfl rfl (own_below HO.out (Nat.le_refl _) ((Below.refl _ _).alloc (Nat.le_refl _) _)) (Blk.new_at _ _ _ rfl) ?h63 ?hby ?hbase ?_)
          case h63 => unfold maxLen; omega
          case hby => omega
          case hbase => simp; omega
          intro v1 w4 hown4 hgrow hB5
          have hB6 : Below X0.heap.size X w4 := (hBz.trans (((Below.refl _ _).alloc (Nat.le_refl _) _).mono hXz)).trans hB5
          rw [← HC.out] at hown4
          clear e1 e2 e3 e4 hgrow hB5
          go_wp2_with fail
          exact ⟨⟨k + 1, by omega, by go_num, hown4, hB6⟩, by simp [intOf]; omega⟩
        · obtain rfl : k = nt := by omega
          have hcl := colE_len tabs j k (by rw [← HNT.out]; exact Nat.le_refl _)
          have hcf : Hid (finE (valL (colE tabs j k)) ps = finE (valT tabs j) ps) := Lib.hid (by
            have := colE_fin tabs j ps HH.out.ix
            rwa [← HNT.out] at this)
          have HO : Hid (ExtS X0.heap.size wr.heap.size wr (.slice Au k cu) (colE tabs j k)) := Lib.hid (by
            have := exts_of_own hown hcl (by omega) (Nat.le_refl _)
            exact this)
          have b3z := b3.below hXB b3.lt
          have HFn := Lib.hid (show ∀ W1, Below wr.heap.size wr W1 → Calls Tryz.prog 140 #[.agg #[.slice (some ⟨g, off, none⟩) k capt, .slice AP np capP], .slice Au k cu] W1 (Ret (ev (finE (valT tabs j) ps)) W1) from fun W1 hW => by
            rw [← hcf.out]
            have hp := (HH.out.hp.keep hwz).keep hW
            rw [← HNP.out] at hp
            exact rFinal (colE tabs j k) _ _ _ ps _ _ _ _ W1 hp (Rd.keep HO.out hW) (fun p hp i hi => by rw [hcl]; have := HH.out.ix p hp i hi; rwa [← HNT.out] at this))
          have f1 := gw_blk b3z
          have f2 := gw_blk b1z
          generalize totK tabs ps j = m at *
          generalize finE (valT tabs j) ps = y at *
          clear hown hcl
          go_wp2_with fail
          refine wp_region_rg 5 [(3, Spec.val (.agg #[.int .u64 (fv (y).a), .int .u64 (fv (y).b)])), (4, Spec.val (.agg #[.int .u64 (fv (m + y).a), .int .u64 (fv (m + y).b)]))] (by kernel_rfl) (by kernel_rfl) (by kernel_rfl) trivial ?_
          refine rg_det rfl rfl rfl (fun K hK => ?_)
          go_big_quiet_op
          refine hK _ ?_; clear hK K
          refine rg_det rfl rfl rfl (fun K hK => ?_)
          go_big_quiet_op
          refine hK _ ?_; clear hK K
          refine rg_det rfl rfl rfl (fun K hK => ?_)
          go_big_quiet_op
          refine hK _ ?_; clear hK K
          refine rg_val rfl rfl (fun W1 hW1 hF => step_callv en_attestor_attestorref06_Final (HFn.out W1 (grw_below hW1)) rfl rfl) ?_
          intro a' ha
          simp only [Act.put, List.setIfInBounds_toArray, List.set_cons_succ, List.set_cons_zero] at ha
          subst ha
          refine rg_val rfl rfl (fun W1 hW1 hF => step_callv en_attestor_attestorref02_Add (xAdd m y W1) rfl rfl) ?_
          intro a' ha
          simp only [Act.put, List.setIfInBounds_toArray, List.set_cons_succ, List.set_cons_zero] at ha
          subst ha
          refine rg_nil (fun w' hw' hF => ?_)
          obtain ⟨z9, rfl⟩ := hw'
          simp only [List.drop_succ_cons, List.drop_zero]
          have b39 := b3z.gw z9
          have hB9 := (hBr.trans (hXB.mono (by omega))).trans (z9.h.mono (by omega))
          have e2 := b39.frozen
          have e3 := b39.cell
          clear hF f1 f2 e1
          go_upto_region 4 with (fail)
          refine set2 (M := fun W => Code.wp _ _ _ _ W) b39 fun Y hY bY => ?_
          have HN := Lib.hid (show Blk Y (w.heap.size + 2) 30 #[.int .u64 (fv (totK tabs ps (j + 1)).a), .int .u64 (fv (totK tabs ps (j + 1)).b)] by rw [HFT.out]; exact bY)
          have hBY := below_put hB9 hY (Nat.le_refl _)
          clear e2 e3 b39 bY hY
          go_wp2_with fail
          exact ⟨⟨j + 1, by omega, by go_num, HN.out, hBY⟩, by simp [intOf]; omega⟩
    · obtain rfl : j = N := by omega
      rw [HT.out] at b3
      have e2 := b3.cell
      have e3 := b2r.cell
      have e4 := b2r.frozen
      generalize totE tabs ps = y at *
      go_wp2_with fail
      refine bodyPost_ret (v := .agg #[.int .u64 (fv (y).a), .int .u64 (fv (y).b)]) (by simp [results, Tryz.results127, go_sem, e3]) rfl ⟨rfl, ?_⟩
      exact below_set2 hBw (by omega)
end Go.Proofs.YtnddfeidggcplaaGreat
namespace Go.Proofs.YtnddfeidggcplaaGreat
open Go.RowKit

def mdR (l : List (List Raw)) (n m : Nat) : List (List E) := (List.range n).map fun i => madeAll (l.getD i []) m
theorem mdR_succ (l : List (List Raw)) (n m : Nat) : mdR l (n + 1) m = mdR l n m ++ [madeAll (l.getD n []) m] := by simp [mdR, List.range_succ]
theorem mdR_length (l : List (List Raw)) (n m : Nat) : (mdR l n m).length = n := by simp [mdR]
set_option maxRecDepth 100000 in
set_option maxHeartbeats 2000000 in
theorem rMadeRounds (l : List (List Raw)) (n m : Nat) (hn : n ≤ 1000) (hm : m ≤ 1000) (vl : Value) (lo hi : Nat) (w : World) (h : RTabS lo hi w vl l) :
    Calls Tryz.prog 18 #[vl, .int .i64 (n : Int), .int .i64 (m : Int)] w (RetR (fun lo hi v w' => TabS lo hi w' v (mdR l n m)) w) := by
  obtain ⟨A, cap, rfl⟩ := h.len
  have hsm := h.small
  have HH := Lib.hid h
  clear h
  go_enter Tryz.func18, Tryz.ntmps18
  go_wp2
  go_loopw [7, 8] (fun v i wr => ∃ j : Nat, j ≤ n ∧ i = .int .i64 j ∧ RowT w.heap.size wr v (mdR l j m) ∧ Below w.heap.size w wr) (fun _ i _ => n - (intOf i).toNat)
  case atStart => exact ⟨0, Nat.zero_le _, rfl, ⟨[], ⟨rfl, .inr ⟨w.heap.size, 0, #[], rfl, Nat.le_refl _, World.alloc_heap_new w _, Nat.le_refl _, Nat.zero_le _, rfl, by simp⟩⟩, rfl, fun k x t h => by simp at h⟩, (Below.refl _ _).alloc (Nat.le_refl _) _⟩
  case round =>
    obtain ⟨j, hj, rfl, hrow, hB⟩ := hrel
    by_cases hlt : j < n
    · go_upto_region 6 with (fail)
      refine wp_stk1 fun X hBX hz bX => ?_
      clear hz
      by_cases hjl : j < l.length
      · obtain ⟨g, off, cap', hv, lg, qg⟩ := rtabs_cells (HH.out.keep hB) (by omega)
        cases hv
        obtain ⟨R, hR⟩ : ∃ R, l[j]? = some R := ⟨_, List.getElem?_eq_getElem hjl⟩
        obtain ⟨A1, c1, d1, hraw⟩ := qg j R hR
        have hRl : l.getD j [] = R := by simp [List.getD, hR]
        have hrX : RawS lo hi X (.slice A1 R.length c1) R := ⟨Rd.keep hraw.1 hBX, hraw.2⟩
        have d2 := (hBX.cell (p := ⟨g, off + j, none⟩) lg).trans d1
        clear qg hR hraw bX d1
        go_wp2_with fail
        refine (xExact R m (by omega) _ _ _ X hrX).mono ?_
        rintro e w2 ⟨v2, rfl, t2, hb2⟩
        replace t2 : ExtS X.heap.size w2.heap.size w2 v2 (madeAll R m) := t2
        obtain ⟨A2, c2, rfl⟩ := Rd.len t2
        have hs2 := hb2.size
        have hrX := hrow.keep hBX
        have hBw := hB.trans (hBX.mono hB.size)
        have hsB := hB.size
        have hsX := hBX.size
        go_wp2_with (at_builtin; refine wpList_appT (x := .slice A2 (madeAll R m).length c2) (y := madeAll R m) (lo := X.heap.size) (hi := w2.heap.size) (base := w.heap.size) (ts := mdR l j m) rfl _ _ rfl Tryz.underlying37 rfl rfl ?hrow ?hsrc rfl ?hE ?hlo ?hhi ?hout ?hk ?hbase ?_)
        case hrow => exact (hrX.keep hb2).keep ((Below.refl _ _).alloc (Nat.le_refl _) _)
        case hsrc => exact Blk.new_at _ _ _ rfl
        case hE => exact Rd.keep t2 ((Below.refl _ _).alloc (Nat.le_refl _) _)
        case hlo => omega
        case hhi => simp
        case hout => exact hrX.out (Nat.le_refl _)
        case hk => rw [mdR_length]; omega
        case hbase => simp; omega
        intro u' w3 hrow3 hB3 hg3 hob3
        have hal2 : Below w2.heap.size w2 (w2.alloc (.cells #[.slice A2 (madeAll R m).length c2] 22)) := (Below.refl _ _).alloc (Nat.le_refl _) _
        go_wp2_with fail
        exact ⟨⟨j + 1, by omega, by go_num, by rw [mdR_succ, hRl]; exact hrow3, ((hBw.trans (hb2.mono hBw.size)).trans (hal2.mono (hBw.trans (hb2.mono hBw.size)).size)).trans hB3⟩, by simp [intOf]; omega⟩
      · obtain ⟨R, hR⟩ : ∃ R : List Raw, R = [] := ⟨[], rfl⟩
        have hRl : l.getD j [] = R := by rw [hR]; simp [List.getD, hjl]
        have hrX : RawS 0 X.heap.size X (.slice (some ⟨wr.heap.size, 0, none⟩) 0 0) R := by rw [hR]; exact ⟨rd_nil _ _ _ _ _ _, fun x hx => by simp at hx⟩
        clear hR bX
        go_wp2_with fail
        refine (xExact R m (by omega) _ _ _ X hrX).mono ?_
        rintro e w2 ⟨v2, rfl, t2, hb2⟩
        replace t2 : ExtS X.heap.size w2.heap.size w2 v2 (madeAll R m) := t2
        obtain ⟨A2, c2, rfl⟩ := Rd.len t2
        have hs2 := hb2.size
        have hrX := hrow.keep hBX
        have hBw := hB.trans (hBX.mono hB.size)
        have hsB := hB.size
        have hsX := hBX.size
        go_wp2_with (at_builtin; refine wpList_appT (x := .slice A2 (madeAll R m).length c2) (y := madeAll R m) (lo := X.heap.size) (hi := w2.heap.size) (base := w.heap.size) (ts := mdR l j m) rfl _ _ rfl Tryz.underlying37 rfl rfl ?hrow ?hsrc rfl ?hE ?hlo ?hhi ?hout ?hk ?hbase ?_)
        case hrow => exact (hrX.keep hb2).keep ((Below.refl _ _).alloc (Nat.le_refl _) _)
        case hsrc => exact Blk.new_at _ _ _ rfl
        case hE => exact Rd.keep t2 ((Below.refl _ _).alloc (Nat.le_refl _) _)
        case hlo => omega
        case hhi => simp
        case hout => exact hrX.out (Nat.le_refl _)
        case hk => rw [mdR_length]; omega
        case hbase => simp; omega
        intro u' w3 hrow3 hB3 hg3 hob3
        have hal2 : Below w2.heap.size w2 (w2.alloc (.cells #[.slice A2 (madeAll R m).length c2] 22)) := (Below.refl _ _).alloc (Nat.le_refl _) _
        go_wp2_with fail
        exact ⟨⟨j + 1, by omega, by go_num, by rw [mdR_succ, hRl]; exact hrow3, ((hBw.trans (hb2.mono hBw.size)).trans (hal2.mono (hBw.trans (hb2.mono hBw.size)).size)).trans hB3⟩, by simp [intOf]; omega⟩
    · obtain rfl : j = n := by omega
      go_wp2
      go_ret
      exact ⟨_, rfl, hrow.tabs (by rw [mdR_length]; omega), hB⟩
end Go.Proofs.YtnddfeidggcplaaGreat
namespace Go.Proofs.YtnddfeidggcplaaGreat
open Go.RowKit

theorem en_attestor_attestorref06_MadeRounds : ∀ args w, (callFunc 18 args).run Tryz.prog w = .ok (.enter 18 args) w := enters_of Tryz.func18 (by kernel_rfl) rfl

def TabR (ts : List (List E)) (lo hi : Nat) (v : Value) (w : World) : Prop := TabS lo hi w v ts
theorem fit_tabR {ts : List (List E)} : Fit (TabR ts) (SlF ts.length) := ⟨fun _ _ _ _ _ h hb => h.other hb.size fun g _ h2 _ => hb.block g h2, fun _ => ⟨.slice none ts.length 0, none, 0, rfl⟩, fun _ _ _ _ h => TabS.len h⟩
set_option maxRecDepth 100000 in
set_option maxHeartbeats 2000000 in
theorem rMade32 (l : List (List Raw)) (tabs : List (List E)) (ps : List Trm) (n : Nat) (hn : n ≤ 16) (hall : AllLen tabs (2 ^ n)) (h0 : 0 < tabs.length) (hd : degE ps ≤ 900) (vl vt vp : Value) (lo hi lo2 hi2 : Nat) (w : World) (h : SumS lo hi w vt vp tabs ps) (hl : RTabS lo2 hi2 w vl l) :
    Calls Tryz.prog 34 #[vl, sv vt vp] w (RetR (TabR (mdR l n (degE ps + 1))) w) := by
  obtain ⟨AL, cL, rfl⟩ := hl.len
  obtain ⟨AP, cP, rfl⟩ := h.hp.len
  obtain ⟨AT, cT, rfl⟩ := h.ht.len
  obtain ⟨D, hD⟩ : ∃ D, D = degE ps := ⟨_, rfl⟩
  have H1 := Lib.hid (fun W (hW : Below w.heap.size w W) => rLog tabs n hn hall h0 (.slice AT tabs.length cT) (.slice AP ps.length cP) lo hi W (h.ht.keep hW) ⟨_, _, _, rfl⟩)
  have H2 := Lib.hid (fun W (hW : Below w.heap.size w W) => rDegree (.slice AT tabs.length cT) (.slice AP ps.length cP) ps lo hi W (h.hp.keep hW) h.short)
  rw [← hD] at hd H2 ⊢
  have H3 := Lib.hid (fun W (hW : Below w.heap.size w W) => rMadeRounds l n (D + 1) (by omega) (by omega) (.slice AL l.length cL) lo2 hi2 W (hl.keep hW))
  rw [show ((D + 1 : Nat) : Int) = (D : Int) + 1 from rfl] at H3
  have HR := Lib.hid (mdR_length l n (D + 1))
  clear h hl h0 hall hD
  generalize tabs.length = nt at *
  generalize ps.length = np at *
  generalize l.length = nl at *
  unfold sv at H1 H2 ⊢
  go_enter Tryz.func34, Tryz.ntmps34
  go_upto_region 1 with (fail)
  refine wp_stk1 fun W hB hz b1 => ?_
  clear hz
  have y1 := gw_blk b1
  refine wp_region_rg 7 [(2, Spec.val (.int .i64 n)), (4, Spec.val (.int .i64 D)), (6, Spec.rel (TabR (mdR l n (D + 1))) (SlF (mdR l n (D + 1)).length))] (by kernel_rfl) (by kernel_rfl) (by kernel_rfl) ⟨fit_tabR, trivial⟩ ?_
  refine rg_det rfl rfl rfl (fun K hK => ?_)
  go_big_quiet_op
  refine hK _ ?_; clear hK K
  refine rg_det rfl rfl rfl (fun K hK => ?_)
  go_big_quiet_op
  refine hK _ ?_; clear hK K
  refine rg_val rfl rfl (fun W1 hW1 hF => step_callv en_attestor_attestorref06_Log (H1.out W1 (hB.trans ((grw_below hW1).mono hB.size))) rfl rfl) ?_
  intro a' ha
  simp only [Act.put, List.setIfInBounds_toArray, List.set_cons_succ, List.set_cons_zero] at ha
  subst ha
  refine rg_det rfl rfl rfl (fun K hK => ?_)
  go_big_quiet_op
  refine hK _ ?_; clear hK K
  refine rg_val rfl rfl (fun W1 hW1 hF => step_callv en_attestor_attestorref06_Degree (H2.out W1 (hB.trans ((grw_below hW1).mono hB.size))) rfl rfl) ?_
  intro a' ha
  simp only [Act.put, List.setIfInBounds_toArray, List.set_cons_succ, List.set_cons_zero] at ha
  subst ha
  refine rg_det rfl rfl rfl (fun K hK => ?_)
  go_big_quiet_op
  refine hK _ ?_; clear hK K
  refine rg_rel rfl rfl (fun W1 hW1 hF => step_callr en_attestor_attestorref06_MadeRounds (H3.out W1 (hB.trans ((grw_below hW1).mono hB.size))) rfl rfl) ?_
  intro n6 m6 v6 hn6 hm6 hd6 hf6 a' ha
  simp only [Act.put, List.setIfInBounds_toArray, List.set_cons_succ, List.set_cons_zero] at ha
  subst ha
  obtain ⟨A6, cap6, rfl⟩ := hf6
  refine rg_nil (fun w' hw' hF => ?_)
  obtain ⟨z, rfl⟩ := hw'
  simp only [List.drop_succ_cons, List.drop_zero]
  obtain ⟨hm6', hx6⟩ := end_last hF
  have hBz := hB.trans (z.h.mono hB.size)
  have HX := Lib.hid hx6
  clear hF y1 hx6
  go_wp2_with fail
  go_ret
  have hBs := hB.size
  exact ⟨_, rfl, TabS.wide HX.out (by omega) (by omega), hBz⟩
/-- A Query of chapter 32. -/
structure Q32 where
  S : Raw6
  M : List (List Raw)
  R : Raw
  C : List Raw
def Q32.n (q : Q32) : Nat := q.S.n 3
def Q32.tabs (q : Q32) : List (List E) := q.S.tabs 3
def Q32.ps (q : Q32) : List Trm := q.S.trms
def Q32.m (q : Q32) : List (List E) := mdR q.M q.n (degE q.ps + 1)
def Q32.rho (q : Q32) : E := em q.R.1 q.R.2
def Q32.co (q : Q32) : List E := madeAll q.C q.n
theorem Q32.n_le (q : Q32) : q.n ≤ 3 := q.S.n_le 3
theorem Q32.all (q : Q32) : AllLen q.tabs (2 ^ q.n) := q.S.all 3
theorem Q32.tabs_len (q : Q32) : q.tabs.length = 3 := q.S.tabs_len 3
theorem Q32.deg (q : Q32) : degE q.ps ≤ 3 := q.S.deg
theorem Q32.m_len (q : Q32) : q.m.length = q.n := mdR_length _ _ _
structure Q32S (hi : Nat) (w : World) (q : Q32) (A : Nat → Option Addr) (cc : Nat → Nat) (AL : Option Addr) (cL : Nat) (vM vC : Value) : Prop where
  T : ∀ k, k < 3 → RawS 0 hi w (.slice (A k) (q.S.T k).length (cc k)) (q.S.T k)
  L : TRawS 0 hi w (.slice AL q.S.L.length cL) q.S.L
  N : Byte q.S.N
  M : RTabS 0 hi w vM q.M
  C : RawS 0 hi w vC q.C
  r1 : Word q.R.1
  r2 : Word q.R.2
def qv32 (A : Nat → Option Addr) (cc : Nat → Nat) (AL : Option Addr) (cL : Nat) (vM vC : Value) (q : Q32) : Value :=
  .agg #[.slice (A 0) (q.S.T 0).length (cc 0), .slice (A 1) (q.S.T 1).length (cc 1), .slice (A 2) (q.S.T 2).length (cc 2), .slice AL q.S.L.length cL, .int .u8 q.S.N, vM, .int .u64 q.R.1, .int .u64 q.R.2, vC]
theorem en_attestor_attestorref32_Made : ∀ args w, (callFunc 34 args).run Tryz.prog w = .ok (.enter 34 args) w := enters_of Tryz.func34 (by kernel_rfl) rfl
theorem six_keep {W X : World} {g h : Nat} {a b c d e f : Value} (hB : Below W.heap.size W X) (hg : g < W.heap.size) (hh : h < W.heap.size)
    (k : W.cell? ⟨g, 5, none⟩ = some a ∧ W.cell? ⟨g, 6, none⟩ = some b ∧ W.cell? ⟨g, 7, none⟩ = some c ∧ W.cell? ⟨g, 8, none⟩ = some d ∧ W.cell? ⟨h, 0, none⟩ = some e ∧ W.cell? ⟨h, 1, none⟩ = some f) :
    X.cell? ⟨g, 5, none⟩ = some a ∧ X.cell? ⟨g, 6, none⟩ = some b ∧ X.cell? ⟨g, 7, none⟩ = some c ∧ X.cell? ⟨g, 8, none⟩ = some d ∧ X.cell? ⟨h, 0, none⟩ = some e ∧ X.cell? ⟨h, 1, none⟩ = some f :=
  ⟨(hB.cell (p := ⟨g, 5, none⟩) hg).trans k.1, (hB.cell (p := ⟨g, 6, none⟩) hg).trans k.2.1, (hB.cell (p := ⟨g, 7, none⟩) hg).trans k.2.2.1, (hB.cell (p := ⟨g, 8, none⟩) hg).trans k.2.2.2.1, (hB.cell (p := ⟨h, 0, none⟩) hh).trans k.2.2.2.2.1, (hB.cell (p := ⟨h, 1, none⟩) hh).trans k.2.2.2.2.2⟩
theorem six_set {W : World} {g h k i : Nat} {a b c d e f v : Value} (hg : g ≠ k) (hh : h ≠ k)
    (q : W.cell? ⟨g, 5, none⟩ = some a ∧ W.cell? ⟨g, 6, none⟩ = some b ∧ W.cell? ⟨g, 7, none⟩ = some c ∧ W.cell? ⟨g, 8, none⟩ = some d ∧ W.cell? ⟨h, 0, none⟩ = some e ∧ W.cell? ⟨h, 1, none⟩ = some f) :
    (W.setCell ⟨k, i, none⟩ v).cell? ⟨g, 5, none⟩ = some a ∧ (W.setCell ⟨k, i, none⟩ v).cell? ⟨g, 6, none⟩ = some b ∧ (W.setCell ⟨k, i, none⟩ v).cell? ⟨g, 7, none⟩ = some c ∧ (W.setCell ⟨k, i, none⟩ v).cell? ⟨g, 8, none⟩ = some d ∧ (W.setCell ⟨k, i, none⟩ v).cell? ⟨h, 0, none⟩ = some e ∧ (W.setCell ⟨k, i, none⟩ v).cell? ⟨h, 1, none⟩ = some f := by
  have key : ∀ {n j : Nat} {u : Value}, n ≠ k → W.cell? ⟨n, j, none⟩ = some u → (W.setCell ⟨k, i, none⟩ v).cell? ⟨n, j, none⟩ = some u := fun {n j u} hn hc => by
    have hk : Keeps (fun x => x ≠ k) W (W.setCell ⟨k, i, none⟩ v) := ⟨Nat.le_of_eq (Put.set W k i v).size.symm, fun x hx _ => (Put.set W k i v).other x hx⟩
    exact hk.cell hn hc
  exact ⟨key hg q.1, key hg q.2.1, key hg q.2.2.1, key hg q.2.2.2.1, key hh q.2.2.2.2.1, key hh q.2.2.2.2.2⟩
theorem set23 {M : World → Prop} {w : World} {N g h : Nat} {t u : TypeId} {c1 c2 d1 d2 d3 v1 v2 x1 x2 x3 : Value} (b2 : Blk w g t #[c1, c2]) (b3 : Blk w h u #[d1, d2, d3]) (hne : g ≠ h) (hg : N ≤ g) (hh : N ≤ h)
    (H : ∀ X, Keeps (fun j => j ≠ g ∧ j ≠ h) w X → Below N w X → Blk X g t #[v1, v2] → Blk X h u #[x1, x2, x3] → X.heap.size = w.heap.size → M X) :
    M (((((w.setCell ⟨g, 0, none⟩ v1).setCell ⟨g, 1, none⟩ v2).setCell ⟨h, 0, none⟩ x1).setCell ⟨h, 1, none⟩ x2).setCell ⟨h, 2, none⟩ x3) := by
  have p1 := (Put.set w g 0 v1).trans (Put.set _ g 1 v2)
  have p2 := ((Put.set ((w.setCell ⟨g, 0, none⟩ v1).setCell ⟨g, 1, none⟩ v2) h 0 x1).trans (Put.set _ h 1 x2)).trans (Put.set _ h 2 x3)
  exact H _ ⟨Nat.le_of_eq (p2.size.trans p1.size).symm, fun j hj _ => (p2.other j hj.2).trans (p1.other j hj.1)⟩ (below_put (below_put (Below.refl _ _) p1 hg) p2 hh) (p2.blk ((b2.set_ 0 v1).set_ 1 v2) hne) ((((p1.blk b3 (Ne.symm hne)).set_ 0 x1).set_ 1 x2).set_ 2 x3) (p2.size.trans p1.size)
theorem TabS.keeps {lo hi : Nat} {w X : World} {v : Value} {ts : List (List E)} {S : Nat → Prop} (h : TabS lo hi w v ts) (k : Keeps S w X) (hS : ∀ g, lo ≤ g → g < hi → S g) : TabS lo hi X v ts := h.other k.size fun g h1 h2 h3 => k.same g (hS g h1 h2) h3
theorem TrmS.keeps {lo hi : Nat} {w X : World} {v : Value} {ps : List Trm} {S : Nat → Prop} (h : TrmS lo hi w v ps) (k : Keeps S w X) (hS : ∀ g, lo ≤ g → g < hi → S g) : TrmS lo hi X v ps := h.other k.size fun g h1 h2 h3 => k.same g (hS g h1 h2) h3
theorem below_Dr (w : World) : Below w.heap.size w w.drew := ⟨rfl, rfl, rfl, Nat.le_refl _, fun _ _ => rfl⟩
set_option maxRecDepth 100000 in
set_option maxHeartbeats 4000000 in
theorem lMade32 (q : Q32) (A : Nat → Option Addr) (cc : Nat → Nat) (AL : Option Addr) (cL : Nat) (vM vC : Value) (w : World) (h : Q32S w.heap.size w q A cc AL cL vM vC) :
    Calls Tryz.prog 13 #[qv32 A cc AL cL vM vC q] w fun e w' => ∃ vt vp vm AC cC, e = .returned (.tuple #[sv vt vp, vm, .agg #[.int .u64 (fv q.rho.a), .int .u64 (fv q.rho.b), .slice AC q.co.length cC]]) ∧ SumS w.heap.size w'.heap.size w' vt vp q.tabs q.ps ∧ TabS w.heap.size w'.heap.size w' vm q.m ∧ ExtS w.heap.size w'.heap.size w' (.slice AC q.co.length cC) q.co ∧ Below w.heap.size w w' := by
  obtain ⟨AM, cM, rfl⟩ := h.M.len
  obtain ⟨AC, cC, rfl⟩ := h.C.1.len
  have o1 := h.r1
  have o2 := h.r2
  have hn3 := q.n_le
  have H1 := Lib.hid (fun W (hW : Below w.heap.size w W) => rMade6 q.S 3 (by decide) A A cc AL cL 0 w.heap.size W (fun k hk => ⟨(h.T k hk).1.keep hW, (h.T k hk).2⟩) (h.L.keep hW) h.N)
  have H3 := Lib.hid (fun W (hW : Below w.heap.size w W) => xMadeAll q.C q.n (by omega) (.slice AC q.C.length cC) w.heap.size W ⟨h.C.1.keep hW, h.C.2⟩ hW.size)
  unfold qv32
  go_enter Tryz.func13, Tryz.ntmps13
  go_upto_region 1 with (fail)
  refine wp_stk3 fun W hB hz b1 b2 b3 => ?_
  have hWs := hz.out
  have e1 := b1.cell
  clear hz
  go_wp2_with fail
  refine (H1.out W hB).mono ?_
  rintro e w2 ⟨_, rfl, ⟨vt, vp, rfl, hT, hP⟩, hb2⟩
  have hP6 : SumS W.heap.size w2.heap.size w2 vt vp q.tabs q.ps := ⟨hT, hP, by rw [q.tabs_len]; exact q.S.ix, Nat.le_trans q.S.trms_len (by decide), fun p hp => Nat.le_trans (q.S.short p hp).2 (by decide)⟩
  obtain ⟨AT, cT, rfl⟩ := hT.len
  obtain ⟨AP, cP, rfl⟩ := hP.len
  have hB2 := hB.trans (hb2.mono hB.size)
  clear e1 hT hP
  unfold sv
  go_upto_region 2 with (fail)
  refine wp_stk1 fun W5 h5 hz5 b5 => ?_
  have hs5 := hz5.out
  have hb5 := hb2.trans (h5.mono hb2.size)
  have B5 := hB2.trans (h5.mono hB2.size)
  have b1' := b1.keep hb5
  have b2' := b2.keep hb5
  have b3' := b3.keep hb5
  have P5 := hP6.keep h5
  have hsw := hb2.size
  have HL := Lib.hid (fun W1 (hW : Below W5.heap.size W5 W1) => rLog q.tabs q.n (by omega) q.all (by rw [q.tabs_len]; decide) (.slice AT (q.S.tabs 3).length cT) (.slice AP q.S.trms.length cP) _ _ W1 (P5.ht.keep hW) ⟨_, _, _, rfl⟩)
  have HM := Lib.hid (fun W1 (hW : Below W5.heap.size W5 W1) => rMade32 q.M q.tabs q.ps q.n (by omega) q.all (by rw [q.tabs_len]; decide) (Nat.le_trans q.deg (by decide)) (.slice AM q.M.length cM) (.slice AT (q.S.tabs 3).length cT) (.slice AP q.S.trms.length cP) _ _ 0 w.heap.size W1 (P5.keep hW) (h.M.keep (B5.trans (hW.mono B5.size))))
  have HC := Lib.hid (fun W1 (hW : Below W5.heap.size W5 W1) => H3.out W1 (B5.trans (hW.mono B5.size)))
  have HR := Lib.hid (show em q.R.1 q.R.2 = q.rho from rfl)
  unfold sv at HL HM
  clear H1 H3 h b1 b2 b3 hz5
  have hl1 := b1'.lt
  have hne1 : w2.heap.size ≠ w.heap.size + 1 := by omega
  have hne2 : w2.heap.size ≠ w.heap.size + 1 + 1 := by omega
  have hl5 := b5.lt
  have K0 : W5.cell? ⟨w.heap.size, 5, none⟩ = some (.slice AM q.M.length cM) ∧ W5.cell? ⟨w.heap.size, 6, none⟩ = some (.int .u64 q.R.1) ∧ W5.cell? ⟨w.heap.size, 7, none⟩ = some (.int .u64 q.R.2) ∧ W5.cell? ⟨w.heap.size, 8, none⟩ = some (.slice AC q.C.length cC) ∧ W5.cell? ⟨w2.heap.size, 0, none⟩ = some (.slice AT (q.S.tabs 3).length cT) ∧ W5.cell? ⟨w2.heap.size, 1, none⟩ = some (.slice AP q.S.trms.length cP) :=
    ⟨b1'.cell 5, b1'.cell 6, b1'.cell 7, b1'.cell 8, b5.cell 0, b5.cell 1⟩
  have KD := six_keep (below_Dr W5) hl1 hl5 K0
  go_region_held3 (fun X => X.cell? ⟨w.heap.size, 5, none⟩ = some (.slice AM q.M.length cM) ∧ X.cell? ⟨w.heap.size, 6, none⟩ = some (.int .u64 q.R.1) ∧ X.cell? ⟨w.heap.size, 7, none⟩ = some (.int .u64 q.R.2) ∧ X.cell? ⟨w.heap.size, 8, none⟩ = some (.slice AC q.C.length cC) ∧ X.cell? ⟨w2.heap.size, 0, none⟩ = some (.slice AT (q.S.tabs 3).length cT) ∧ X.cell? ⟨w2.heap.size, 1, none⟩ = some (.slice AP q.S.trms.length cP))
    (first | with_reducible exact KD | with_reducible exact K4 | with_reducible exact K7 | with_reducible exact K11 | with_reducible exact K12 | with_reducible exact K14 | with_reducible exact K16)
    (first
      | (go_at_call 34
         refine (HM.out W5.drew (below_Dr W5)).mono ?_
         rintro e w4 ⟨v4, rfl, hx4, hb4⟩
         obtain ⟨A4, c4, rfl⟩ := TabS.len hx4
         have B4 : Below W5.heap.size W5 w4 := (below_Dr W5).trans hb4
         have K4 := six_keep B4 hl1 hl5 K0)
      | (go_at_call 29
         refine (xMade q.R.1 q.R.2 o1.1 o1.2 o2.1 o2.2 w4).mono ?_
         rintro e w7 ⟨he, hb7⟩
         unfold ev at he
         subst he
         have B7 : Below W5.heap.size W5 w7 := B4.trans (hb7.mono B4.size)
         have K7 := six_keep B7 hl1 hl5 K0)
      | (go_at_call 52
         refine (HL.out w7 B7).mono ?_
         rintro e w11 ⟨rfl, hb11⟩
         have B11 : Below W5.heap.size W5 w11 := B7.trans (hb11.mono B7.size)
         have K11 := six_keep B11 hl1 hl5 K0)
      | (go_at_call 51
         refine (HC.out w11 B11).mono ?_
         rintro e w12 ⟨v12, rfl, hx12, hb12⟩
         obtain ⟨A12, c12, rfl⟩ := Rd.len hx12
         have B12 : Below W5.heap.size W5 w12 := B11.trans (hb12.mono B11.size)
         have K12 := six_keep B12 hl1 hl5 K0
         have K14 := six_set (k := w.heap.size + 1) (i := 1) (v := .slice AP q.S.trms.length cP) (by omega) (by omega) (six_set (k := w.heap.size + 1) (i := 0) (v := .slice AT (q.S.tabs 3).length cT) (by omega) (by omega) K12)
         have K16 := six_set (k := w.heap.size + 1 + 1) (i := 2) (v := .slice A12 (madeAll q.C q.n).length c12) (by omega) (by omega) (six_set (k := w.heap.size + 1 + 1) (i := 1) (v := .int .u64 (fv (em q.R.1 q.R.2).b)) (by omega) (by omega) (six_set (k := w.heap.size + 1 + 1) (i := 0) (v := .int .u64 (fv (em q.R.1 q.R.2).a)) (by omega) (by omega) K14))
         have b2z := b2'.keep B12
         have b3z := b3'.keep B12
         have e2 := b2z.cell
         have e2f := b2z.frozen
         have e3 := b3z.cell
         have e3f := b3z.frozen))
  have hs2 := hb2.size
  have hs12 := B12.size
  have P12 := P5.keep B12
  have X4 : TabS W5.heap.size w4.heap.size w12 (.slice A4 (mdR q.M q.n (degE q.ps + 1)).length c4) (mdR q.M q.n (degE q.ps + 1)) := TabS.keep hx4 (hb7.trans ((hb11.trans (hb12.mono hb11.size)).mono hb7.size))
  have s4 : w4.heap.size ≤ w12.heap.size := (hb7.trans ((hb11.trans (hb12.mono hb11.size)).mono hb7.size)).size
  have s11 : W5.heap.size ≤ w11.heap.size := B11.size
  have hB12 := B5.trans (B12.mono B5.size)
  refine set23 (N := w.heap.size) (M := fun X => Exit.then _ _ Exit.normal _ X) b2z b3z (by omega) (by omega) (by omega) fun X hK hBX c2 c3 hsX => ?_
  have HP := Lib.hid (show SumS w.heap.size X.heap.size X (.slice AT (q.S.tabs 3).length cT) (.slice AP q.S.trms.length cP) q.tabs q.ps from ⟨(P12.ht.keeps hK fun g h1 h2 => ⟨by omega, by omega⟩).wide (by omega) (by omega), (P12.hp.keeps hK fun g h1 h2 => ⟨by omega, by omega⟩).wide (by omega) (by omega), P12.ix, P12.few, P12.short⟩)
  have HX4 := Lib.hid ((X4.keeps hK fun g h1 h2 => ⟨by omega, by omega⟩).wide (show w.heap.size ≤ W5.heap.size by omega) (show w4.heap.size ≤ X.heap.size by omega))
  have HX12 := Lib.hid (Rd.wide (Keeps.rd hx12 hK fun g h1 h2 => ⟨by omega, by omega⟩) (show w.heap.size ≤ w11.heap.size by omega) (show w12.heap.size ≤ X.heap.size by omega))
  have HBX := Lib.hid (hB12.trans hBX)
  have e2' := c2.cell
  have e3' := c3.cell
  rw [HR.out] at e3'
  clear K0 KD K4 K7 K11 K12 K14 K16 e2 e2f e3 e3f hx4 hx12 X4 P12 P5 hP6 HL HM HC
  go_wp2_with fail
  refine bodyPost_ret (v := .tuple #[.agg #[.slice AT (q.S.tabs 3).length cT, .slice AP q.S.trms.length cP], .slice A4 (mdR q.M q.n (degE q.ps + 1)).length c4, .agg #[.int .u64 (fv q.rho.a), .int .u64 (fv q.rho.b), .slice A12 (madeAll q.C q.n).length c12]]) (by simp [results, Tryz.results13, go_sem, e2', e3']) rfl ?_
  exact ⟨_, _, _, A12, c12, rfl, HP.out, HX4.out, HX12.out, HBX.out⟩
end Go.Proofs.YtnddfeidggcplaaGreat
