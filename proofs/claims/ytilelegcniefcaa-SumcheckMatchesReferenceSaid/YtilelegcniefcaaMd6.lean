/-
  Log of the reference's sum-check, by contract.
  Sums as chapter 06 makes them: rows of terms that a call builds of its own; the raw description.
-/
import Derived.Test.YtilelegcniefcaaSan6
namespace Go.Proofs.Ytilelegcniefcaa
open Go.RowKit

theorem pow_i64 (k : Nat) (hk : k ≤ 16) : ∃ K : Nat, K = 2 ^ k ∧ wrap64 ((2 : Int) ^ k) = (K : Int) ∧ K ≤ 65536 := by
  refine ⟨2 ^ k, rfl, ?_, Nat.le_trans (Nat.pow_le_pow_right (by decide) hk) (by decide)⟩
  have h2 : 2 ^ k ≤ 2 ^ 16 := Nat.pow_le_pow_right (by decide) hk
  have h3 : ((2 : Int) ^ k) = ((2 ^ k : Nat) : Int) := by simp
  rw [h3]
  generalize 2 ^ k = K at *
  have : K ≤ 65536 := h2
  simp only [wrap64]
  omega
set_option maxRecDepth 100000 in
set_option maxHeartbeats 1000000 in
theorem rLog (tabs : List (List E)) (n : Nat) (hn : n ≤ 16) (hall : AllLen tabs (2 ^ n)) (h0 : 0 < tabs.length) (vt vp : Value) (lo hi : Nat) (w : World) (h : TabS lo hi w vt tabs) (hvp : ∃ A n c, vp = .slice A n c) :
    Calls Try.prog 14 #[sv vt vp] w (Ret (.int .i64 (n : Nat)) w) := by
  obtain ⟨AP, nP, cP, rfl⟩ := hvp
  obtain ⟨t, ht⟩ : ∃ t, tabs[0]? = some t := ⟨_, List.getElem?_eq_getElem h0⟩
  have htl : t.length = 2 ^ n := hall t (List.mem_of_getElem? ht)
  obtain ⟨g, off, cap, rfl, q1, q2, q3, q4, q5⟩ := tabs_cells h h0
  have d0 := q5 0 t ht
  obtain ⟨N, hN, -, hN6⟩ := pow_i64 n hn
  rw [htl, ← hN] at d0
  obtain ⟨A0, c0, d1, -⟩ := d0
  rw [Nat.add_zero] at d1
  have HN := Lib.hid hN
  obtain ⟨m, hm⟩ : ∃ m, m = tabs.length := ⟨_, rfl⟩
  have h0' : 0 < m := by omega
  rw [← hm]
  clear q5 h hall ht htl hN h0 hm
  unfold sv
  go_enter Try.func14, Try.ntmps14
  go_wp2_with fail
  refine wp_stk1 fun W hB hz b1 => ?_
  go_loopw [3] (fun i wr => ∃ k : Nat, k ≤ n ∧ i = .int .i64 k ∧ Blk wr w.heap.size 30 #[.slice (some ⟨g, off, none⟩) m cap, .slice AP nP cP] ∧ Below w.heap.size w wr) (fun i _ => n - (intOf i).toNat)
  case atStart => exact ⟨0, Nat.zero_le _, rfl, b1, hB⟩
  case round =>
    obtain ⟨k, hk, rfl, bk, hBk⟩ := hrel
    obtain ⟨K, hK, hK2, hK6⟩ := pow_i64 k (by omega)
    have hg : g < wr.heap.size := Nat.lt_of_lt_of_le q4 hBk.size
    have c1 := gw_blk bk
    have c2 := gw_cell (W := wr) hg ((hBk.cell (p := ⟨g, off, none⟩) q4).trans d1)
    clear d1 b1 hB
    by_cases hlt : k < n
    · have hKN : (K : Int) < (N : Int) := by
        rw [hK, HN.out]
        exact_mod_cast Nat.pow_lt_pow_right (by decide) hlt
      clear hK
      go_wp2_with fail
      refine wp_region_rg 8 [] (by kernel_rfl) (by kernel_rfl) (by kernel_rfl) trivial ?_
      refine rg_det rfl rfl rfl (fun K hK => ?_)
      go_big_quiet_op
      refine hK _ ?_; clear hK K
      refine rg_det rfl rfl rfl (fun K hK => ?_)
      go_big_quiet_op
      refine hK _ ?_; clear hK K
      refine rg_det rfl rfl rfl (fun K hK => ?_)
      go_big_quiet_op
      refine hK _ ?_; clear hK K
      refine rg_det rfl rfl rfl (fun K hK => ?_)
      go_big_quiet_op
      refine hK _ ?_; clear hK K
      refine rg_det rfl rfl rfl (fun K hK => ?_)
      go_big_quiet_op
      refine hK _ ?_; clear hK K
      refine rg_det rfl rfl rfl (fun K hK => ?_)
      go_big_quiet_op
      refine hK _ ?_; clear hK K
      refine rg_det rfl rfl rfl (fun K hK => ?_)
      go_big_quiet_op
      refine hK _ ?_; clear hK K
      refine rg_det rfl rfl rfl (fun K hK => ?_)
      go_big_quiet_op
      refine hK _ ?_; clear hK K
      refine rg_nil (fun w' hw' hF => ?_)
      obtain ⟨z, rfl⟩ := hw'
      simp only [List.drop_succ_cons, List.drop_zero]
      go_wp2_with fail
      exact ⟨⟨k + 1, by omega, by go_num, bk.gw z, hBk.trans (z.h.mono hBk.size)⟩, by simp [intOf]; omega⟩
    · obtain rfl : k = n := by omega
      have hKN : ¬ ((K : Int) < (N : Int)) := by rw [hK, HN.out]; exact Int.lt_irrefl _
      clear hK
      go_wp2_with fail
      refine wp_region_rg 8 [] (by kernel_rfl) (by kernel_rfl) (by kernel_rfl) trivial ?_
      refine rg_det rfl rfl rfl (fun K hK => ?_)
      go_big_quiet_op
      refine hK _ ?_; clear hK K
      refine rg_det rfl rfl rfl (fun K hK => ?_)
      go_big_quiet_op
      refine hK _ ?_; clear hK K
      refine rg_det rfl rfl rfl (fun K hK => ?_)
      go_big_quiet_op
      refine hK _ ?_; clear hK K
      refine rg_det rfl rfl rfl (fun K hK => ?_)
      go_big_quiet_op
      refine hK _ ?_; clear hK K
      refine rg_det rfl rfl rfl (fun K hK => ?_)
      go_big_quiet_op
      refine hK _ ?_; clear hK K
      refine rg_det rfl rfl rfl (fun K hK => ?_)
      go_big_quiet_op
      refine hK _ ?_; clear hK K
      refine rg_det rfl rfl rfl (fun K hK => ?_)
      go_big_quiet_op
      refine hK _ ?_; clear hK K
      refine rg_det rfl rfl rfl (fun K hK => ?_)
      go_big_quiet_op
      refine hK _ ?_; clear hK K
      refine rg_nil (fun w' hw' hF => ?_)
      obtain ⟨z, rfl⟩ := hw'
      simp only [List.drop_succ_cons, List.drop_zero]
      go_wp2_with fail
      go_ret
      exact ⟨rfl, hBk.trans (z.h.mono hBk.size)⟩
end Go.Proofs.Ytilelegcniefcaa
namespace Go.Proofs.Ytilelegcniefcaa
open Go.RowKit

/-- A row of one's own of terms. -/
def RowP (base : Nat) (w : World) (u : Value) (ps : List Trm) : Prop := ∃ us : List Value, w.ownsRow base 66 3 u ps.length ((ps.zip us).flatMap trc) ∧ us.length = ps.length ∧ ∀ (k : Nat) x p, us[k]? = some x → ps[k]? = some p → ∃ lo hi, base ≤ lo ∧ hi ≤ w.heap.size ∧ Outside lo hi u ∧ IdxS lo hi w x p.t
theorem RowP.first (base : Nat) (w : World) : RowP base w (.slice none 0 0) [] := ⟨[], ⟨rfl, .inl ⟨rfl, rfl⟩⟩, rfl, fun k x t h => by simp at h⟩
theorem RowP.keep {base : Nat} {w X : World} {u : Value} {ps : List Trm} (h : RowP base w u ps) (hb : Below w.heap.size w X) : RowP base X u ps := by
  obtain ⟨us, h1, h2, h3⟩ := h
  refine ⟨us, own_below h1 (Nat.le_refl _) hb, h2, fun k x t hx ht => ?_⟩
  obtain ⟨lo, hi, q1, q2, q3, q4⟩ := h3 k x t hx ht
  exact ⟨lo, hi, q1, Nat.le_trans q2 hb.size, q3, Rd.keep q4 hb⟩
theorem RowP.put {base g : Nat} {w X : World} {u : Value} {ps : List Trm} (h : RowP base w u ps) (hp : Put w X g) (hg : g < base) : RowP base X u ps := by
  obtain ⟨us, h1, h2, h3⟩ := h
  refine ⟨us, own_put h1 hp hg, h2, fun k x t hx ht => ?_⟩
  obtain ⟨lo, hi, q1, q2, q3, q4⟩ := h3 k x t hx ht
  exact ⟨lo, hi, q1, by rw [hp.size]; exact q2, q3, hp.rd q4 (.inl (by omega))⟩
theorem RowP.block {base g : Nat} {w : World} {u : Value} {ps : List Trm} (h : RowP base w u ps) (hg : u.ownBlock = some g) : base ≤ g ∧ g < w.heap.size := by
  obtain ⟨us, h1, _⟩ := h
  exact own_block h1 hg
theorem RowP.trms {base : Nat} {w : World} {u : Value} {ps : List Trm} (h : RowP base w u ps) (hl : ps.length ≤ 1000000) : TrmS base w.heap.size w u ps := by
  obtain ⟨us, h1, h2, h3⟩ := h
  refine ⟨us, h2, Rd.of_own h1 (by omega) (Nat.le_refl _), fun k x t hx ht => ?_⟩
  obtain ⟨lo, hi, q1, q2, q3, q4⟩ := h3 k x t hx ht
  exact Rd.wide q4 q1 q2
theorem RowP.len {base : Nat} {w : World} {u : Value} {ps : List Trm} (h : RowP base w u ps) : ∃ A cap, u = .slice A ps.length cap := by
  obtain ⟨us, h1, _⟩ := h
  exact own_len h1
theorem RowT.len' {base : Nat} {w : World} {u : Value} {ts : List (List E)} (h : RowT base w u ts) : ∃ A cap, u = .slice A ts.length cap := by
  obtain ⟨us, h1, _⟩ := h
  exact own_len h1
theorem trc_one (x : Trm × Value) (h : x.2.oneCell' = true) : ∀ u ∈ trc x, u.oneCell' = true := by
  intro u hu
  simp only [trc, List.mem_cons, List.not_mem_nil, or_false] at hu
  rcases hu with rfl | rfl | rfl <;> first | rfl | exact h
theorem wpList_appP {ops : Array Oper} {rest : List Oper} {o : Oper} {a : Act} {Q : Exit → Act → World → Prop} {X : World} {base n lo hi : Nat} {t : TypeId} {ps : List Trm} {u x : Value} {y : Trm} (hgd : o.guard = none) (s p : Operand)
    (ho : o.op = .call { callee := .builtin .append, args := #[s, p], argTypes := #[t, t] }) (ht : Try.prog.underlying t = some (.slice 66)) (hs : a.eval s = u) (hx : a.eval p = .slice (some ⟨n, 0, none⟩) 1 1) (hrow : RowP base X u ps) (hsrc : Blk X n 66 #[.int .u64 (fv y.c.a), .int .u64 (fv y.c.b), x]) (hxc : x.oneCell' = true)
    (hE : IdxS lo hi X x y.t) (hlo : base ≤ lo) (hhi : hi ≤ X.heap.size) (hout : Outside lo hi u) (hk : ps.length ≤ 100000) (hbase : base ≤ X.heap.size)
    (h : ∀ v' w', RowP base w' v' (ps ++ [y]) → Below base X w' → X.grownBy w' u.ownBlock → (v'.ownBlock = u.ownBlock ∨ v'.ownBlock = some X.heap.size) → wpList Try.prog ops Q rest (a.put o.dst v') w') : wpList Try.prog ops Q (o :: rest) a X := by
  obtain ⟨i0, hi0, hz0, hz1, hz2⟩ := info_parts prod_info
  obtain ⟨us, h1, h2, h3⟩ := hrow
  refine wpList_app3 hgd s p ho ht hi0 hz0 hz1 hz2 rfl (by decide) (cl := trc (y, x)) rfl (trc_one (y, x) hxc) hs hx h1 hsrc (by unfold maxLen; omega) (by omega) hbase fun v' w' hown hgrow hB hob => ?_
  have hkept : ∀ lo hi, hi ≤ X.heap.size → Outside lo hi u → Kept lo hi X w' := fun lo hi hh ho => Kept.of_grown hgrow ho hh
  refine h v' w' ⟨us ++ [x], ?_, by simp [h2], fun k z t' hz ht' => ?_⟩ hB hgrow hob
  · rw [List.zip_append h2.symm, List.flatMap_append, List.length_append]
    simpa using hown
  by_cases hkl : k < us.length
  · rw [List.getElem?_append_left hkl] at hz
    rw [List.getElem?_append_left (by omega)] at ht'
    obtain ⟨lo', hi', q1, q2, q3, q4⟩ := h3 k z t' hz ht'
    exact ⟨lo', hi', q1, Nat.le_trans q2 hB.size, q3.next hob q2, rd_kept q4 (hkept _ _ q2 q3) hB.size⟩
  · have hkk : k < (us ++ [x]).length := (List.getElem?_eq_some_iff.1 hz).1
    simp only [List.length_append, List.length_cons, List.length_nil] at hkk
    obtain rfl : k = us.length := by omega
    rw [List.getElem?_append_right (Nat.le_refl _), Nat.sub_self] at hz
    rw [List.getElem?_append_right (by omega), h2, Nat.sub_self] at ht'
    simp only [List.getElem?_cons_zero, Option.some.injEq] at hz ht'
    subst hz
    subst ht'
    exact ⟨lo, hi, hlo, Nat.le_trans hhi hB.size, hout.next hob hhi, rd_kept hE (hkept _ _ hhi hout) hB.size⟩

/-! ### What comes in -/
structure TRaw where
  c : Raw
  t : Nat → Int
  n : Int
def Byte (z : Int) : Prop := 0 ≤ z ∧ z < 256
structure TRaw.ok (x : TRaw) : Prop where
  c1 : Word x.c.1
  c2 : Word x.c.2
  t : ∀ k, k < 3 → Byte (x.t k)
  n : Byte x.n
def trawc (x : TRaw) : List Value := [.int .u64 x.c.1, .int .u64 x.c.2, .int .u8 (x.t 0), .int .u8 (x.t 1), .int .u8 (x.t 2), .int .u8 x.n]
theorem trawc_len (x : TRaw) : (trawc x).length = 6 := rfl
def TRawS (lo hi : Nat) (w : World) (v : Value) (L : List TRaw) : Prop := Rd lo hi 6 w v L.length (L.flatMap trawc) ∧ ∀ x ∈ L, x.ok
theorem TRawS.keep {lo hi : Nat} {w w' : World} {v : Value} {L : List TRaw} (h : TRawS lo hi w v L) (hb : Below w.heap.size w w') : TRawS lo hi w' v L := ⟨Rd.keep h.1 hb, h.2⟩
def trIx (x : TRaw) (k : Nat) : Nat := (x.t k % 3).toNat
def trLen (x : TRaw) : Nat := (x.n % 3).toNat + 1
def trL (x : TRaw) (k : Nat) : List Nat := (List.range k).map (trIx x)
theorem trL_succ (x : TRaw) (k : Nat) : trL x (k + 1) = trL x k ++ [trIx x k] := by simp [trL, List.range_succ]
theorem trL_length (x : TRaw) (k : Nat) : (trL x k).length = k := by simp [trL]
def trM (x : TRaw) : Trm := ⟨em x.c.1 x.c.2, trL x (trLen x)⟩
structure Raw6 where
  T : Nat → List Raw
  L : List TRaw
  N : Int
def Raw6.n (q : Raw6) (most : Nat) : Nat := (q.N % ((most : Int) + 1)).toNat
def Raw6.tk (q : Raw6) (most k : Nat) : List (List E) := (List.range k).map fun i => madeAll (q.T i) (2 ^ q.n most)
def Raw6.tabs (q : Raw6) (most : Nat) : List (List E) := q.tk most 3
def Raw6.pk (q : Raw6) (k : Nat) : List Trm := (q.L.take k).map trM
def Raw6.trms (q : Raw6) : List Trm := q.pk 4
theorem Raw6.tk_succ (q : Raw6) (most k : Nat) : q.tk most (k + 1) = q.tk most k ++ [madeAll (q.T k) (2 ^ q.n most)] := by simp [Raw6.tk, List.range_succ]
theorem Raw6.tk_length (q : Raw6) (most k : Nat) : (q.tk most k).length = k := by simp [Raw6.tk]
theorem Raw6.pk_succ (q : Raw6) (k : Nat) (x : TRaw) (h : q.L[k]? = some x) : q.pk (k + 1) = q.pk k ++ [trM x] := by simp [Raw6.pk, List.take_add_one, h]
theorem Raw6.n_le (q : Raw6) (most : Nat) : q.n most ≤ most := by
  unfold Raw6.n
  have h1 := Int.emod_nonneg q.N (b := (most : Int) + 1) (by omega)
  have h2 := Int.emod_lt_of_pos q.N (b := (most : Int) + 1) (by omega)
  omega
theorem Raw6.all (q : Raw6) (most : Nat) : AllLen (q.tabs most) (2 ^ q.n most) := fun t ht => by
  obtain ⟨i, _, rfl⟩ := List.mem_map.1 ht
  exact madeAll_length _ _
theorem Raw6.tabs_len (q : Raw6) (most : Nat) : (q.tabs most).length = 3 := q.tk_length most 3
theorem Raw6.trms_len (q : Raw6) : q.trms.length ≤ 4 := by simp [Raw6.trms, Raw6.pk]; omega
theorem trIx_lt (x : TRaw) (k : Nat) : trIx x k < 3 := by unfold trIx; omega
theorem trLen_le (x : TRaw) : 1 ≤ trLen x ∧ trLen x ≤ 3 := by unfold trLen; omega
theorem Raw6.ix (q : Raw6) : ∀ p ∈ q.trms, ∀ k ∈ p.t, k < 3 := fun p hp k hk => by
  obtain ⟨x, _, rfl⟩ := List.mem_map.1 hp
  obtain ⟨i, _, rfl⟩ := List.mem_map.1 hk
  exact trIx_lt _ _
theorem Raw6.short (q : Raw6) : ∀ p ∈ q.trms, 1 ≤ p.t.length ∧ p.t.length ≤ 3 := fun p hp => by
  obtain ⟨x, _, rfl⟩ := List.mem_map.1 hp
  have := trLen_le x
  show 1 ≤ (trL x (trLen x)).length ∧ (trL x (trLen x)).length ≤ 3
  rw [trL_length]
  exact this
theorem Raw6.deg (q : Raw6) : degE q.trms ≤ 3 := degE_le _ 3 (by decide) fun p hp => (q.short p hp).2
end Go.Proofs.Ytilelegcniefcaa
