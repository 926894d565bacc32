/-
  Valid of package sumcheck, over a sum as it may come in, by contract.
-/
import Derived.Test.YtilelegcniefcaaCf
import Derived.Test.YtilelegcniefcaaInts
import Derived.Test.YtilelegcniefcaaInts
import Derived.Laws.EntriesVeiled
namespace Go.Proofs.Ytilelegcniefcaa
open Go.RowKit

/-- A term as it may come in. -/
structure RTrm where
  c : Raw
  t : List Int
def badTab (n : Nat) (t : List Raw) : Bool := decide (t.length ≠ n) || !t.all vld
def badIx (N : Nat) (i : Int) : Bool := decide (i < 0) || decide ((N : Int) ≤ i)
def badTrm (N : Nat) (p : RTrm) : Bool := !vld p.c || decide (p.t.length < 1) || decide (3 < p.t.length) || p.t.any (badIx N)
def validN (n : Nat) : Bool := decide (1 ≤ n) && decide (n ≤ 65536) && decide (n &&& (n - 1) = 0)
def validB (tabs : List (List Raw)) (ps : List RTrm) : Bool := match tabs with
  | [] => false
  | t :: _ => validN t.length && !tabs.any (badTab t.length) && !ps.any (badTrm tabs.length)
def RTabS (lo hi : Nat) (w : World) (v : Value) (tabs : List (List Raw)) : Prop := ∃ us : List Value, us.length = tabs.length ∧ Rd lo hi 1 w v tabs.length us ∧ ∀ (k : Nat) u t, us[k]? = some u → tabs[k]? = some t → RawS lo hi w u t
theorem RTabS.keep {lo hi : Nat} {w w' : World} {v : Value} {tabs : List (List Raw)} (h : RTabS lo hi w v tabs) (hb : Below w.heap.size w w') : RTabS lo hi w' v tabs := by
  obtain ⟨us, h1, h2, h3⟩ := h
  exact ⟨us, h1, h2.keep hb, fun k u t hu ht => ⟨Rd.keep (h3 k u t hu ht).1 hb, (h3 k u t hu ht).2⟩⟩
theorem RTabS.len {lo hi : Nat} {w : World} {v : Value} {tabs : List (List Raw)} (h : RTabS lo hi w v tabs) : ∃ A cap, v = .slice A tabs.length cap := by
  obtain ⟨us, _, h2, _⟩ := h
  exact h2.len
theorem RTabS.small {lo hi : Nat} {w : World} {v : Value} {tabs : List (List Raw)} (h : RTabS lo hi w v tabs) : tabs.length ≤ 140737488355327 := by
  obtain ⟨us, _, h2, _⟩ := h
  exact h2.2.1
theorem rtabs_cells {lo hi : Nat} {w : World} {v : Value} {tabs : List (List Raw)} (h : RTabS lo hi w v tabs) (h0 : 0 < tabs.length) : ∃ g off cap, v = .slice (some ⟨g, off, none⟩) tabs.length cap ∧ g < w.heap.size ∧
    ∀ k t, tabs[k]? = some t → ∃ A c, w.cell? ⟨g, off + k, none⟩ = some (.slice A t.length c) ∧ RawS lo hi w (.slice A t.length c) t := by
  obtain ⟨us, h1, h2, h3⟩ := h
  obtain ⟨g, off, cap, q1, q2, q3, q4, q5, q6⟩ := Rd.form h2 h0
  refine ⟨g, off, cap, q1, q5, fun k t ht => ?_⟩
  have hk : k < tabs.length := (List.getElem?_eq_some_iff.1 ht).1
  have hu : us[k]? = some (us[k]'(by omega)) := List.getElem?_eq_getElem _
  have h4 := h3 k _ t hu ht
  obtain ⟨A, c, hA⟩ := h4.1.len
  have h5 := q6 k _ hu
  rw [hA] at h4 h5
  exact ⟨A, c, h5, h4⟩
def rtc (x : RTrm × Value) : List Value := [.int .u64 x.1.c.1, .int .u64 x.1.c.2, x.2]
theorem rtc_len (x : RTrm × Value) : (rtc x).length = 3 := rfl
def RTrmS (lo hi : Nat) (w : World) (v : Value) (ps : List RTrm) : Prop := ∃ us : List Value, us.length = ps.length ∧ Rd lo hi 3 w v ps.length ((ps.zip us).flatMap rtc) ∧ ∀ (k : Nat) u p, us[k]? = some u → ps[k]? = some p → IntS lo hi w u p.t
theorem RTrmS.keep {lo hi : Nat} {w w' : World} {v : Value} {ps : List RTrm} (h : RTrmS lo hi w v ps) (hb : Below w.heap.size w w') : RTrmS lo hi w' v ps := by
  obtain ⟨us, h1, h2, h3⟩ := h
  exact ⟨us, h1, h2.keep hb, fun k u t hu ht => ⟨Rd.keep (h3 k u t hu ht).1 hb, (h3 k u t hu ht).2⟩⟩
theorem RTrmS.len {lo hi : Nat} {w : World} {v : Value} {ps : List RTrm} (h : RTrmS lo hi w v ps) : ∃ A cap, v = .slice A ps.length cap := by
  obtain ⟨us, _, h2, _⟩ := h
  exact h2.len
theorem RTrmS.small {lo hi : Nat} {w : World} {v : Value} {ps : List RTrm} (h : RTrmS lo hi w v ps) : ps.length ≤ 140737488355327 := by
  obtain ⟨us, _, h2, _⟩ := h
  exact h2.2.1
theorem rtrms_cells {lo hi : Nat} {w : World} {v : Value} {ps : List RTrm} (h : RTrmS lo hi w v ps) (h0 : 0 < ps.length) : ∃ g off cap, v = .slice (some ⟨g, off, none⟩) ps.length cap ∧ g < w.heap.size ∧
    ∀ k p, ps[k]? = some p → ∃ A c, w.cell? ⟨g, off + k * 3, none⟩ = some (.int .u64 p.c.1) ∧ w.cell? ⟨g, off + k * 3 + 1, none⟩ = some (.int .u64 p.c.2) ∧ w.cell? ⟨g, off + k * 3 + 2, none⟩ = some (.slice A p.t.length c) ∧ IntS lo hi w (.slice A p.t.length c) p.t := by
  obtain ⟨us, h1, h2, h3⟩ := h
  obtain ⟨g, off, cap, q1, q2, q3, q4, q5, q6⟩ := Rd.form h2 h0
  refine ⟨g, off, cap, q1, q5, fun k p hp => ?_⟩
  have hk : k < ps.length := (List.getElem?_eq_some_iff.1 hp).1
  have hu : us[k]? = some (us[k]'(by omega)) := List.getElem?_eq_getElem _
  have h4 := h3 k _ p hu hp
  obtain ⟨A, c, hA⟩ := h4.1.len
  have hz : (ps.zip us)[k]? = some (p, us[k]'(by omega)) := by rw [List.getElem?_zip_eq_some]; exact ⟨hp, hu⟩
  have e : ∀ j u, (rtc (p, us[k]'(by omega)))[j]? = some u → w.cell? ⟨g, off + k * 3 + j, none⟩ = some u := fun j u hu => by
    have := q6 (k * 3 + j) _ (flat_get rtc_len _ k j _ _ hz hu)
    rwa [← Nat.add_assoc] at this
  rw [hA] at h4 e
  exact ⟨A, c, e 0 _ rfl, e 1 _ rfl, e 2 _ rfl, h4⟩
theorem anyK_list {α : Type} (xs : List α) (d : α) (f : α → Bool) : anyK xs.length (fun k => f (xs.getD k d)) = xs.any f := by
  unfold anyK
  rw [Bool.eq_iff_iff, List.any_eq_true, List.any_eq_true]
  constructor
  · rintro ⟨k, hk, h⟩
    have hk := List.mem_range.1 hk
    exact ⟨xs[k], List.getElem_mem _, by simpa [List.getD, hk] using h⟩
  · rintro ⟨x, hx, h⟩
    obtain ⟨k, hk, rfl⟩ := List.getElem_of_mem hx
    exact ⟨k, List.mem_range.2 hk, by simpa [List.getD, hk] using h⟩
set_option maxRecDepth 100000 in
set_option maxHeartbeats 400000 in
theorem gVal1 (x : Raw) (w : World) : Calls Try.prog 42 #[.agg #[.int .u64 x.1, .int .u64 x.2]] w (Ret (.bool (!vld x)) w) := by
  go_enter Try.func42, Try.ntmps42
  go_wp2_with fail
  refine calls_stk1 fun W hB hz b1 => ?_
  refine (eValid x W).mono ?_
  rintro e w2 ⟨rfl, hb⟩
  go_wp2
  go_ret
  exact ⟨rfl, hB.trans (hb.mono hB.size)⟩
theorem gCon1 (xs : List Raw) (v : Value) (lo hi : Nat) (w : World) (h : RawS lo hi w v xs) :
    Calls Try.prog 45 #[v, .func (.func 42) #[] #[]] w (Ret (.bool (!xs.all vld)) w) := by
  obtain ⟨A, cap, rfl⟩ := h.1.len
  have e : (!xs.all vld) = anyK xs.length (fun k => !vld (xs.getD k (0, 0))) := by rw [anyK_list xs (0, 0) (fun x => !vld x)]; simp [List.all_eq_not_any_not]
  rw [e]
  obtain ⟨g, off, hA, hc⟩ : ∃ g off, (0 < xs.length → A = some ⟨g, off, none⟩) ∧ ∀ k W, k < xs.length → Below w.heap.size w W → g < W.heap.size ∧ W.cell? ⟨g, off + k * 2, none⟩ = some (.int .u64 (xs.getD k (0, 0)).1) ∧ W.cell? ⟨g, off + k * 2 + 1, none⟩ = some (.int .u64 (xs.getD k (0, 0)).2) := by
    by_cases h0 : 0 < xs.length
    · obtain ⟨g, off, cap', hv, q1, q2, q3, q4, q5⟩ := raws_cells h h0
      cases hv
      refine ⟨g, off, fun _ => rfl, fun k W hk hW => ?_⟩
      have hx : xs[k]? = some (xs.getD k (0, 0)) := by simp [List.getD, hk]
      obtain ⟨d1, d2⟩ := q5 k _ hx
      exact ⟨Nat.lt_of_lt_of_le q4 hW.size, (hW.cell (p := ⟨g, off + k * 2, none⟩) q4).trans d1, (hW.cell (p := ⟨g, off + k * 2 + 1, none⟩) q4).trans d2⟩
    · exact ⟨0, 0, fun h => absurd h h0, fun k W hk => absurd hk (by omega)⟩
  exact gConE xs.length h.1.2.1 _ (fun k => .int .u64 (xs.getD k (0, 0)).1) (fun k => .int .u64 (xs.getD k (0, 0)).2) A g off cap hA w _ [] en_attestor_sumcheck_Valid_1 hc (fun k W _ _ => gVal1 (xs.getD k (0, 0)) W)
set_option maxRecDepth 100000 in
set_option maxHeartbeats 400000 in
theorem gVal2 (t : List Raw) (n bn bi lo hi : Nat) (v : Value) (w : World) (h : RawS lo hi w v t) (hn : n ≤ 140737488355327) (hbn : bn < w.heap.size) (hbi : bi < w.heap.size) (c1 : w.cell? ⟨bn, 0, none⟩ = some (.int .i64 (n : Int))) (c2 : w.cell? ⟨bi, 0, none⟩ = some (.func (.func 42) #[] #[])) :
    Calls Try.prog 44 #[v, .pointer (some ⟨bn, 0, none⟩), .pointer (some ⟨bi, 0, none⟩)] w (Ret (.bool (badTab n t)) w) := by
  obtain ⟨A, cap, rfl⟩ := h.1.len
  have hl := h.1.2.1
  unfold badTab
  by_cases hne : t.length = n
  · have h1 : ((t.length : Int) != (n : Int)) = false := by simp; omega
    have HR := Lib.hid (show (decide (t.length ≠ n) || !t.all vld) = !t.all vld by simp [hne])
    rw [HR.out]
    clear HR hne
    go_enter Try.func44, Try.ntmps44
    go_wp2_with fail
    refine (gCon1 t _ lo hi w h).mono ?_
    rintro e w2 ⟨rfl, hb⟩
    generalize (!t.all vld) = q at *
    clear h c1 c2
    go_wp2_with fail
    go_ret
    exact ⟨rfl, hb⟩
  · have h1 : ((t.length : Int) != (n : Int)) = true := by simp; omega
    have HR := Lib.hid (show (decide (t.length ≠ n) || !t.all vld) = true by simp [hne])
    rw [HR.out]
    clear HR hne
    go_enter Try.func44, Try.ntmps44
    go_wp2_with fail
    go_ret
    exact ⟨rfl, Below.refl _ _⟩
set_option maxRecDepth 100000 in
set_option maxHeartbeats 400000 in
theorem gVal3 (i : Int) (hi : Num i) (A : Option Addr) (N cap bs : Nat) (hN : N ≤ 140737488355327) (w : World) (hb : bs < w.heap.size) (c1 : w.cell? ⟨bs, 0, none⟩ = some (.slice A N cap)) :
    Calls Try.prog 46 #[.int .i64 i, .pointer (some ⟨bs, 0, none⟩)] w (Ret (.bool (badIx N i)) w) := by
  obtain ⟨hi1, hi2⟩ := hi
  unfold badIx
  by_cases h : i < 0
  · skip
    go_enter Try.func46, Try.ntmps46
    go_wp2_with fail
    go_ret
    exact ⟨by simp [h], Below.refl _ _⟩
  · skip
    go_enter Try.func46, Try.ntmps46
    go_wp2_with fail
    go_ret
    exact ⟨by simp; intro h2; omega, Below.refl _ _⟩
theorem gCon3 (zs : List Int) (N bs : Nat) (v : Value) (lo hi : Nat) (A2 : Option Addr) (cap2 : Nat) (hN : N ≤ 140737488355327) (w : World) (h : IntS lo hi w v zs) (hb : bs < w.heap.size) (c1 : w.cell? ⟨bs, 0, none⟩ = some (.slice A2 N cap2)) :
    Calls Try.prog 48 #[v, .func (.func 46) #[] #[.pointer (some ⟨bs, 0, none⟩)]] w (Ret (.bool (zs.any (badIx N))) w) := by
  obtain ⟨A, cap, rfl⟩ := h.1.len
  rw [← anyK_list zs 0 (badIx N)]
  obtain ⟨g, off, hA, hc⟩ : ∃ g off, (0 < zs.length → A = some ⟨g, off, none⟩) ∧ ∀ k W, k < zs.length → Below w.heap.size w W → g < W.heap.size ∧ W.cell? ⟨g, off + k, none⟩ = some (.int .i64 (zs.getD k 0)) := by
    by_cases h0 : 0 < zs.length
    · obtain ⟨g, off, cap', hv, q1, q2, q3, q4, q5⟩ := Rd.form h.1 h0
      cases hv
      refine ⟨g, off, fun _ => rfl, fun k W hk hW => ?_⟩
      have hx : zs[k]? = some (zs.getD k 0) := by simp [List.getD, hk]
      have d1 := q5 (k * 1 + 0) _ (flat_get zc_len zs k 0 _ _ hx rfl)
      rw [Nat.mul_one, Nat.add_zero] at d1
      exact ⟨Nat.lt_of_lt_of_le q4 hW.size, (hW.cell (p := ⟨g, off + k, none⟩) q4).trans d1⟩
    · exact ⟨0, 0, fun h => absurd h h0, fun k W hk => absurd hk (by omega)⟩
  exact gConI zs.length h.1.2.1 _ (fun k => .int .i64 (zs.getD k 0)) A g off cap hA w _ [.pointer (some ⟨bs, 0, none⟩)] en_attestor_sumcheck_Valid_3 hc (fun k W hk hW => gVal3 (zs.getD k 0) (h.2 _ (by simp [List.getD, hk])) A2 N cap2 bs hN W (Nat.lt_of_lt_of_le hb hW.size) ((hW.cell (p := ⟨bs, 0, none⟩) hb).trans c1))
set_option maxRecDepth 100000 in
set_option maxHeartbeats 1000000 in
theorem gVal4 (p : RTrm) (N bi bx bs lo hi : Nat) (v : Value) (A2 : Option Addr) (cap2 : Nat) (hN : N ≤ 140737488355327) (w : World) (h : IntS lo hi w v p.t) (hbi : bi < w.heap.size) (hbx : bx < w.heap.size) (hbs : bs < w.heap.size) (c1 : w.cell? ⟨bi, 0, none⟩ = some (.func (.func 42) #[] #[]))
    (c2 : w.cell? ⟨bx, 0, none⟩ = some (.func (.func 46) #[] #[.pointer (some ⟨bs, 0, none⟩)])) (c3 : w.cell? ⟨bs, 0, none⟩ = some (.slice A2 N cap2)) :
    Calls Try.prog 47 #[.agg #[.int .u64 p.c.1, .int .u64 p.c.2, v], .pointer (some ⟨bi, 0, none⟩), .pointer (some ⟨bx, 0, none⟩)] w (Ret (.bool (badTrm N p)) w) := by
  obtain ⟨A, cap, rfl⟩ := h.1.len
  have hl := h.1.2.1
  obtain ⟨R, hR⟩ : ∃ R, R = badTrm N p := ⟨_, rfl⟩
  rw [← hR]
  have HR := Lib.hid hR
  clear hR
  have HG := Lib.hid (gVal1 p.c)
  go_enter Try.func47, Try.ntmps47
  go_upto_region 1 with (fail)
  refine wp_stk1 fun W hB hz b1 => ?_
  have k1 := (hB.cell (p := ⟨bi, 0, none⟩) hbi).trans c1
  have k2 := (hB.cell (p := ⟨bx, 0, none⟩) hbx).trans c2
  have k3 := (hB.cell (p := ⟨bs, 0, none⟩) hbs).trans c3
  have hw := hB.size
  have HI := Lib.hid (show IntS lo hi W (.slice A p.t.length cap) p.t from ⟨Rd.keep h.1 hB, h.2⟩)
  have e0 := b1.cell
  clear c1 c2 c3 h
  go_wp2_with fail
  refine (HG.out W).mono ?_
  rintro e w2 ⟨rfl, hb⟩
  have hBw := hB.trans (hb.mono hB.size)
  cases hq : vld p.c
  · have HQ := Lib.hid (show R = true by rw [HR.out]; unfold badTrm; rw [hq]; rfl)
    clear hq HR e0 k1 k2 k3
    simp only [Bool.not_false]
    go_wp2_with fail
    go_ret
    exact ⟨by rw [HQ.out]; rfl, hBw⟩
  · have b12 := b1.keep hb
    have e1 := b12.cell
    by_cases h1 : p.t.length < 1
    · have HQ := Lib.hid (show R = true by rw [HR.out]; unfold badTrm; have : p.t = [] := List.eq_nil_of_length_eq_zero (by omega); simp [this])
      clear hq HR e0 k1 k2 k3
      simp only [Bool.not_true]
      go_wp2_with fail
      go_ret
      exact ⟨by rw [HQ.out]; rfl, hBw⟩
    · by_cases h3 : 3 < p.t.length
      · have HQ := Lib.hid (show R = true by rw [HR.out]; unfold badTrm; rw [hq]; simp [h3])
        clear hq HR e0 k1 k2 k3
        simp only [Bool.not_true]
        go_wp2_with fail
        go_ret
        exact ⟨by rw [HQ.out]; rfl, hBw⟩
      · have HQ := Lib.hid (show R = p.t.any (badIx N) by rw [HR.out]; unfold badTrm; rw [hq, show decide (p.t.length < 1) = false by simpa using h1, show decide (3 < p.t.length) = false by simpa using h3]; rfl)
        have k2' := (hb.cell (p := ⟨bx, 0, none⟩) (by show bx < W.heap.size; omega)).trans k2
        have k3' := (hb.cell (p := ⟨bs, 0, none⟩) (by show bs < W.heap.size; omega)).trans k3
        have hs2 := hb.size
        have HI2 := Lib.hid (show IntS lo hi w2 (.slice A p.t.length cap) p.t from ⟨Rd.keep HI.out.1 hb, HI.out.2⟩)
        clear hq HR e0 k1 k2 k3
        simp only [Bool.not_true]
        go_wp2_with fail
        refine (gCon3 p.t N bs _ lo hi A2 cap2 hN w2 HI2.out (by omega) k3').mono ?_
        rintro e w3 ⟨rfl, hb3⟩
        rw [← HQ.out]
        clear e1 k2' k3' HQ
        go_wp2_with fail
        go_ret
        refine ⟨?_, hBw.trans (hb3.mono hBw.size)⟩
        first
        | rfl
        | (congr 1; simp [show ¬ ((p.t.length : Int) < 1) by omega, show ¬ ((3 : Int) < (p.t.length : Int)) by omega])
theorem gValS (tabs : List (List Raw)) (n bn bi lo hi : Nat) (v : Value) (w : World) (h : RTabS lo hi w v tabs) (hn : n ≤ 140737488355327) (hbn : bn < w.heap.size) (hbi : bi < w.heap.size) (c1 : w.cell? ⟨bn, 0, none⟩ = some (.int .i64 (n : Int))) (c2 : w.cell? ⟨bi, 0, none⟩ = some (.func (.func 42) #[] #[])) :
    Calls Try.prog 49 #[v, .func (.func 44) #[] #[.pointer (some ⟨bn, 0, none⟩), .pointer (some ⟨bi, 0, none⟩)]] w (Ret (.bool (tabs.any (badTab n))) w) := by
  obtain ⟨A, cap, rfl⟩ := h.len
  rw [← anyK_list tabs [] (badTab n)]
  obtain ⟨us, h1, h2, h3⟩ := h
  obtain ⟨g, off, hA, hc⟩ : ∃ g off, (0 < tabs.length → A = some ⟨g, off, none⟩) ∧ ∀ k W, k < tabs.length → Below w.heap.size w W → g < W.heap.size ∧ W.cell? ⟨g, off + k, none⟩ = some (us.getD k (.bool false)) := by
    by_cases h0 : 0 < tabs.length
    · obtain ⟨g, off, cap', hv, q1, q2, q3, q4, q5⟩ := Rd.form h2 h0
      cases hv
      refine ⟨g, off, fun _ => rfl, fun k W hk hW => ?_⟩
      have d1 := q5 k (us.getD k (.bool false)) (by simp [List.getD, show k < us.length by omega])
      exact ⟨Nat.lt_of_lt_of_le q4 hW.size, (hW.cell (p := ⟨g, off + k, none⟩) q4).trans d1⟩
    · exact ⟨0, 0, fun h => absurd h h0, fun k W hk => absurd hk (by omega)⟩
  refine gConS tabs.length h2.2.1 _ (fun k => us.getD k (.bool false)) A g off cap hA w _ [.pointer (some ⟨bn, 0, none⟩), .pointer (some ⟨bi, 0, none⟩)] en_attestor_sumcheck_Valid_2 hc (fun k W hk hW => ?_)
  have r := h3 k (us.getD k (.bool false)) (tabs.getD k []) (by simp [List.getD, show k < us.length by omega]) (by simp [List.getD, hk])
  exact gVal2 (tabs.getD k []) n bn bi lo hi _ W ⟨Rd.keep r.1 hW, r.2⟩ hn (Nat.lt_of_lt_of_le hbn hW.size) (Nat.lt_of_lt_of_le hbi hW.size) ((hW.cell (p := ⟨bn, 0, none⟩) hbn).trans c1) ((hW.cell (p := ⟨bi, 0, none⟩) hbi).trans c2)
theorem gValP (ps : List RTrm) (N bi bx bs lo hi : Nat) (A2 : Option Addr) (cap2 : Nat) (v : Value) (w : World) (h : RTrmS lo hi w v ps) (hN : N ≤ 140737488355327) (hbi : bi < w.heap.size) (hbx : bx < w.heap.size) (hbs : bs < w.heap.size) (c1 : w.cell? ⟨bi, 0, none⟩ = some (.func (.func 42) #[] #[]))
    (c2 : w.cell? ⟨bx, 0, none⟩ = some (.func (.func 46) #[] #[.pointer (some ⟨bs, 0, none⟩)])) (c3 : w.cell? ⟨bs, 0, none⟩ = some (.slice A2 N cap2)) :
    Calls Try.prog 50 #[v, .func (.func 47) #[] #[.pointer (some ⟨bi, 0, none⟩), .pointer (some ⟨bx, 0, none⟩)]] w (Ret (.bool (ps.any (badTrm N))) w) := by
  obtain ⟨A, cap, rfl⟩ := h.len
  rw [← anyK_list ps ⟨(0, 0), []⟩ (badTrm N)]
  obtain ⟨us, h1, h2, h3⟩ := h
  obtain ⟨g, off, hA, hc⟩ : ∃ g off, (0 < ps.length → A = some ⟨g, off, none⟩) ∧ ∀ k W, k < ps.length → Below w.heap.size w W → g < W.heap.size ∧ W.cell? ⟨g, off + k * 3, none⟩ = some (.int .u64 (ps.getD k ⟨(0, 0), []⟩).c.1) ∧ W.cell? ⟨g, off + k * 3 + 1, none⟩ = some (.int .u64 (ps.getD k ⟨(0, 0), []⟩).c.2) ∧ W.cell? ⟨g, off + k * 3 + 2, none⟩ = some (us.getD k (.bool false)) := by
    by_cases h0 : 0 < ps.length
    · obtain ⟨g, off, cap', hv, q1, q2, q3, q4, q5⟩ := Rd.form h2 h0
      cases hv
      refine ⟨g, off, fun _ => rfl, fun k W hk hW => ?_⟩
      have hz : (ps.zip us)[k]? = some (ps.getD k ⟨(0, 0), []⟩, us.getD k (.bool false)) := by rw [List.getElem?_zip_eq_some]; exact ⟨by simp [List.getD, hk], by simp [List.getD, show k < us.length by omega]⟩
      have e : ∀ j u, (rtc (ps.getD k ⟨(0, 0), []⟩, us.getD k (.bool false)))[j]? = some u → W.cell? ⟨g, off + k * 3 + j, none⟩ = some u := fun j u hu => by
        have := q5 (k * 3 + j) _ (flat_get rtc_len _ k j _ _ hz hu)
        rw [← Nat.add_assoc] at this
        exact (hW.cell (p := ⟨g, off + k * 3 + j, none⟩) q4).trans this
      exact ⟨Nat.lt_of_lt_of_le q4 hW.size, e 0 _ rfl, e 1 _ rfl, e 2 _ rfl⟩
    · exact ⟨0, 0, fun h => absurd h h0, fun k W hk => absurd hk (by omega)⟩
  refine gConP ps.length h2.2.1 _ (fun k => .int .u64 (ps.getD k ⟨(0, 0), []⟩).c.1) (fun k => .int .u64 (ps.getD k ⟨(0, 0), []⟩).c.2) (fun k => us.getD k (.bool false)) A g off cap hA w _ [.pointer (some ⟨bi, 0, none⟩), .pointer (some ⟨bx, 0, none⟩)] en_attestor_sumcheck_Valid_4 hc (fun k W hk hW => ?_)
  have r := h3 k (us.getD k (.bool false)) (ps.getD k ⟨(0, 0), []⟩) (by simp [List.getD, show k < us.length by omega]) (by simp [List.getD, hk])
  exact gVal4 (ps.getD k ⟨(0, 0), []⟩) N bi bx bs lo hi _ A2 cap2 hN W ⟨Rd.keep r.1 hW, r.2⟩ (Nat.lt_of_lt_of_le hbi hW.size) (Nat.lt_of_lt_of_le hbx hW.size) (Nat.lt_of_lt_of_le hbs hW.size) ((hW.cell (p := ⟨bi, 0, none⟩) hbi).trans c1) ((hW.cell (p := ⟨bx, 0, none⟩) hbx).trans c2) ((hW.cell (p := ⟨bs, 0, none⟩) hbs).trans c3)
/-- The bits of a length and of its predecessor. -/
theorem and_pred (n : Nat) (h : n ≤ 65536) (h1 : 1 ≤ n) : bits .and .i64 (n : Int) ((n : Int) - 1) = ((n &&& (n - 1) : Nat) : Int) := by
  rw [show (n : Int) - 1 = ((n - 1 : Nat) : Int) by omega, i64_and_nat n (n - 1) (by omega) (by omega)]
set_option maxRecDepth 100000 in
set_option maxHeartbeats 2000000 in
theorem gValidS (tabs : List (List Raw)) (ps : List RTrm) (vt vp : Value) (lo hi : Nat) (w : World) (ht : RTabS lo hi w vt tabs) (hp : RTrmS lo hi w vp ps) :
    Calls Try.prog 11 #[.agg #[vt, vp]] w (Ret (.bool (validB tabs ps)) w) := by
  obtain ⟨A, cap, rfl⟩ := ht.len
  obtain ⟨AP, capP, rfl⟩ := hp.len
  have hs1 := ht.small
  have hs2 := hp.small
  obtain ⟨R, hR⟩ : ∃ R, R = validB tabs ps := ⟨_, rfl⟩
  rw [← hR]
  have HR := Lib.hid hR
  have HTt := Lib.hid ht
  have HPp := Lib.hid hp
  clear hR ht hp
  by_cases h0 : tabs.length = 0
  · have HQ := Lib.hid (show R = false by rw [HR.out, List.eq_nil_of_length_eq_zero h0]; rfl)
    rw [h0]
    clear HR
    go_enter Try.func11, Try.ntmps11
    go_wp2_with fail
    go_ret
    exact ⟨by rw [HQ.out]; rfl, (Below.refl _ _).alloc (Nat.le_refl _) _⟩
  · obtain ⟨N, hN⟩ : ∃ N, N = tabs.length := ⟨_, rfl⟩
    have HN := Lib.hid hN
    obtain ⟨g, off, cap', hv, q1, q2⟩ := rtabs_cells HTt.out (by omega)
    cases hv
    obtain ⟨t0, ht0⟩ : ∃ t, tabs[0]? = some t := ⟨_, List.getElem?_eq_getElem (by omega)⟩
    obtain ⟨A0, c0, k0, hE0⟩ := q2 0 t0 ht0
    rw [Nat.add_zero] at k0
    have hl0 := hE0.1.2.1
    obtain ⟨n, hn⟩ : ∃ n, n = t0.length := ⟨_, rfl⟩
    rw [← hn] at k0 hl0
    have HVB := Lib.hid (show R = (validN n && !tabs.any (badTab n) && !ps.any (badTrm N)) by
      rw [HR.out, hn, hN]
      unfold validB
      match tabs, ht0 with
      | t :: ts, h => simp only [List.getElem?_cons_zero, Option.some.injEq] at h; subst h; rfl)
    have hb0 : ((tabs.length : Int) == 0) = false := by simp; intro e; exact h0 (by rw [e]; rfl)
    clear q2 ht0 hE0 hn HR
    go_enter Try.func11, Try.ntmps11
    go_upto_region 4 with (fail)
    refine wp_stk2 fun W1 hB1 hz1 b11 b12 => ?_
    go_upto_region 6 with (fail)
    refine wp_stk1 fun W2 hB2 hz2 b23 => ?_
    have b21 := b11.keep hB2
    have b22 := b12.keep hB2
    go_upto_region 8 with (fail)
    refine wp_stk1 fun W hB3 hz3 b4 => ?_
    have b1 := b21.keep hB3
    have b2 := b22.keep hB3
    have b3 := b23.keep hB3
    have hB := hB1.trans ((hB2.trans (hB3.mono hB2.size)).mono hB1.size)
    have hw : W.heap.size = w.heap.size + 4 := by rw [hz3.out, hz2.out, hz1.out]
    have hw1 := hz1.out
    have hw2 : W2.heap.size = w.heap.size + 1 + 1 + 1 := by rw [hz2.out, hz1.out]
    rw [hw1] at b3
    rw [hw2] at b4
    simp only [hw1, hw2]
    clear b11 b12 b21 b22 b23 hB1 hB2 hB3
    have e1 := b1.cell
    have e2 := b2.cell
    have e3 := b3.cell
    have e4 := b4.cell
    by_cases h1 : 1 ≤ n
    · by_cases h2 : n ≤ 65536
      · have hq := and_pred n h2 h1
        by_cases h3 : n &&& (n - 1) = 0
        · have hq0 : bits .and .i64 (n : Int) ((n : Int) - 1) = 0 := by rw [hq, h3]; rfl
          have HQ := Lib.hid (show R = (!tabs.any (badTab n) && !ps.any (badTrm N)) by rw [HVB.out]; unfold validN; simp [h1, h2, h3])
          have HS := Lib.hid (gValS tabs n (w.heap.size + 1) (w.heap.size + 1 + 1) lo hi _ W (HTt.out.keep hB) (by omega) (by omega) (by omega) (e2 0) (e3 0))
          clear HVB hq h3
          go_wp2_with fail
          refine HS.out.mono ?_
          rintro e w2 ⟨rfl, hb⟩
          cases hq1 : tabs.any (badTab n)
          · have HQ2 := Lib.hid (show R = !ps.any (badTrm N) by rw [HQ.out, hq1]; rfl)
            have HP := Lib.hid (gValP ps N (w.heap.size + 1 + 1) (w.heap.size + 1 + 1 + 1) w.heap.size lo hi _ _ _ w2 ((HPp.out.keep hB).keep hb) (by omega) (Nat.lt_of_lt_of_le (by omega) hb.size) (Nat.lt_of_lt_of_le (by omega) hb.size) (Nat.lt_of_lt_of_le (by omega) hb.size) ((hb.cell (by show w.heap.size + 1 + 1 < _; omega)).trans (e3 0)) ((hb.cell (by show w.heap.size + 1 + 1 + 1 < _; omega)).trans (e4 0)) ((hb.cell (by show w.heap.size < _; omega)).trans (by rw [e1 0, hN]; rfl)))
            have b1' := (b1.keep hb).cell
            clear hq1 HQ HS e1 e2 e3 e4 hq0
            go_wp2_with fail
            refine HP.out.mono ?_
            rintro e w3 ⟨rfl, hb2⟩
            have hBw := hB.trans ((hb.trans (hb2.mono hb.size)).mono hB.size)
            cases hq2 : ps.any (badTrm N)
            · have HQ3 := Lib.hid (show R = true by rw [HQ2.out, hq2]; rfl)
              clear hq2 HQ2 HP
              go_wp2_with fail
              go_ret
              exact ⟨by rw [HQ3.out]; rfl, hBw⟩
            · have HQ3 := Lib.hid (show R = false by rw [HQ2.out, hq2]; rfl)
              clear hq2 HQ2 HP
              go_wp2_with fail
              go_ret
              exact ⟨by rw [HQ3.out]; rfl, hBw⟩
          · have HQ2 := Lib.hid (show R = false by rw [HQ.out, hq1]; rfl)
            clear hq1 HQ HS e1 e2 e3 e4 hq0
            go_wp2_with fail
            go_ret
            exact ⟨by rw [HQ2.out]; rfl, hB.trans (hb.mono hB.size)⟩
        · have hq0 : ((bits .and .i64 (n : Int) ((n : Int) - 1)) == 0) = false := by rw [hq]; simpa using h3
          have HQ := Lib.hid (show R = false by rw [HVB.out]; unfold validN; simp [h3])
          clear HVB e4 e3 hq h3
          go_wp2_with fail
          go_ret
          exact ⟨by rw [HQ.out]; rfl, hB⟩
      · have HQ := Lib.hid (show R = false by rw [HVB.out]; unfold validN; simp [h2])
        clear HVB e4 e3
        go_wp2_with fail
        go_ret
        exact ⟨by rw [HQ.out]; rfl, hB⟩
    · have HQ := Lib.hid (show R = false by rw [HVB.out]; unfold validN; simp [h1])
      clear HVB e4 e3
      go_wp2_with fail
      go_ret
      exact ⟨by rw [HQ.out]; rfl, hB⟩
end Go.Proofs.Ytilelegcniefcaa
