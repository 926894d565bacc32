/-
  The program's Columns: one column, and all.
  Completeness of the sum-check in plain mathematics.
  Same, Made and Exactly of the reference's polynomials, by contract.
  The sum of the law: two tables and one product, as it lies; columns as they lie.
  TopTotalsAreSumchecks: the walk.
  The arguments of the top law as the reading of the arguments gives them; what the variable widths holds.
-/
import Derived.Test.YtficeebbbkmhcaaGreatDoorCl15
import Derived.Test.YtficeebbbkmhcaaGreatDoorVf2
import Derived.Test.YtficeebbbkmhcaaGreatDoorEv18
import Derived.Test.YtficeebbbkmhcaaGreatDoorZv
import Derived.Test.YtficeebbbkmhcaaGreatDoorStp26
import Derived.Test.YtficeebbbkmhcaaGreatDoorQy
namespace Go.Proofs.YtficeebbbkmhcaaGreatDoor
open Go.RowKit

theorem uss_slice : Tryz.prog.underlying 30 = some (.slice 35) := by kernel_rfl
theorem us_slice : Tryz.prog.underlying 35 = some (.slice 37) := by kernel_rfl
theorem us_info : (Tryz.prog.info? 35).map (fun i => (i.zero, i.size, i.bytes)) = some (some (.slice none 0 0), 1, 24) := by kernel_rfl
theorem u64z_info : (Tryz.prog.info? 37).map (fun i => (i.zero, i.size, i.bytes)) = some (some (.int .u64 0), 1, 8) := by kernel_rfl
set_option maxRecDepth 100000 in
theorem mk_u64 (n : Nat) (hn : n ≤ 1000) (w : World) : (Instr.makeSlice 35 (.int .i64 (n : Int)) (.int .i64 (n : Int))).run Tryz.prog w = .ok (.slice (some ⟨w.heap.size, 0, none⟩) n n) (w.alloc (.cells (u64c (List.replicate n 0)).toArray 37)) := by
  obtain ⟨i0, hi0, hz0, hz1, hz2⟩ := info_parts u64z_info
  have h := run_make (P := Tryz.prog) w _ _ i0 _ us_slice hi0 hz0 .i64 .i64 (n : Int) (n : Int) (by omega) (Int.le_refl _) (by rw [hz2]; omega) (by omega)
  rw [h, Int.toNat_natCast, hz1]
  congr 4
  apply Array.ext_getElem?
  intro k
  unfold madeCells
  by_cases hk : k < n
  · simp [u64c, hk, Value.cells, Nat.mod_one]
  · rw [Array.getElem?_eq_none (by simp; omega), Array.getElem?_eq_none (by simp [u64c]; omega)]
def ColB (N : Nat) (w : World) (v : Value) (zss : List (List Int)) : Prop := ∃ vs : List Value, w.ownsRow N 35 1 v vs.length vs ∧ Al (fun u zs => ∃ g, u = .slice (some ⟨g, 0, none⟩) zs.length zs.length ∧ zs.length ≤ 1000 ∧ Blk w g 37 (u64c zs).toArray) vs zss
def CoA (w : World) (v : Value) (zss : List (List Int)) : Prop := ∃ vs : List Value, RdA 1 w v vs.length vs ∧ Al (fun u zs => RdA 1 w u zs.length (u64c zs)) vs zss
theorem CoA.keep {w X : World} {v : Value} {zss : List (List Int)} (h : CoA w v zss) (hb : Below w.heap.size w X) : CoA X v zss := by
  obtain ⟨vs, h1, h2⟩ := h
  exact ⟨vs, h1.keep hb, h2.mono fun u zs h => h.keep hb⟩
theorem CoA.len {w : World} {v : Value} {zss : List (List Int)} (h : CoA w v zss) : ∃ A cap, v = .slice A zss.length cap := by
  obtain ⟨vs, h1, h2⟩ := h
  rw [← h2.1]
  exact Rd.len h1
theorem ColB.keep {N : Nat} {w X : World} {v : Value} {bs : List (List Int)} (h : ColB N w v bs) (hb : Below w.heap.size w X) : ColB N X v bs := by
  obtain ⟨vs, h1, h2⟩ := h
  exact ⟨vs, own_below h1 (Nat.le_refl _) hb, h2.mono fun u b ⟨g, q1, q2, q3⟩ => ⟨g, q1, q2, q3.keep hb⟩⟩
theorem ColB.coa {N : Nat} {w : World} {v : Value} {bs : List (List Int)} (h : ColB N w v bs) (hn : bs.length ≤ 1000) : CoA w v bs := by
  obtain ⟨vs, h1, h2⟩ := h
  refine ⟨vs, RdA.of (Rd.of_own h1 (by rw [h2.1]; omega) (Nat.le_refl _)), h2.mono fun u b ⟨g, q1, q2, q3⟩ => ?_⟩
  rw [q1]
  exact rd_blkZ q3 rfl (by omega)
theorem ColB.snoc {N g : Nat} {w X : World} {v v' : Value} {vs : List Value} {bs : List (List Int)} {b : List Int} (h1 : w.ownsRow N 35 1 v vs.length vs) (h2 : Al (fun u zs => ∃ g, u = .slice (some ⟨g, 0, none⟩) zs.length zs.length ∧ zs.length ≤ 1000 ∧ Blk w g 37 (u64c zs).toArray) vs bs) (hb : b.length ≤ 1000) (hg : Blk w g 37 (u64c b).toArray)
    (ho : X.ownsRow N 35 1 v' (vs.length + 1) (vs ++ [.slice (some ⟨g, 0, none⟩) b.length b.length])) (hgr : w.grownBy X v.ownBlock) : ColB N X v' (bs ++ [b]) := by
  have hk : ∀ g b, Blk w g 37 (u64c b).toArray → Blk X g 37 (u64c b).toArray := fun g b hh => (hgr.block g hh.lt fun e => by
    rcases h1.2 with ⟨q, _⟩ | ⟨g', cap, cur, q, _, q3, _⟩
    · rw [q] at e; cases e
    · rw [q] at e
      cases e
      have hc := hh.symm.trans q3
      cases hc).trans hh
  refine ⟨_, by rw [List.length_append]; exact ho, ?_⟩
  exact Al.snoc (h2.mono fun u b ⟨g, q1, q2, q3⟩ => ⟨g, q1, q2, hk _ _ q3⟩) ⟨g, rfl, hb, hk _ _ hg⟩
theorem ColB.len {N : Nat} {w : World} {v : Value} {bs : List (List Int)} (h : ColB N w v bs) : ∃ A cap, v = .slice A bs.length cap := by
  obtain ⟨vs, h1, h2⟩ := h
  rw [← h2.1]
  exact own_lenR h1
set_option maxRecDepth 100000 in
theorem gColumn (s : Stm) (hs : s.length ≤ 16) (x : StrW) (c : Nat) (fn : FuncId) (cap : Array Value) (hen : ∀ args w, (callFunc fn args).run Tryz.prog w = .ok (.enter fn args) w) (w : World) (hx : StrIn w x s) (hF : ∀ k, k < s.length → ∀ W, Below w.heap.size w W → Calls Tryz.prog fn (#[.int .i64 (k : Int)] ++ cap) W (Ret (.int .u64 (colV c s k)) W)) : Calls Tryz.prog 25 #[.agg (smc x).toArray, .int .i64 4, .func (.func fn) #[] cap] w fun e W => ∃ g, e = .returned (.slice (some ⟨g, 0, none⟩) 16 16) ∧ w.heap.size ≤ g ∧ Blk W g 37 (u64c (colZ c 4 s)).toArray ∧ Below w.heap.size w W := by
  obtain ⟨x1, x2⟩ := x
  obtain ⟨A1, cap1, hv1⟩ := Rd.len hx.1
  obtain ⟨A2, cap2, hv2⟩ := Rd.len hx.2
  dsimp only at hv1 hv2
  subst hv1
  subst hv2
  unfold smc
  dsimp only
  obtain ⟨n, hn⟩ : ∃ n, n = s.length := ⟨_, rfl⟩
  rw [← hn] at hs hF ⊢
  have HF := Lib.hid hF
  have HN := Lib.hid hn
  clear hx hn hF
  go_enter Tryz.func25, Tryz.ntmps25
  go_upto_region 1 with (fail)
  refine wp_stk1 fun W hW hz b3 => ?_
  have hmk := mk_u64 16 (by decide) W
  rw [show ((16 : Nat) : Int) = 16 from rfl] at hmk
  have HW := Lib.hid hW
  have HB3 := Lib.hid b3
  clear hW hz b3
  go_upto_region 2 with (fail)
  refine wp_stk1 fun V hV hz b7 => ?_
  clear hmk
  obtain ⟨g7, hg7⟩ : ∃ g, g = W.heap.size := ⟨_, rfl⟩
  rw [← hg7] at b7 ⊢
  have HV := Lib.hid (HW.out.trans (hV.mono HW.out.size))
  have hg7w : w.heap.size ≤ g7 := by have := HW.out.size; omega
  have b3 := HB3.out.keep hV
  have c3 : V.cell? ⟨w.heap.size, 0, none⟩ = some (.slice A1 n cap1) := (b3.cell 0).trans rfl
  have l3 := b3.lt
  have HB7 := Lib.hid b7
  clear hV hz hg7 b3 b7
  go_upto_region 3 with (fail)
  go_loopw [15] (fun q wr => ∃ k : Nat, k ≤ n ∧ q = .int .i64 k ∧ Blk wr g7 37 (u64c (colP c 4 s k)).toArray ∧ Below w.heap.size w wr) (fun q _ => n - (intOf q).toNat)
  case atStart => exact ⟨0, Nat.zero_le _, rfl, by rw [colP_zero]; exact HB7.out, HV.out⟩
  case round =>
    clear c3 l3
    obtain ⟨k, hk, rfl, b7, hB⟩ := hrel
    have HB := Lib.hid hB
    have HB7 := Lib.hid b7
    clear hB b7
    by_cases hkn : k < n
    rotate_left 1
    · have hall : colP c 4 s k = colZ c 4 s := colP_all c 4 s k (by have := HN.out; omega)
      go_wp2_with fail
      exact bodyPost_ret (v := .slice (some ⟨g7, 0, none⟩) 16 16) (by simp [results, Tryz.results25, go_sem]) rfl ⟨g7, rfl, hg7w, by rw [← hall]; exact HB7.out, HB.out⟩
    have HFk := Lib.hid (HF.out k hkn)
    have hkn16 : k < 16 := by omega
    go_wp2_with fail
    refine (HFk.out _ HB.out).mono ?_
    rintro e T ⟨rfl, hT⟩
    have b7 := HB7.out.keep hT
    have HBT := Lib.hid (HB.out.trans (hT.mono HB.out.size))
    have HB7T := Lib.hid b7
    have e8 : T.cell? ⟨g7, k, none⟩ = some (.int .u64 ((colP c 4 s k).getD k 0)) := by
      rw [b7.cell, List.getElem?_toArray]
      unfold u64c
      rw [List.getElem?_map, List.getD_eq_getElem?_getD, List.getElem?_eq_getElem (by rw [colP_len]; omega)]
      rfl
    obtain ⟨zo, hzo⟩ : ∃ z, z = (colP c 4 s k).getD k 0 := ⟨_, rfl⟩
    rw [← hzo] at e8
    have f7 := b7.frozen
    have l7 := b7.lt
    obtain ⟨zn, hzn⟩ : ∃ z, z = colV c s k := ⟨_, rfl⟩
    rw [← hzn]
    have HZN := Lib.hid hzn
    clear b7 hT hzo hzn
    go_wp2_with fail
    exact ⟨⟨k + 1, by omega, by go_num, by rw [← colP_set, ← HZN.out]; exact blk_setZ HB7T.out k zn, HBT.out.setCell (p := ⟨g7, k, none⟩) hg7w _⟩, by simp [intOf]; omega⟩
theorem step_mkf0 {P : Program} {o : Oper} {a : Act} {w : World} {us vs : List Value} (f : Fn) (xs ys : List Operand) (ho : o.op = .makeFunc f xs.toArray ys.toArray) (hx : xs.map a.eval = us) (hy : ys.map a.eval = vs) : stepAt P o a w (fun v' w' => v' = .func f us.toArray vs.toArray ∧ w' = w) := by
  subst hx hy
  unfold stepAt execOp
  simp only [ho, List.map_toArray]
  exact ⟨rfl, rfl⟩
def cols15 (s : Stm) : List (List Int) := (List.range 5).map fun c => colZ c 4 s
theorem cols15_len (s : Stm) : (cols15 s).length = 5 := by simp [cols15]
set_option maxRecDepth 100000 in
set_option maxHeartbeats 2000000 in
theorem gColsR15 (s : Stm) (hs : s.length ≤ 16) (hr : ∀ x ∈ s, x.1.ok) (x : StrW) (w : World) (hx : StrIn w x s) : Calls Tryz.prog 6 #[.agg (smc x).toArray, .int .i64 4] w fun e w' => ∃ v, e = .returned (.tuple #[v, .int .i64 0]) ∧ CoA w' v (cols15 s) ∧ Below w.heap.size w w' := by
  have HX := Lib.hid hx
  have HR := Lib.hid hr
  have HSL := Lib.hid hs
  have HCK := Lib.hid (fun W hW => gChk15 s hs x W hW)
  obtain ⟨x1, x2⟩ := x
  obtain ⟨A1, cap1, hv1⟩ := Rd.len hx.1
  obtain ⟨A2, cap2, hv2⟩ := Rd.len hx.2
  dsimp only at hv1 hv2
  subst hv1
  subst hv2
  obtain ⟨n, hn⟩ : ∃ n, n = s.length := ⟨_, rfl⟩
  unfold smc at HCK ⊢
  dsimp only at HCK ⊢
  rw [← hn] at HCK HX ⊢
  have HN := Lib.hid hn
  clear hx hn hr hs
  go_enter Tryz.func6, Tryz.ntmps6
  go_upto_region 1 with (fail)
  refine wp_stk1 fun W hW hz b2 => ?_
  obtain ⟨g2, hg2⟩ : ∃ g, g = w.heap.size := ⟨_, rfl⟩
  rw [← hg2] at b2 ⊢
  have hg2w : w.heap.size ≤ g2 := by omega
  have HW := Lib.hid hW
  have HB2 := Lib.hid b2
  have b2' := b2
  have c2 := b2.cell
  have l2 := b2.lt
  clear hW hz hg2 b2 b2'
  go_wp2_with fail
  refine (HCK.out W ⟨RdA.keep HX.out.1 HW.out, RdA.keep HX.out.2 HW.out⟩).mono ?_
  rintro e V ⟨rfl, hV⟩
  have HV := Lib.hid (HW.out.trans (hV.mono HW.out.size))
  have HB2V := Lib.hid (HB2.out.keep hV)
  clear hV c2 l2
  have hmf : ∀ (fn : Fn) (first cap : Array Value) (w : World), (Instr.makeFunc fn first cap).run Tryz.prog w = .ok (.func fn first cap) w := fun _ _ _ _ => rfl
  go_wp2_with fail
  refine (gFields _).mono ?_
  rintro e X ⟨rfl, hX⟩
  have HX2 := Lib.hid (HV.out.trans (hX.mono HV.out.size))
  have HB2X := Lib.hid (HB2V.out.keep hX)
  obtain ⟨N, hN⟩ : ∃ N, N = X.heap.size := ⟨_, rfl⟩
  have hg2N : g2 < N := by rw [hN]; exact HB2X.out.lt
  have hNX := Nat.le_of_eq hN
  have HCOLB0 : ColB N X (.slice none 0 0) [] := ⟨[], ⟨rfl, .inl ⟨rfl, rfl⟩⟩, Al.nil⟩
  have HC0 := Lib.hid HCOLB0
  obtain ⟨iB, hiB, iB0, iB1, iB2⟩ := info_parts us_info
  clear hX HCOLB0 hN
  go_upto_region 6 with (fail)
  go_loopw [7, 17] (fun q i wr => ∃ (c : Nat) (L : List (List Int)), c ≤ 4 ∧ i = .int .i64 c ∧ ColB N wr q L ∧ Hid (L.length = c) ∧ Hid (L = (List.range c).map fun c => colZ c 4 s) ∧ Below N X wr) (fun _ i _ => 4 - (intOf i).toNat)
  case atStart => exact ⟨0, [], Nat.zero_le _, rfl, HC0.out, Lib.hid rfl, Lib.hid rfl, Below.refl _ _⟩
  case round =>
    obtain ⟨c, L, hc, rfl, hlf, HLI, HLE, hB⟩ := hrel
    obtain ⟨A7, c7, rfl⟩ := hlf.len
    have b2 := HB2X.out.below hB hg2N
    have HB := Lib.hid hB
    obtain ⟨vs, o1, o2⟩ := hlf
    have hvi : vs.length = c := o2.1.trans HLI.out
    rw [hvi] at o1
    rw [HLI.out] at o1 ⊢
    by_cases hc4 : c < 4
    rotate_left 1
    · obtain rfl : c = 4 := by omega
      have HO1 := Lib.hid o1
      have HO2 := Lib.hid o2
      have HVI := Lib.hid hvi
      clear o1 o2 hvi hB
      go_upto_region 10 with (fail)
      have HCOL := Lib.hid (gColumn s HSL.out ⟨.slice A1 s.length cap1, .slice A2 s.length cap2⟩ 4 27 #[.pointer (some ⟨g2, 0, none⟩)] en_reading_cB wr (by rw [← HN.out]; exact ⟨RdA.keep HX.out.1 (HX2.out.trans (HB.out.mono (by have := HX2.out.size; omega))), RdA.keep HX.out.2 (HX2.out.trans (HB.out.mono (by have := HX2.out.size; omega)))⟩) (fun k hk W hW => gColB s ⟨.slice A1 s.length cap1, .slice A2 s.length cap2⟩ g2 k hk W (by rw [← HN.out]; exact b2.keep hW) (by rw [← HN.out]; exact ⟨RdA.keep HX.out.1 ((HX2.out.trans (HB.out.mono (by have := HX2.out.size; omega))).trans (hW.mono (by have := HX2.out.size; have := HB.out.size; omega))), RdA.keep HX.out.2 ((HX2.out.trans (HB.out.mono (by have := HX2.out.size; omega))).trans (hW.mono (by have := HX2.out.size; have := HB.out.size; omega)))⟩)))
      unfold smc at HCOL
      dsimp only at HCOL
      rw [← HN.out] at HCOL
      refine wp_region_lit ?_
      iterate 1 (refine wpList_plain rfl fun K hK => ?_; go_big_op; refine hK _ _ ?_; clear hK K)
      refine wpList_plain rfl fun K3 hK3 => wp_of_step (stepAt_mono (fun v21 w21 hh => ?_) (step_loadR0 (cs := [.slice A1 n cap1, .slice A2 n cap2]) strm_under rfl strm_size rfl rfl (blk_range b2)))
      obtain ⟨rfl, rfl⟩ := hh
      refine hK3 _ _ ?_
      clear hK3 K3
      try simp only [Act.put, List.setIfInBounds_toArray, List.set_cons_succ, List.set_cons_zero]
      iterate 1 (refine wpList_plain rfl fun K hK => ?_; go_big_op; refine hK _ _ ?_; clear hK K)
      refine wpList_plain rfl fun K5 hK5 => wp_of_step (stepAt_mono (fun v23 w23 hh => ?_) (step_mkf0 (.func 27) [] [.tmp 2] rfl rfl rfl))
      obtain ⟨rfl, rfl⟩ := hh
      refine hK5 _ _ ?_
      clear hK5 K5
      try simp only [Act.put, List.setIfInBounds_toArray, List.set_cons_succ, List.set_cons_zero]
      refine wpList_plain rfl fun K6 hK6 => wp_of_step (stepAt_mono (fun v24 w24 hh => ?_) (step_call (R := fun v W2 => ∃ g, v = .slice (some ⟨g, 0, none⟩) 16 16 ∧ w23.heap.size ≤ g ∧ Blk W2 g 37 (u64c (colZ 4 4 s)).toArray ∧ Below w23.heap.size w23 W2) en_attestor_reading_column (HCOL.out.mono fun r W2 ⟨g, h1, h2⟩ => ⟨_, h1, g, rfl, h2⟩) rfl rfl))
      obtain ⟨g24, rfl, hg24, b24, B24⟩ := hh
      refine hK6 _ _ ?_
      clear hK6 K6
      try simp only [Act.put, List.setIfInBounds_toArray, List.set_cons_succ, List.set_cons_zero]
      have o1a := own_below HO1.out (Nat.le_refl _) B24
      have o2a := (HO2.out.mono fun u b ⟨g, q1, q2, q3⟩ => (⟨g, q1, q2, q3.keep B24⟩ : ∃ g, u = Value.slice (some ⟨g, 0, none⟩) b.length b.length ∧ b.length ≤ 1000 ∧ Blk w24 g 37 (u64c b).toArray))
      have b2y := b2.keep B24
      refine wpList_plain rfl fun K7 hK7 => wp_of_step (stepAt_mono (fun v25 w25 hh => ?_) (step_lit1 (cs := #[.slice (some ⟨g24, 0, none⟩) 16 16]) uss_slice hiB iB0 iB1 (by decide) (by decide) rfl rfl rfl))
      obtain ⟨⟨rfl, hl25, b25⟩, B25⟩ := hh
      refine hK7 _ _ ?_
      clear hK7 K7
      try simp only [Act.put, List.setIfInBounds_toArray, List.set_cons_succ, List.set_cons_zero]
      have o1 := own_below o1a (Nat.le_refl _) B25
      have o2 := (o2a.mono fun u b ⟨g, q1, q2, q3⟩ => (⟨g, q1, q2, q3.keep B25⟩ : ∃ g, u = Value.slice (some ⟨g, 0, none⟩) b.length b.length ∧ b.length ≤ 1000 ∧ Blk w25 g 37 (u64c b).toArray))
      have be2 := b24.keep B25
      have b2x := b2y.keep B25
      have hB24 := B24.size
      have hB25 := B25.size
      have hszz := HX2.out.size
      have hszb := HB.out.size
      have hBq2 : Below N X w25 := HB.out.trans (((B24.mono (by omega)) : Below N w23 w24).trans (B25.mono (by omega)))
      clear o1a o2a b24 b2y B24 B25
      refine wpList_app3 (u := .slice A7 4 c7) (base := N) (n := w24.heap.size) (cl := [.slice (some ⟨g24, 0, none⟩) 16 16]) (cs := vs) rfl (.tmp 28) (.tmp 33) rfl uss_slice hiB iB0 iB1 iB2 rfl (by decide) rfl (fun v hv => by rw [List.mem_singleton.1 hv]; rfl) rfl rfl o1 b25 (by unfold maxLen; omega) (by omega) (by omega) fun v26 w26 own26 gr26 B26 hat26 => ?_
      have hlz2 := ColB.snoc (b := colZ 4 4 s) (by rw [HVI.out]; exact o1) o2 (by rw [colZ_len]; decide) be2 (by rw [HVI.out, colZ_len]; exact own26) gr26
      have hBq3 := hBq2.trans B26
      have HLF2 := Lib.hid hlz2
      have HBQ3 := Lib.hid hBq3
      clear o1 o2 be2 b25 hl25 hat26 own26 gr26 B26 hlz2 hBq2 hBq3 HO1 HO2 b2x
      try simp only [Act.put, List.setIfInBounds_toArray, List.set_cons_succ, List.set_cons_zero]
      go_wp2_with fail
      have hco := HLF2.out.coa (by rw [List.length_append, HLI.out]; simp)
      have hL : L ++ [colZ 4 4 s] = cols15 s := by rw [HLE.out]; rfl
      rw [hL] at hco
      refine bodyPost_ret (v := .tuple #[_, .int .i64 0]) (by simp [results, Tryz.results6, go_sem]) rfl ⟨_, rfl, hco, HX2.out.trans (HBQ3.out.mono (by omega))⟩
    obtain ⟨fn, m, hfh⟩ := fldH_ex c hc4
    have hix := run_ixF c hc4 wr
    rw [hfh.1] at hix
    have hfh1 := hfh.1
    have HFH := Lib.hid hfh
    obtain ⟨ie, hie, hie0, hie2⟩ := fe_parts
    have HO1 := Lib.hid o1
    have HO2 := Lib.hid o2
    have HVI := Lib.hid hvi
    unfold fldC at *
    clear hfh o1 o2 hvi hB
    go_upto_region 7 with (fail)
    refine wp_region_lit ?_
    iterate 1 (refine wpList_plain rfl fun K hK => ?_; go_big_op; refine hK _ _ ?_; clear hK K)
    refine wpList_plain rfl fun K10 hK10 => wp_of_step (stepAt_mono (fun v9 w9 hh => ?_) (step_new0 hie hie0 rfl))
    obtain ⟨rfl, rfl⟩ := hh
    refine hK10 _ _ ?_
    clear hK10 K10
    try simp only [Act.put, List.setIfInBounds_toArray, List.set_cons_succ, List.set_cons_zero]
    have b9 : Blk (wr.alloc (.cells (Value.agg #[.nilFunc, .int .i64 0]).cells 84)) wr.heap.size 84 #[.nilFunc, .int .i64 0] := World.alloc_heap_new wr _
    have B9 := (Below.refl _ wr).alloc (Nat.le_refl _) (.cells (Value.agg #[.nilFunc, .int .i64 0]).cells 84)
    generalize wr.alloc (.cells (Value.agg #[.nilFunc, .int .i64 0]).cells 84) = w9 at *
    refine wpList_put rfl 84 (.tmp 9) (.tmp 19) rfl rfl (cells := [.func (.func fn) #[] #[], .int .i64 m]) rfl b9 (by simp) (by simp [hie, hie2]) rfl (spl_all _ _ rfl) fun Y hY bY => ?_
    have BY : Below wr.heap.size wr Y := below_put B9 hY (Nat.le_refl _)
    have hNw : N ≤ wr.heap.size := by have := HB.out.size; omega
    replace b2 := b2.keep BY
    replace HO1 := Lib.hid (own_below HO1.out (Nat.le_refl _) BY)
    replace HO2 := Lib.hid ((HO2.out.mono fun u b ⟨g, q1, q2, q3⟩ => (⟨g, q1, q2, q3.keep BY⟩ : ∃ g, u = Value.slice (some ⟨g, 0, none⟩) b.length b.length ∧ b.length ≤ 1000 ∧ Blk Y g 37 (u64c b).toArray)))
    replace HB := Lib.hid (HB.out.trans (BY.mono hNw))
    obtain ⟨g9, hg9⟩ : ∃ g, g = wr.heap.size := ⟨_, rfl⟩
    rw [← hg9] at bY ⊢
    rw [← hfh1] at bY
    have hbY := bY
    clear b9 B9 hY BY hNw bY hix hfh1 hg9
    try simp only [Act.put, List.setIfInBounds_toArray, List.set_cons_succ, List.set_cons_zero]
    go_upto_region 8 with (fail)
    have HCOL := Lib.hid (gColumn s HSL.out ⟨.slice A1 s.length cap1, .slice A2 s.length cap2⟩ c 26 #[.pointer (some ⟨g9, 0, none⟩), .pointer (some ⟨g2, 0, none⟩)] en_reading_cA Y (by rw [← HN.out]; exact ⟨RdA.keep HX.out.1 (HX2.out.trans (HB.out.mono (by have := HX2.out.size; omega))), RdA.keep HX.out.2 (HX2.out.trans (HB.out.mono (by have := HX2.out.size; omega)))⟩) (fun k hk W hW => gColA s HR.out ⟨.slice A1 s.length cap1, .slice A2 s.length cap2⟩ c hc4 fn m HFH.out g9 g2 k hk W (hbY.keep hW) (by rw [← HN.out]; exact b2.keep hW) (by rw [← HN.out]; exact ⟨RdA.keep HX.out.1 ((HX2.out.trans (HB.out.mono (by have := HX2.out.size; omega))).trans (hW.mono (by have := HX2.out.size; have := HB.out.size; omega))), RdA.keep HX.out.2 ((HX2.out.trans (HB.out.mono (by have := HX2.out.size; omega))).trans (hW.mono (by have := HX2.out.size; have := HB.out.size; omega)))⟩)))
    unfold smc at HCOL
    dsimp only at HCOL
    rw [← HN.out] at HCOL
    clear hbY
    refine wp_region_lit ?_
    iterate 1 (refine wpList_plain rfl fun K hK => ?_; go_big_op; refine hK _ _ ?_; clear hK K)
    refine wpList_plain rfl fun K14 hK14 => wp_of_step (stepAt_mono (fun v21 w21 hh => ?_) (step_loadR0 (cs := [.slice A1 n cap1, .slice A2 n cap2]) strm_under rfl strm_size rfl rfl (blk_range b2)))
    obtain ⟨rfl, rfl⟩ := hh
    refine hK14 _ _ ?_
    clear hK14 K14
    try simp only [Act.put, List.setIfInBounds_toArray, List.set_cons_succ, List.set_cons_zero]
    iterate 1 (refine wpList_plain rfl fun K hK => ?_; go_big_op; refine hK _ _ ?_; clear hK K)
    refine wpList_plain rfl fun K16 hK16 => wp_of_step (stepAt_mono (fun v23 w23 hh => ?_) (step_mkf0 (.func 26) [] [.tmp 9, .tmp 2] rfl rfl rfl))
    obtain ⟨rfl, rfl⟩ := hh
    refine hK16 _ _ ?_
    clear hK16 K16
    try simp only [Act.put, List.setIfInBounds_toArray, List.set_cons_succ, List.set_cons_zero]
    refine wpList_plain rfl fun K17 hK17 => wp_of_step (stepAt_mono (fun v24 w24 hh => ?_) (step_call (R := fun v W2 => ∃ g, v = .slice (some ⟨g, 0, none⟩) 16 16 ∧ w23.heap.size ≤ g ∧ Blk W2 g 37 (u64c (colZ c 4 s)).toArray ∧ Below w23.heap.size w23 W2) en_attestor_reading_column (HCOL.out.mono fun r W2 ⟨g, h1, h2⟩ => ⟨_, h1, g, rfl, h2⟩) rfl rfl))
    obtain ⟨g24, rfl, hg24, b24, B24⟩ := hh
    refine hK17 _ _ ?_
    clear hK17 K17
    try simp only [Act.put, List.setIfInBounds_toArray, List.set_cons_succ, List.set_cons_zero]
    have o1a := own_below HO1.out (Nat.le_refl _) B24
    have o2a := (HO2.out.mono fun u b ⟨g, q1, q2, q3⟩ => (⟨g, q1, q2, q3.keep B24⟩ : ∃ g, u = Value.slice (some ⟨g, 0, none⟩) b.length b.length ∧ b.length ≤ 1000 ∧ Blk w24 g 37 (u64c b).toArray))
    have b2y := b2.keep B24
    refine wpList_plain rfl fun K18 hK18 => wp_of_step (stepAt_mono (fun v25 w25 hh => ?_) (step_lit1 (cs := #[.slice (some ⟨g24, 0, none⟩) 16 16]) uss_slice hiB iB0 iB1 (by decide) (by decide) rfl rfl rfl))
    obtain ⟨⟨rfl, hl25, b25⟩, B25⟩ := hh
    refine hK18 _ _ ?_
    clear hK18 K18
    try simp only [Act.put, List.setIfInBounds_toArray, List.set_cons_succ, List.set_cons_zero]
    have o1 := own_below o1a (Nat.le_refl _) B25
    have o2 := (o2a.mono fun u b ⟨g, q1, q2, q3⟩ => (⟨g, q1, q2, q3.keep B25⟩ : ∃ g, u = Value.slice (some ⟨g, 0, none⟩) b.length b.length ∧ b.length ≤ 1000 ∧ Blk w25 g 37 (u64c b).toArray))
    have be2 := b24.keep B25
    have b2x := b2y.keep B25
    have hB24 := B24.size
    have hB25 := B25.size
    have hszz := HX2.out.size
    have hszb := HB.out.size
    have hBq2 : Below N X w25 := HB.out.trans (((B24.mono (by omega)) : Below N w23 w24).trans (B25.mono (by omega)))
    clear o1a o2a b24 b2y B24 B25
    refine wpList_app3 (u := .slice A7 c c7) (base := N) (n := w24.heap.size) (cl := [.slice (some ⟨g24, 0, none⟩) 16 16]) (cs := vs) rfl (.tmp 20) (.tmp 25) rfl uss_slice hiB iB0 iB1 iB2 rfl (by decide) rfl (fun v hv => by rw [List.mem_singleton.1 hv]; rfl) rfl rfl o1 b25 (by unfold maxLen; omega) (by omega) (by omega) fun v26 w26 own26 gr26 B26 hat26 => ?_
    have hlz2 := ColB.snoc (b := colZ c 4 s) (by rw [HVI.out]; exact o1) o2 (by rw [colZ_len]; decide) be2 (by rw [HVI.out, colZ_len]; exact own26) gr26
    have hBq3 := hBq2.trans B26
    have HLF2 := Lib.hid hlz2
    have HBQ3 := Lib.hid hBq3
    clear o1 o2 be2 b25 hl25 hat26 own26 gr26 B26 hlz2 hBq2 hBq3 HO1 HO2 b2x
    try simp only [Act.put, List.setIfInBounds_toArray, List.set_cons_succ, List.set_cons_zero]
    go_wp2_with fail
    exact ⟨⟨c + 1, _, by omega, by go_num, HLF2.out, Lib.hid (by rw [List.length_append, HLI.out]; rfl), Lib.hid (by rw [HLE.out, List.range_succ, List.map_append]; rfl), HBQ3.out⟩, by simp [intOf]; omega⟩
end Go.Proofs.YtficeebbbkmhcaaGreatDoor
namespace Go.Proofs.YtficeebbbkmhcaaGreatDoor

theorem AllLen.pos {tabs : List (List E)} {r : E} (h0 : 0 < tabs.length) : 0 < (bndE tabs r).length := by rw [bndE_length]; exact h0
theorem rnd_sum (tabs : List (List E)) (ps : List Trm) (n : Nat) (h : AllLen tabs (2 * n)) (h0 : 0 < tabs.length) : (rndE tabs ps).getD 0 0 + (rndE tabs ps).getD 1 0 = totE tabs ps := by
  have hd := degE_pos ps
  rw [rndE_get tabs ps 0 (by omega), rndE_get tabs ps 1 (by omega), nodeE_zero, nodeE_one]
  exact tot_ends tabs ps n h h0
theorem tot_one (tabs : List (List E)) (ps : List Trm) (h : AllLen tabs 1) (h0 : 0 < tabs.length) : totE tabs ps = finE (valL (prvV tabs [])) ps := by
  have hl : lenT tabs = 1 := h.lenT h0
  unfold totE
  rw [hl, totK_succ]
  show 0 + finE (valT tabs 0) ps = _
  rw [E.zero_add]
  congr 1
  funext k
  show (tabs.getD k []).getD 0 0 = (tabs.map fun t => t.getD 0 0).getD k 0
  by_cases hk : k < tabs.length
  · simp [List.getD, hk]
  · simp [List.getD, hk]
theorem steps_tot (ps : List Trm) (h3 : degE ps ≤ 3) : ∀ (coins : List E) (tabs : List (List E)), AllLen tabs (2 ^ coins.length) → 0 < tabs.length →
    ∃ xs : List (E × Int), stepsL (degE ps) (totE tabs ps) (prvR tabs ps coins) coins = xs ∧ lastS (totE tabs ps) xs = (finE (valL (prvV tabs coins)) ps, 0)
  | [], tabs, h, h0 => ⟨[], rfl, by
    show (totE tabs ps, (0 : Int)) = _
    rw [tot_one tabs ps h h0]⟩
  | c :: cs, tabs, h, h0 => by
    have h' : AllLen tabs (2 * 2 ^ cs.length) := by rw [← Nat.pow_succ']; exact h
    obtain ⟨xs, h1, h2⟩ := steps_tot ps h3 cs (bndE tabs c) (h'.bnd c) (AllLen.pos h0)
    refine ⟨(totE (bndE tabs c) ps, 0) :: xs, ?_, ?_⟩
    · show stepsL (degE ps) (totE tabs ps) (rndE tabs ps :: prvR (bndE tabs c) ps cs) (c :: cs) = _
      rw [stepsL, rndE_length, if_neg (fun h => h rfl), if_neg (fun h => h (rnd_sum tabs ps _ h' h0)), rnd_at tabs ps _ h' h0 h3 c, h1]
    · exact h2
theorem vrf_complete (tabs : List (List E)) (ps : List Trm) (coins : List E) (h : AllLen tabs (2 ^ coins.length)) (h0 : 0 < tabs.length) (h3 : degE ps ≤ 3) :
    vrfE (degE ps : Int) (totE tabs ps) (prvR tabs ps coins) coins = (finE (valL (prvV tabs coins)) ps, 0) := by
  have hd := degE_pos ps
  obtain ⟨xs, h1, h2⟩ := steps_tot ps h3 coins tabs h h0
  unfold vrfE
  rw [if_neg (by rw [prvR_length]; omega), Int.toNat_natCast, h1, h2]
theorem headD_getD (l : List E) : l.headD 0 = l.getD 0 0 := by cases l <;> rfl
theorem bndAll_map : ∀ (coins : List E) (tabs : List (List E)), bndAll tabs coins = tabs.map fun t => evalL t coins
  | [], tabs => by show tabs = tabs.map fun t => t; simp
  | c :: cs, tabs => by
    show bndAll (bndE tabs c) cs = _
    rw [bndAll_map cs, bndE, List.map_map]
    rfl
theorem prvV_mev (tabs : List (List E)) (coins : List E) : prvV tabs coins = tabs.map fun t => mev t coins := by
  unfold prvV mev
  rw [bndAll_map, List.map_map]
  apply List.map_congr_left
  intro t _
  exact (headD_getD _).symm
end Go.Proofs.YtficeebbbkmhcaaGreatDoor
namespace Go.Proofs.YtficeebbbkmhcaaGreatDoor
open Go.RowKit

def mdK (l : List Raw) (k : Nat) : List E := (List.range k).map (madeAt l)
theorem mdK_succ (l : List Raw) (k : Nat) : mdK l (k + 1) = mdK l k ++ [madeAt l k] := by simp [mdK, List.range_succ]
set_option maxRecDepth 100000 in
set_option maxHeartbeats 1000000 in
theorem xMade3O (l : List Raw) (n : Nat) (hn : n ≤ 1000000) (v : Value) (lo hi : Nat) (w : World) (hl : RawS lo hi w v l) :
    Calls Tryz.prog 38 #[v, .int .i64 n] w (RetR (fun lo _ v w => w.ownsRow lo 39 2 v (min l.length n) ((mdK l (min l.length n)).flatMap ec)) w) := by
  obtain ⟨A, cap, rfl⟩ := hl.1.len
  have hlen := hl.1.2.1
  obtain ⟨i0, hi0, hz0, hz1, hz2⟩ := info_parts ext_info
  go_enter Tryz.func38, Tryz.ntmps38
  go_wp2
  go_loopw [5, 6] (fun v i wr => ∃ k : Nat, k ≤ l.length ∧ k ≤ n ∧ i = .int .i64 k ∧ wr.ownsRow w.heap.size 39 2 v k ((mdK l k).flatMap ec) ∧ Below w.heap.size w wr) (fun _ i _ => n - (intOf i).toNat)
  case atStart => exact ⟨0, Nat.zero_le _, Nat.zero_le _, rfl, ⟨by simp [mdK], .inr ⟨w.heap.size, 0, #[], rfl, Nat.le_refl _, World.alloc_heap_new w _, Nat.le_refl _, Nat.zero_le _, rfl, by simp [mdK]⟩⟩, (Below.refl _ _).alloc (Nat.le_refl _) _⟩
  case round =>
    obtain ⟨k, hk1, hk2, rfl, hown, hB⟩ := hrel
    by_cases hkl : k < l.length
    · by_cases hlt : k < n
      · obtain ⟨g, off, cap', hv, q1, q2, q3, q4, q5⟩ := raws_cells hl (by omega)
        cases hv
        obtain ⟨p, hp⟩ : ∃ p, l[k]? = some p := ⟨l[k], List.getElem?_eq_getElem hkl⟩
        obtain ⟨d1, d2⟩ := q5 k p hp
        obtain ⟨⟨p1, p2⟩, p3, p4⟩ := hl.2 p (List.mem_of_getElem? hp)
        have d3 := (hB.cell (p := ⟨g, off + k * 2, none⟩) q4).trans d1
        have d4 := (hB.cell (p := ⟨g, off + k * 2 + 1, none⟩) q4).trans d2
        have q6 : g < wr.heap.size := Nat.lt_of_lt_of_le q4 hB.size
        have HP := Lib.hid hp
        clear q5 d1 d2 hl hp
        go_wp2_with fail
        refine (xMade p.1 p.2 p1 p2 p3 p4 _).mono ?_
        rintro e w2 ⟨he, hb⟩
        unfold ev at he
        subst he
        go_wp2_with (at_builtin; refine wpList_app1 rfl _ _ rfl Tryz.underlying23 hi0 hz0 hz1 hz2 rfl (by decide) (cl := ec (em p.1 p.2)) rfl (ec_one _) rfl rfl (own_below hown (Nat.le_refl _) ?hX) ?hsrc ?h63 ?hby ?hbase ?_)
        case hX => exact hb.alloc hb.size _
        case hsrc => exact Blk.new_at _ _ _ (by simp)
        case h63 => unfold maxLen; omega
        case hby => omega
        case hbase => have := hB.size; have := hb.size; simp; omega
        intro v1 w3 hown3 hgrow hB3
        have hm : madeAt l k = em p.1 p.2 := by unfold madeAt; rw [HP.out]
        have hf : (mdK l (k + 1)).flatMap ec = (mdK l k).flatMap ec ++ ec (em p.1 p.2) := by rw [mdK_succ, List.flatMap_append, hm]; simp
        have HF := Lib.hid hf
        clear hm hf
        go_wp2
        exact ⟨⟨k + 1, by omega, by omega, by go_num, by rw [HF.out]; exact hown3, (hB.trans ((hb.alloc hb.size _).mono hB.size)).trans hB3⟩, by simp [intOf]; omega⟩
      · obtain rfl : k = n := by omega
        have hmn : min l.length k = k := by omega
        go_wp2
        go_ret
        exact ⟨_, rfl, by rw [hmn]; exact hown, hB⟩
    · obtain rfl : k = l.length := by omega
      have hmn : min l.length n = l.length := by omega
      go_wp2
      go_ret
      exact ⟨_, rfl, by rw [hmn]; exact hown, hB⟩
theorem mdK_made (l : List Raw) (n : Nat) : ∀ j, (mdK l (min l.length n)) ++ List.replicate j 0 = (List.range (min l.length n + j)).map (fun i => if i < min l.length n then madeAt l i else 0)
  | 0 => by
    rw [List.replicate_zero, List.append_nil, Nat.add_zero]
    exact List.map_congr_left fun i hi => (if_pos (List.mem_range.1 hi)).symm
  | j + 1 => by
    rw [List.replicate_succ', ← List.append_assoc, mdK_made l n j, ← Nat.add_assoc, List.range_succ, List.map_append]
    congr 1
    show [0] = [if min l.length n + j < min l.length n then madeAt l (min l.length n + j) else 0]
    rw [if_neg (by omega)]
def lenV : Value → Nat
  | .slice _ n _ => n
  | _ => 0
theorem own_len {w : World} {base n size : Nat} {e : TypeId} {v : Value} {xs : List Value} (h : w.ownsRow base e size v n xs) : ∃ A c, v = .slice A n c := by
  rcases h.2 with ⟨rfl, rfl⟩ | ⟨g, cap, cur, rfl, _⟩
  · exact ⟨_, _, rfl⟩
  · exact ⟨_, _, rfl⟩
theorem mdK_all (l : List Raw) (n : Nat) : (mdK l (min l.length n)) ++ List.replicate (n - min l.length n) 0 = madeAll l n := by
  rw [mdK_made, show min l.length n + (n - min l.length n) = n by omega]
  unfold madeAll
  apply List.map_congr_left
  intro i hi
  have := List.mem_range.1 hi
  by_cases h : i < min l.length n
  · rw [if_pos h]
  · rw [if_neg h]
    unfold madeAt
    rw [List.getElem?_eq_none (by omega)]
set_option maxRecDepth 100000 in
set_option maxHeartbeats 1000000 in
theorem xExactO (l : List Raw) (n : Nat) (hn : n ≤ 1000000) (v : Value) (lo hi : Nat) (w : World) (hl : RawS lo hi w v l) :
    Calls Tryz.prog 12 #[v, .int .i64 n] w (RetR (fun lo _ v w => w.ownsRow lo 39 2 v n ((madeAll l n).flatMap ec)) w) := by
  obtain ⟨i0, hi0, hz0, hz1, hz2⟩ := info_parts ext_info
  have HM := Lib.hid (xMade3O l n hn v lo hi w hl)
  go_enter Tryz.func12, Tryz.ntmps12
  go_wp2_with fail
  refine HM.out.mono ?_
  rintro e w1 ⟨v1, rfl, ho, hb⟩
  obtain ⟨m, hm⟩ : ∃ m, m = min l.length n := ⟨_, rfl⟩
  have hmn : m ≤ n := by omega
  rw [← hm] at ho
  have HA := Lib.hid (mdK_all l n)
  rw [← hm] at HA
  clear hm
  go_wp2
  go_loopw [5] (fun v wr => ∃ k : Nat, m ≤ k ∧ k ≤ n ∧ wr.ownsRow w.heap.size 39 2 v k ((mdK l m ++ List.replicate (k - m) 0).flatMap ec) ∧ Below w.heap.size w wr) (fun v _ => n - lenV v)
  case atStart => exact ⟨m, Nat.le_refl _, hmn, by rw [Nat.sub_self, List.replicate_zero, List.append_nil]; exact ho, hb⟩
  case round =>
    obtain ⟨k, hk1, hk2, hown, hB⟩ := hrel
    obtain ⟨A, c, rfl⟩ := own_len hown
    obtain ⟨row, hrow⟩ : ∃ row, row = (mdK l m ++ List.replicate (k - m) 0).flatMap ec := ⟨_, rfl⟩
    rw [← hrow] at hown
    by_cases hlt : k < n
    · have hf : (mdK l m ++ List.replicate (k + 1 - m) 0).flatMap ec = row ++ ec 0 := by
        rw [hrow, show k + 1 - m = (k - m) + 1 by omega, List.replicate_succ', ← List.append_assoc, List.flatMap_append]; simp
      have HF := Lib.hid hf
      clear hf hrow
      go_wp2_with (at_builtin; refine wpList_app1 rfl _ _ rfl Tryz.underlying23 hi0 hz0 hz1 hz2 rfl (by decide) (cl := ec 0) rfl (ec_one _) rfl rfl (own_below hown (Nat.le_refl _) ?hX) ?hsrc ?h63 ?hby ?hbase ?_)
      case hX => exact (Below.refl _ _).alloc (by simp) _
      case hsrc => exact Blk.new_at _ _ _ (by simp)
      case h63 => unfold maxLen; omega
      case hby => omega
      case hbase => have := hB.size; simp; omega
      intro v1 w3 hown3 hgrow hB3
      obtain ⟨A', c', hv⟩ := own_len hown3
      subst hv
      go_wp2
      exact ⟨⟨k + 1, by omega, by omega, by rw [HF.out]; exact hown3, (hB.trans (((Below.refl _ _).alloc (by simp) _).mono hB.size)).trans hB3⟩, by simp [lenV]; omega⟩
    · obtain rfl : k = n := by omega
      go_wp2
      go_ret
      exact ⟨_, rfl, by rw [← HA.out, ← hrow]; exact hown, hB⟩
theorem xExact (l : List Raw) (n : Nat) (hn : n ≤ 1000000) (v : Value) (lo hi : Nat) (w : World) (hl : RawS lo hi w v l) :
    Calls Tryz.prog 12 #[v, .int .i64 n] w (RetR (ExtA (madeAll l n)) w) :=
  (xExactO l n hn v lo hi w hl).mono fun e w' ⟨v, h1, h2, h3⟩ => ⟨v, h1, exts_of_own h2 (madeAll_length _ _) (by omega) (Nat.le_refl _), h3⟩
end Go.Proofs.YtficeebbbkmhcaaGreatDoor
namespace Go.Proofs.YtficeebbbkmhcaaGreatDoor
open Go.RowKit

theorem rd_blkT15 {W : World} {g size : Nat} {t : TypeId} {cs : List Value} {n lo hi : Nat} (h : Blk W g t cs.toArray) (hn : cs.length = n * size) (hb : n ≤ 1000000) (hlo : lo ≤ g) (hhi : g < hi) : Rd lo hi size W (.slice (some ⟨g, 0, none⟩) n n) n cs := by
  refine ⟨hn, by omega, some ⟨g, 0, none⟩, n, rfl, Nat.le_refl _, fun _ => ⟨g, 0, rfl, hlo, hhi, h.lt, fun j u hu => ?_⟩⟩
  rw [Nat.zero_add, h.cell]
  simpa using hu
theorem CoA.at15 {w : World} {v : Value} {zss : List (List Int)} (h : CoA w v zss) (h0 : 0 < zss.length) : ∃ g off cap, v = .slice (some ⟨g, off, none⟩) zss.length cap ∧ zss.length ≤ cap ∧ g < w.heap.size ∧ ∀ k zs, zss[k]? = some zs → ∃ A c, w.cell? ⟨g, off + k, none⟩ = some (.slice A zs.length c) ∧ RdA 1 w (.slice A zs.length c) zs.length (u64c zs) := by
  obtain ⟨vs, h1, h2⟩ := h
  obtain ⟨g, off, cap, q1, q2, q3, q4⟩ := RdA.form h1 (by rw [h2.1]; exact h0)
  refine ⟨g, off, cap, by rw [q1, h2.1], by rw [← h2.1]; exact q2, q3, fun k zs hk => ?_⟩
  obtain ⟨u, hu⟩ : ∃ u, vs[k]? = some u := ⟨_, List.getElem?_eq_getElem (by rw [h2.1]; exact (List.getElem?_eq_some_iff.1 hk).1)⟩
  have hr := h2.2 k u zs hu hk
  obtain ⟨A, c, rfl⟩ := Rd.len hr
  exact ⟨A, c, q4 k _ hu, hr⟩
theorem deg01 : degE trm01 = 2 := rfl
theorem fin15 (a b : E) : finE (valL [a, b]) trm01 = a * b := by
  rw [fin01]
  rfl
theorem sumF_R (c : Nat) (l : List Rdg) : sumF (fun _ => true) (fldR c) l = sumR c l := by
  unfold sumF sumR
  simp
theorem sum15 {X : World} {gt gi gp : Nat} {ty1 ty2 ty3 : TypeId} {u0 u1 : Value} {t0 t1 : List E} (bt : Blk X gt ty1 #[u0, u1]) (bi : Blk X gi ty2 #[.int .i64 0, .int .i64 1]) (bp : Blk X gp ty3 #[.int .u64 (fv (1 : E).a), .int .u64 (fv (1 : E).b), .slice (some ⟨gi, 0, none⟩) 2 2]) (h0 : ExtS 0 X.heap.size X u0 t0) (h1 : ExtS 0 X.heap.size X u1 t1) :
    SumS 0 X.heap.size X (.slice (some ⟨gt, 0, none⟩) 2 2) (.slice (some ⟨gp, 0, none⟩) 1 1) [t0, t1] trm01 := by
  refine ⟨⟨[u0, u1], rfl, rd_blkT15 (cs := [u0, u1]) bt rfl (by decide) (Nat.zero_le _) bt.lt, fun k u t hu ht => ?_⟩, ⟨[.slice (some ⟨gi, 0, none⟩) 2 2], rfl, rd_blkT15 (cs := [.int .u64 (fv (1 : E).a), .int .u64 (fv (1 : E).b), .slice (some ⟨gi, 0, none⟩) 2 2]) bp rfl (by decide) (Nat.zero_le _) bp.lt, fun k u p hu hp => ?_⟩, fun p hp k hk => ?_, by decide, fun p hp => ?_⟩
  · match k, hu, ht with
    | 0, hu, ht => cases hu; cases ht; exact h0
    | 1, hu, ht => cases hu; cases ht; exact h1
    | _ + 2, hu, _ => cases hu
  · match k, hu, hp with
    | 0, hu, hp => cases hu; cases hp; exact rd_blkT15 (n := 2) (cs := [.int .i64 0, .int .i64 1]) bi rfl (by decide) (Nat.zero_le _) bi.lt
    | _ + 1, hu, _ => cases hu
  · rw [List.mem_singleton.1 hp] at hk
    show k < 2
    simp at hk
    omega
  · rw [List.mem_singleton.1 hp]
    exact (by decide : 2 ≤ 1000)
end Go.Proofs.YtficeebbbkmhcaaGreatDoor
namespace Go.Proofs.YtficeebbbkmhcaaGreatDoor
open Go.RowKit

theorem cols15_get (s : Stm) (k : Nat) (h : k < 5) : (cols15 s)[k]? = some (colZ k 4 s) := by
  unfold cols15
  rw [List.getElem?_map, List.getElem?_range h]
  rfl
theorem lift15 (s : Stm) (hr : ∀ x ∈ s, x.1.ok) (k : Nat) (A : Option Addr) (c : Nat) (W : World) (h : RdA 1 W (.slice A 16 c) 16 (u64c (colZ k 4 s))) : Calls Tryz.prog 7 #[.slice A 16 c] W (RetR (ExtA (colM k 4 s)) W) := by
  have hz : (colZ k 4 s).length = 16 := colZ_len k 4 s
  have := gLift (colZ k 4 s) (by rw [hz]; decide) (.slice A 16 c) 0 W.heap.size W (by rw [hz]; exact h) (colZ_rng k 4 s hr)
  rwa [lft_col] at this
set_option maxRecDepth 100000 in
set_option maxHeartbeats 8000000 in
theorem wkTopTotals (l : List Op15) (hl : l.length ≤ 140737488355327) (ho : ∀ o ∈ l, o.ok) (vO : Value) (col : Nat) (hcol : col < 256) (cr : List Raw) (vC : Value) (w : World) (hO : RdA 4 w vO l.length (l.flatMap opc15)) (hC : RawS 0 w.heap.size w vC cr) (hL : Lwd w) : Calls Tryz.prog 3 #[vO, .int .u8 (col : Int), vC] w (Ret (.bool true) w) := by
  obtain ⟨AO, cO, rfl⟩ := Rd.len hO
  obtain ⟨AC, cC, rfl⟩ := Rd.len hC.1
  obtain ⟨nl, hnl⟩ : ∃ n, n = l.length := ⟨_, rfl⟩
  obtain ⟨nc, hnc⟩ : ∃ n, n = cr.length := ⟨_, rfl⟩
  obtain ⟨k, hk⟩ : ∃ k, k = col % 4 := ⟨_, rfl⟩
  have hk4 : k < 4 := by omega
  have hrem1 : Int.tmod (col : Int) 4 = (k : Int) := by rw [hk]; rfl
  have hrem2 : (col : Int) % 4 = (k : Int) := by omega
  have HS := Lib.hid (lSanity15 w hL)
  have HM := Lib.hid (fun W (hW : Below w.heap.size w W) => gMade12 l hl ho (.slice AO l.length cO) W (RdA.keep hO hW))
  have HOK := Lib.hid (stL15_ok l ho)
  have HCO := Lib.hid (show ∀ W, Below w.heap.size w W → Calls Tryz.prog 12 #[.slice AC cr.length cC, .int .i64 4] W (RetR (ExtA (madeAll cr 4)) W) from fun W hW => xExact cr 4 (by decide) (.slice AC cr.length cC) 0 w.heap.size W ⟨Rd.keep hC.1 hW, hC.2⟩)
  rw [← hnl, ← hnc] at *
  clear hO hC hL hnl hnc hk ho hl
  go_enter Tryz.func3, Tryz.ntmps3
  go_wp2_with fail
  refine HS.out.mono ?_
  rintro e w1 ⟨rfl, hB1⟩
  go_wp2_with fail
  refine (HM.out w1 hB1).mono ?_
  rintro e w2 ⟨x, rfl, hx, hb2⟩
  have hB2 := hB1.trans (hb2.mono hB1.size)
  obtain ⟨s, hs⟩ : ∃ s, s = stL15 l := ⟨_, rfl⟩
  rw [← hs] at hx HOK
  have hx2 : StrIn w2 x s := hx.old (Bse.ok_self _)
  obtain ⟨x1, x2⟩ := x
  obtain ⟨A1, cap1, hv1⟩ := Rd.len hx2.1
  obtain ⟨A2, cap2, hv2⟩ := Rd.len hx2.2
  dsimp only at hv1 hv2
  subst hv1
  subst hv2
  have HX2 := Lib.hid hx2
  have HB2 := Lib.hid hB2
  have hsl := HOK.out.1
  unfold smc
  dsimp only
  obtain ⟨n, hn⟩ : ∃ n, n = s.length := ⟨_, rfl⟩
  rw [← hn] at hsl HX2 ⊢
  have HN := Lib.hid hn
  clear hx hx2 hB1 hb2 hB2 hs HM HS hn
  go_upto_region 3 with (fail)
  refine wp_stk1 fun V hV hz b8 => ?_
  obtain ⟨g8, hg8⟩ : ∃ g, g = w2.heap.size := ⟨_, rfl⟩
  rw [← hg8] at b8 ⊢
  have HXV := Lib.hid (show StrIn V ⟨.slice A1 n cap1, .slice A2 n cap2⟩ s from ⟨RdA.keep HX2.out.1 hV, RdA.keep HX2.out.2 hV⟩)
  have HBV := Lib.hid (HB2.out.trans (hV.mono HB2.out.size))
  have HB8 := Lib.hid b8
  have c8 := b8.cell
  have l8 := b8.lt
  have hcl : ¬ ((col : Int) < 0) := by omega
  have HCOL := Lib.hid (gColsR15 s (by rw [← HN.out]; exact hsl) HOK.out.2 ⟨.slice A1 n cap1, .slice A2 n cap2⟩ V HXV.out)
  unfold smc at HCOL
  dsimp only at HCOL
  clear hV hz hg8 b8 HX2 HB2
  go_wp2_with fail
  refine HCOL.out.mono ?_
  rintro e T ⟨vc, rfl, hc, hT⟩
  obtain ⟨gc, oc, cc, hvc, hcc, lc, qc⟩ := hc.at15 (by rw [cols15_len]; decide)
  rw [cols15_len] at hvc hcc
  subst hvc
  have HQC := Lib.hid qc
  have HBT := Lib.hid (HBV.out.trans (hT.mono HBV.out.size))
  have HXT := Lib.hid (show StrIn T ⟨.slice A1 n cap1, .slice A2 n cap2⟩ s from ⟨RdA.keep HXV.out.1 hT, RdA.keep HXV.out.2 hT⟩)
  have HB8T := Lib.hid (HB8.out.keep hT)
  clear hc qc hT HCOL HXV c8 l8 HB8 HBV
  obtain ⟨Ak, ck, ek, rk⟩ := HQC.out k _ (cols15_get s k (by omega))
  obtain ⟨Al, cl, el, rl⟩ := HQC.out 4 _ (cols15_get s 4 (by decide))
  rw [show (colZ k 4 s).length = 16 from colZ_len k 4 s] at ek rk
  rw [show (colZ 4 4 s).length = 16 from colZ_len 4 4 s] at el rl
  have HRL := Lib.hid rl
  have HLK := Lib.hid (lift15 s HOK.out.2 k Ak ck T rk)
  have HEL := Lib.hid el
  have hk0 : ¬ ((k : Int) < 0) := by omega
  have hk5 : ¬ ((5 : Int) ≤ (k : Int)) := by omega
  have hk6 : (k : Int) < 5 := by omega
  clear rk rl el HQC hrem1 hrem2 hcl
  go_wp2_with fail
  refine HLK.out.mono ?_
  rintro e T2 ⟨v12, rfl, h12, hT2⟩
  replace h12 : ExtS T.heap.size T2.heap.size T2 v12 (colM k 4 s) := h12
  obtain ⟨A12, c12, hv⟩ := Rd.len h12
  rw [show (colM k 4 s).length = 16 from colM_length k 4 s] at hv
  subst hv
  have HT2 := Lib.hid hT2
  have HLL := Lib.hid (lift15 s HOK.out.2 4 Al cl T2 (RdA.keep HRL.out hT2))
  have el := (hT2.cell (p := ⟨gc, oc + 4, none⟩) lc).trans HEL.out
  have lc2 := Nat.lt_of_lt_of_le lc hT2.size
  have H12 := Lib.hid h12
  clear ek hT2 HLK HRL h12 lc HEL
  go_wp2_with fail
  refine HLL.out.mono ?_
  rintro e T3 ⟨v13, rfl, h13, hT3⟩
  replace h13 : ExtS T2.heap.size T3.heap.size T3 v13 (colM 4 4 s) := h13
  obtain ⟨A13, c13, hv⟩ := Rd.len h13
  rw [show (colM 4 4 s).length = 16 from colM_length 4 4 s] at hv
  subst hv
  have HT3 := Lib.hid (HT2.out.trans (hT3.mono HT2.out.size))
  have H13 := Lib.hid (Rd.wide h13 (Nat.zero_le _) (Nat.le_refl _))
  have H12' := Lib.hid (Rd.wide (Rd.keep H12.out hT3) (Nat.zero_le _) hT3.size)
  have HB3 := Lib.hid (HBT.out.trans (HT3.out.mono HBT.out.size))
  have HX3 := Lib.hid (show StrIn T3 ⟨.slice A1 n cap1, .slice A2 n cap2⟩ s from ⟨RdA.keep HXT.out.1 HT3.out, RdA.keep HXT.out.2 HT3.out⟩)
  have HB83 := Lib.hid (HB8T.out.keep HT3.out)
  clear el hT3 HLL h13 lc2 H12 HXT HB8T HBT HT3 HT2
  have h1l : (colM k 4 s).length = 16 := colM_length k 4 s
  have h4l : (colM 4 4 s).length = 16 := colM_length 4 4 s
  go_wp2_with fail
  refine calls_stk1 fun U hU hz bt => ?_
  obtain ⟨gt, hgt⟩ : ∃ g, g = T3.heap.size := ⟨_, rfl⟩
  rw [← hgt] at bt ⊢
  have HBT := Lib.hid bt
  have HTU := Lib.hid hU
  clear hU hz bt hgt
  refine (xOne U).mono ?_
  rintro e U2 ⟨rfl, hU2⟩
  have HBT2 := Lib.hid (HBT.out.keep hU2)
  have HTU2 := Lib.hid (HTU.out.trans (hU2.mono HTU.out.size))
  clear hU2 HBT HTU
  unfold ev
  go_upto_region 12 with (fail)
  refine wp_stk3 fun X hX hz bi bp b14 => ?_
  have HTX := Lib.hid (HTU2.out.trans (hX.mono HTU2.out.size))
  have HBTX := Lib.hid (HBT2.out.keep hX)
  clear hX hz HTU2 HBT2
  generalize U2.heap.size = gi at *
  have HSM := Lib.hid (sum15 HBTX.out bi bp (t0 := colM 4 4 s) (t1 := colM k 4 s) (Rd.wide (Rd.keep H13.out HTX.out) (Nat.zero_le _) HTX.out.size) (Rd.wide (Rd.keep H12'.out HTX.out) (Nat.zero_le _) HTX.out.size))
  obtain ⟨g14, hg14⟩ : ∃ g, g = gi + 1 + 1 := ⟨_, rfl⟩
  obtain ⟨gp, hgp⟩ : ∃ g, g = gi + 1 := ⟨_, rfl⟩
  rw [← hg14] at b14 ⊢
  rw [← hgp] at b14 HSM
  have HB14 := Lib.hid b14
  have H12X := Lib.hid (Rd.wide (Rd.keep H12'.out HTX.out) (Nat.zero_le _) HTX.out.size)
  have H13X := Lib.hid (Rd.wide (Rd.keep H13.out HTX.out) (Nat.zero_le _) HTX.out.size)
  have HBX := Lib.hid (HB3.out.trans (HTX.out.mono HB3.out.size))
  have HXX := Lib.hid (show StrIn X ⟨.slice A1 n cap1, .slice A2 n cap2⟩ s from ⟨RdA.keep HX3.out.1 HTX.out, RdA.keep HX3.out.2 HTX.out⟩)
  have b8 := HB83.out.keep HTX.out
  have HB8X := Lib.hid b8
  have c8 := b8.cell
  have l8 := b8.lt
  clear bi bp b14 hg14 hgp HTX HBTX H13 H12' HB3 HX3 HB83 b8
  go_wp2_with fail
  refine calls_stk2 fun Y hY hz be bf => ?_
  clear c8 l8
  have hfc := fun (r : Rdg) (hr : r ∈ liveR s) => fldR_rng k r (liveR_mem s HOK.out.2 r hr)
  have HEV := gEvSums 2 (k : Int) 0 (.inl rfl) 60 en_attestor_eval_contribution_2 (fun _ => true) (fldR k) (.slice (some ⟨X.heap.size + 1, 0, none⟩) 1 1) (.slice (some ⟨X.heap.size, 0, none⟩) 0 0) ⟨_, _, _, rfl⟩ s (by rw [← HN.out]; omega) ⟨.slice A1 n cap1, .slice A2 n cap2⟩ Y (RdA.of (rd_blkT15 (n := 1) (size := 1) (cs := [.slice (some ⟨X.heap.size, 0, none⟩) 0 0]) bf rfl (by decide) (Nat.zero_le _) bf.lt)) ⟨RdA.keep HXX.out.1 hY, RdA.keep HXX.out.2 hY⟩
    (fun r hr => by have := hfc r hr; omega) (fun r _ W _ => gMatch0 _ _ r W) (fun W gs hb => gContr2 gs k 0 _ W hb) (fun r hr y h0 h1 W gs bs bq hA => gAdd2 k hk4 r gs bs bq y (y + fldR k r) ⟨h0, h1⟩ (by have := hfc r hr; omega) rfl 2 0 _ W hA)
  rw [sumF_R] at HEV
  have htr := sumR_take k (liveR s) (liveR_mem s HOK.out.2) (liveR s).length (Nat.le_refl _)
  rw [List.take_length] at htr
  have hll := liveR_len s
  have htot := totLive k hk4 s (by rw [← HN.out]; exact hsl)
  obtain ⟨tot, ht⟩ : ∃ t, t = sumR k (liveR s) := ⟨_, rfl⟩
  rw [← ht] at HEV htr htot
  have HTR := Lib.hid (show 0 ≤ tot ∧ tot ≤ 4096 by have := HN.out; omega)
  have HTO := Lib.hid htot
  unfold smc at HEV
  dsimp only at HEV
  refine HEV.mono ?_
  rintro e Z ⟨gs, rfl, bs, hZ⟩
  have hYZ := hY.trans (hZ.mono hY.size)
  have HBZ := Lib.hid (HBX.out.trans (hYZ.mono HBX.out.size))
  have HSZ := Lib.hid (HSM.out.keep hYZ)
  have HB14Z := Lib.hid (HB14.out.keep hYZ)
  have H12Z := Lib.hid (Rd.keep H12X.out hYZ)
  have H13Z := Lib.hid (Rd.keep H13X.out hYZ)
  have HXS := Lib.hid (show X.heap.size ≤ Z.heap.size from hYZ.size)
  have HBS := Lib.hid bs
  clear hY hz be bf hfc HEV htr hll htot ht hZ hYZ bs HBX HSM HB14 H12X H13X HXX HB8X
  have c14 := gw_blk HB14Z.out
  have cgs := gw_blk HBS.out
  go_upto_region 13 with (fail)
  have HALL := Lib.hid (show AllLen [colM 4 4 s, colM k 4 s] (2 ^ 4) from fun t ht => by
    rcases List.mem_cons.1 ht with rfl | ht
    · exact colM_length 4 4 s
    · rw [List.mem_singleton.1 ht]; exact colM_length k 4 s)
  obtain ⟨Tv, hTv⟩ : ∃ t, t = eb (fz tot) := ⟨_, rfl⟩
  have HT := Lib.hid (show ∀ W1, Below Z.heap.size Z W1 → Calls Tryz.prog 10 #[.agg #[.slice (some ⟨gt, 0, none⟩) 2 2, .slice (some ⟨gp, 0, none⟩) 1 1]] W1 (Ret (ev Tv) W1) from fun W1 hW => by
    rw [hTv, ← HTO.out]
    exact gTotal _ (2 ^ 4) _ _ _ _ _ W1 (HSZ.out.keep hW) (Nat.succ_pos _) HALL.out (by decide))
  have HFI := Lib.hid (show ∀ W1, Calls Tryz.prog 11 #[.int .i64 tot] W1 (Ret (ev Tv) W1) from fun W1 => by
    rw [hTv]
    exact xFromInt tot (by have := HTR.out; omega) (by have := HTR.out; omega) W1)
  have HTE := Lib.hid (show totE [colM 4 4 s, colM k 4 s] trm01 = Tv by rw [hTv]; exact HTO.out)
  clear hTv
  refine wp_region_rg 12 [(5, Spec.val (.agg #[.int .u64 (fv (Tv).a), .int .u64 (fv (Tv).b)])), (9, Spec.val (.agg #[.int .u64 (fv (Tv).a), .int .u64 (fv (Tv).b)]))] (by kernel_rfl) (by kernel_rfl) (by kernel_rfl) trivial ?_
  iterate 5 (refine rg_det rfl rfl rfl (fun K hK => ?_); go_big_quiet_op; refine hK _ ?_; clear hK K)
  refine rg_val rfl rfl (fun W1 hW1 hF => step_callv en_attestor_sumcheck_Total (HT.out W1 (grw_below hW1)) rfl rfl) ?_
  intro a' ha
  simp only [Act.put, List.setIfInBounds_toArray, List.set_cons_succ, List.set_cons_zero] at ha
  subst ha
  iterate 3 (refine rg_det rfl rfl rfl (fun K hK => ?_); go_big_quiet_op; refine hK _ ?_; clear hK K)
  refine rg_val rfl rfl (fun W1 hW1 hF => step_callv en_attestor_attestorref02_FromInt (HFI.out W1) rfl rfl) ?_
  intro a' ha
  simp only [Act.put, List.setIfInBounds_toArray, List.set_cons_succ, List.set_cons_zero] at ha
  subst ha
  iterate 2 (refine rg_det rfl rfl rfl (fun K hK => ?_); go_big_quiet_op; refine hK _ ?_; clear hK K)
  refine rg_nil (fun w' hw' hF => ?_)
  obtain ⟨z, rfl⟩ := hw'
  simp only [List.drop_succ_cons, List.drop_zero]
  obtain ⟨D, hD⟩ : ∃ D, D = z.w := ⟨_, rfl⟩
  have hZD := z.h
  rw [← hD] at hZD ⊢
  have HBD := Lib.hid (HBZ.out.trans (hZD.mono HBZ.out.size))
  have HSD := Lib.hid (HSZ.out.keep hZD)
  have HB14D := Lib.hid (HB14Z.out.keep hZD)
  have H12D := Lib.hid (Rd.keep H12Z.out hZD)
  have H13D := Lib.hid (Rd.keep H13Z.out hZD)
  have HXD := Lib.hid (Nat.le_trans HXS.out hZD.size)
  have HBSD := Lib.hid (HBS.out.keep hZD)
  clear hF hD z c14 cgs HT hZD HBZ HSZ HB14Z H12Z H13Z HXS HBS HTO
  go_upto_region 15 with (fail)
  go_wp2_with fail
  refine (HCO.out D HBD.out).mono ?_
  rintro e D2 ⟨v16, rfl, h16, hD2⟩
  replace h16 : ExtS D.heap.size D2.heap.size D2 v16 (madeAll cr 4) := h16
  have hcl := madeAll_length cr 4
  obtain ⟨co, hco⟩ : ∃ co, co = madeAll cr 4 := ⟨_, rfl⟩
  rw [← hco] at h16 hcl
  obtain ⟨A16, c16, hv⟩ := Rd.len h16
  rw [hcl] at hv
  subst hv
  have HCL := Lib.hid hcl
  have HSE := Lib.hid (HSD.out.keep hD2)
  have HB14E := Lib.hid (HB14D.out.keep hD2)
  have H12E := Lib.hid (Rd.keep H12D.out hD2)
  have H13E := Lib.hid (Rd.keep H13D.out hD2)
  have HBE := Lib.hid (HBD.out.trans (hD2.mono HBD.out.size))
  have HBSE := Lib.hid (HBSD.out.keep hD2)
  have H16 := Lib.hid h16
  have c14 := HB14E.out.cell
  have l14 := HB14E.out.lt
  clear hco hcl h16 hD2 HSD HB14D H12D H13D HXD HBD HBSD HCO
  go_wp2_with fail
  refine (gProve [colM 4 4 s, colM k 4 s] trm01 co 4 HCL.out (by decide) HALL.out (Nat.succ_pos _) (by show 2 ≤ 1000; decide) _ _ _ _ _ _ _ D2 HSE.out H16.out).mono ?_
  rintro e P ⟨vR, vV, rfl, hR, hV5, hP⟩
  obtain ⟨AR, cR, hv⟩ := hR.len
  rw [prvR_length, HCL.out] at hv
  subst hv
  obtain ⟨AV, cV, hv⟩ := Rd.len hV5
  subst hv
  have hvf : vrfE 2 Tv (prvR [colM 4 4 s, colM k 4 s] trm01 co) co = (mev (colM 4 4 s) co * mev (colM k 4 s) co, 0) := by
    have h := vrf_complete [colM 4 4 s, colM k 4 s] trm01 co (by rw [HCL.out]; exact HALL.out) (Nat.succ_pos _) (by rw [deg01]; decide)
    rw [HTE.out, deg01, prvV_mev] at h
    rw [← fin15]
    exact h
  have HVF := Lib.hid (show ∀ W1, Below P.heap.size P W1 → Calls Tryz.prog 14 #[ev Tv, .slice AR 4 cR, .agg #[.slice A16 4 c16, .int .i64 2]] W1 (Ret (.tuple #[ev (mev (colM 4 4 s) co * mev (colM k 4 s) co), .int .i64 0]) W1) from fun W1 hW => by
    have h := gVerify Tv (prvR [colM 4 4 s, colM k 4 s] trm01 co) co 2 (by decide) (by rw [prvR_length, HCL.out]; decide) (.slice AR 4 cR) (.slice A16 4 c16) _ _ _ _ W1 (hR.keep hW) (Rd.keep H16.out (hP.trans (hW.mono hP.size)))
    rwa [hvf] at h)
  have HE13 := Lib.hid (show ∀ W1, Below D2.heap.size D2 W1 → Calls Tryz.prog 16 #[.slice A13 16 c13, .slice A16 4 c16] W1 (Ret (ev (mev (colM 4 4 s) co)) W1) from fun W1 hW =>
    gEval (colM 4 4 s) co (by rw [HCL.out]; exact colM_length 4 4 s) (by rw [HCL.out]; decide) _ _ _ _ _ _ W1 (Rd.keep H13E.out hW) (Rd.keep H16.out hW) hW.size)
  have HE12 := Lib.hid (show ∀ W1, Below D2.heap.size D2 W1 → Calls Tryz.prog 16 #[.slice A12 16 c12, .slice A16 4 c16] W1 (Ret (ev (mev (colM k 4 s) co)) W1) from fun W1 hW =>
    gEval (colM k 4 s) co (by rw [HCL.out]; exact colM_length k 4 s) (by rw [HCL.out]; decide) _ _ _ _ _ _ W1 (Rd.keep H12E.out hW) (Rd.keep H16.out hW) hW.size)
  have HBP := Lib.hid (HBE.out.trans (hP.mono HBE.out.size))
  have HPP := Lib.hid hP
  have bgs := HBSE.out.keep hP
  have HFP := Lib.hid (HFI.out P)
  generalize mev (colM 4 4 s) co = ya at *
  generalize mev (colM k 4 s) co = yb at *
  have cgs := bgs.cell
  have lgs := bgs.lt
  clear hvf hR hV5 hP HFI HBSE bgs c14 l14 HSE HB14E H12E H13E HBE H16 HTE HALL
  go_upto_region 17 with (fail)
  unfold ev at HFP HVF
  go_wp2_with fail
  refine HFP.out.mono ?_
  rintro e P2 ⟨rfl, hP2⟩
  have HV2 := Lib.hid (HVF.out P2 hP2)
  have HBP2 := Lib.hid (HBP.out.trans (hP2.mono HBP.out.size))
  have HPP2 := Lib.hid (HPP.out.trans (hP2.mono HPP.out.size))
  clear cgs lgs hP2 HFP HVF HBP HPP
  go_wp2_with fail
  refine HV2.out.mono ?_
  rintro e P3 ⟨rfl, hP3⟩
  have HBP3 := Lib.hid (HBP2.out.trans (hP3.mono HBP2.out.size))
  have HPP3 := Lib.hid (HPP2.out.trans (hP3.mono HPP2.out.size))
  clear hP3 HV2 HBP2 HPP2
  go_upto_region 18 with (fail)
  refine wp_stk1 fun F hF hz b19 => ?_
  have HBF := Lib.hid (HBP3.out.trans (hF.mono HBP3.out.size))
  have HPF := Lib.hid (HPP3.out.trans (hF.mono HPP3.out.size))
  have hE3 : ∀ W1, Below F.heap.size F W1 → Calls Tryz.prog 16 #[.slice A13 16 c13, .slice A16 4 c16] W1 (Ret (ev ya) W1) := fun W1 hW => HE13.out W1 (HPF.out.trans (hW.mono HPF.out.size))
  have hE2 : ∀ W1, Below F.heap.size F W1 → Calls Tryz.prog 16 #[.slice A12 16 c12, .slice A16 4 c16] W1 (Ret (ev yb) W1) := fun W1 hW => HE12.out W1 (HPF.out.trans (hW.mono HPF.out.size))
  have HG3 := Lib.hid hE3
  have HG2 := Lib.hid hE2
  have c19 := gw_blk b19
  generalize P3.heap.size = g19 at *
  obtain ⟨yc, hyc⟩ : ∃ y, y = ya * yb := ⟨_, rfl⟩
  have HM := Lib.hid (show ∀ W1, Calls Tryz.prog 15 #[ev ya, ev yb] W1 (Ret (ev yc) W1) from fun W1 => by rw [hyc]; exact xMul ya yb W1)
  rw [← hyc] at c19
  clear hE3 hE2 hF hz b19 HPP3 HBP3 HE13 HE12 hyc
  refine wp_region_rg 16 [(9, Spec.val (.agg #[.int .u64 (fv (ya).a), .int .u64 (fv (ya).b)])), (12, Spec.val (.agg #[.int .u64 (fv (yb).a), .int .u64 (fv (yb).b)])), (13, Spec.val (.agg #[.int .u64 (fv (yc).a), .int .u64 (fv (yc).b)]))] (by kernel_rfl) (by kernel_rfl) (by kernel_rfl) trivial ?_
  iterate 9 (refine rg_det rfl rfl rfl (fun K hK => ?_); go_big_quiet_op; refine hK _ ?_; clear hK K)
  refine rg_val rfl rfl (fun W1 hW1 hF => step_callv en_attestor_mle_Eval (HG3.out W1 (grw_below hW1)) rfl rfl) ?_
  intro a' ha
  simp only [Act.put, List.setIfInBounds_toArray, List.set_cons_succ, List.set_cons_zero] at ha
  subst ha
  iterate 2 (refine rg_det rfl rfl rfl (fun K hK => ?_); go_big_quiet_op; refine hK _ ?_; clear hK K)
  refine rg_val rfl rfl (fun W1 hW1 hF => step_callv en_attestor_mle_Eval (HG2.out W1 (grw_below hW1)) rfl rfl) ?_
  intro a' ha
  simp only [Act.put, List.setIfInBounds_toArray, List.set_cons_succ, List.set_cons_zero] at ha
  subst ha
  refine rg_val rfl rfl (fun W1 hW1 hF => step_callv en_attestor_attestorref02_Mul (HM.out W1) rfl rfl) ?_
  intro a' ha
  simp only [Act.put, List.setIfInBounds_toArray, List.set_cons_succ, List.set_cons_zero] at ha
  subst ha
  iterate 2 (refine rg_det rfl rfl rfl (fun K hK => ?_); go_big_quiet_op; refine hK _ ?_; clear hK K)
  refine rg_nil (fun w' hw' hF => ?_)
  obtain ⟨z, rfl⟩ := hw'
  simp only [List.drop_succ_cons, List.drop_zero]
  obtain ⟨Q, hQ⟩ : ∃ Q, Q = z.w := ⟨_, rfl⟩
  have HBQ := Lib.hid (HBF.out.trans (z.h.mono HBF.out.size))
  rw [← hQ] at HBQ ⊢
  clear hF hQ z c19
  go_wp2_with fail
  exact bodyPost_ret (v := .bool true) (by simp [results, Tryz.results3, go_sem]) rfl ⟨rfl, HBQ.out⟩
end Go.Proofs.YtficeebbbkmhcaaGreatDoor
namespace Go.Proofs.YtficeebbbkmhcaaGreatDoor
open Go.ChangeShapes Go.WideShapes Go.RowKit Go.Maps Go.WideElems

theorem okd_u8 {W : World} {n : Nat} {cs : List Value} (h : Okd Tryz.prog W n 5 cs) : ∃ x : Nat, x < 256 ∧ cs = [.int .u8 (x : Int)] := by
  obtain ⟨z, e, o⟩ := okd_int Tryz.underlying5 h
  have hz := wf_u8 o
  exact ⟨z.toNat, by omega, by rw [e, Int.toNat_of_nonneg hz.1]⟩
theorem okd_bo {W : World} {n : Nat} {cs : List Value} (h : Okd Tryz.prog W n 4 cs) : ∃ b, cs = [.bool b] := by
  cases n with
  | zero => exact h.elim
  | succ n => unfold Okd at h; rw [show Tryz.prog.underlying 4 = some .bool from by kernel_rfl] at h; exact h
set_option maxRecDepth 100000 in
theorem okd_op15 {W : World} {n : Nat} {cs : List Value} (h : Okd Tryz.prog W n 77 cs) : ∃ o : Op15, o.ok ∧ cs = opc15 o := by
  obtain ⟨h1, m, h2⟩ := okd_struct Tryz.underlying77 h
  have c1 : Tryz.prog.cellsOf 77 = 4 := by kernel_rfl
  have c6 : Tryz.prog.cellsOf 5 = 1 := by kernel_rfl
  have c2 : Tryz.prog.cellsOf 4 = 1 := by kernel_rfl
  have c3 : Tryz.prog.cellsOf 75 = 3 := by kernel_rfl
  rw [c1] at h1
  obtain ⟨a, b, c, d, rfl⟩ : ∃ a b c d, cs = [a, b, c, d] := by
    match cs, h1 with
    | [a, b, c, d], _ => exact ⟨a, b, c, d, rfl⟩
  obtain ⟨k0, k1, -⟩ := h2
  simp only [c2, c3, List.drop_zero, List.take_succ_cons, List.take_zero, List.drop_succ_cons] at k0 k1
  obtain ⟨_, q, k2⟩ := okd_array Tryz.underlying75 k0
  have j0 := k2 0 (by decide)
  have j1 := k2 1 (by decide)
  have j2 := k2 2 (by decide)
  simp only [c6, Nat.zero_mul, Nat.mul_one, List.drop_zero, List.take_succ_cons, List.take_zero, List.drop_succ_cons] at j0 j1 j2
  obtain ⟨x0, hx0, e0⟩ := okd_u8 j0
  obtain ⟨x1, hx1, e1⟩ := okd_u8 j1
  obtain ⟨x2, hx2, e2⟩ := okd_u8 j2
  obtain ⟨y, e3⟩ := okd_bo k1
  simp only [List.cons.injEq, and_true] at e0 e1 e2 e3
  subst e0; subst e1; subst e2; subst e3
  exact ⟨⟨x0, x1, x2, y⟩, ⟨hx0, hx1, hx2⟩, rfl⟩
theorem okd_ops15 {W : World} {n : Nat} {cs : List Value} (h : Okd Tryz.prog W n 22 cs) : ∃ v, cs = [v] ∧ ∃ l : List Op15, Rd 0 W.heap.size 4 W v l.length (l.flatMap opc15) ∧ ∀ o ∈ l, o.ok :=
  okd_slice opc15 Op15.ok (by decide) opc15_len Tryz.underlying22 (by kernel_rfl) (Nat.le_of_ble_eq_true (by kernel_rfl)) (fun n cs h => okd_op15 h) h
theorem gWid15 : Tryz.prog.globalNamed "attestor/typecheck.widths" = some 0 := by kernel_rfl
theorem tWid15 : (Tryz.prog.globals[0]?).map (·.type) = some 162 := by kernel_rfl
set_option maxRecDepth 100000 in
theorem lwd_of {W : World} (h : laidMetH Tryz.prog [("math/bits.deBruijn32tab", Rows.laid_math_bits_deBruijn32tab), ("math/bits.deBruijn64tab", Rows.laid_math_bits_deBruijn64tab), ("internal/strconv.uint64pow10", Rows.laid_internal_strconv_uint64pow10), ("strconv.ErrRange", Rows.laid_strconv_ErrRange), ("strconv.ErrSyntax", Rows.laid_strconv_ErrSyntax), ("attestor/typecheck.widths", Rows.laid_attestor_typecheck_widths)] W) : Lwd W := by
  rw [MakeChecks.laidMetH_plain _ _ _ (by kernel_rfl)] at h
  obtain ⟨ps, ⟨g8, t8, cs8, f8, p8, q8, hg8, ht8, hv8, hd8, ⟨g9, t9, cs9, f9, p9, q9, hg9, ht9, hv9, hd9, ⟨g0, t0, cs0, f0, p0, q0, hg0, ht0, hv0, hd0, ⟨g1, t1, cs1, f1, p1, q1, hg1, ht1, hv1, hd1, ⟨g2, t2, cs2, f2, p2, q2, hg2, ht2, hv2, hd2, ⟨g3, t3, cs3, f3, p3, q3, hg3, ht3, hv3, hd3, _, _⟩, _⟩, _⟩, _⟩, _⟩, _⟩, _, _⟩ := h
  clear hd8 hd9 hd0 hd1 hd2
  obtain rfl := Option.some.inj (gWid15.symm.trans hg3)
  obtain rfl := Option.some.inj (tWid15.symm.trans ht3)
  rcases open_map wid_map hd3 with ⟨_, hx⟩ | ⟨bm, es, clock, m, rfl, hcs, hb, _, F, hx⟩
  · cases hx
  have hx1 := congrArg Prod.fst hx
  dsimp only at hx1
  have hcell : W.cell? ⟨0, 0, none⟩ = some (.map (some bm)) := by
    have := World.var?_cell hg3 hv3 0
    rw [Array.eq_one_of_toList hcs] at this
    simpa using this
  have ho := World.ownsMap_of_fit (R := plainElem (H := Unit) Tryz.prog 3) hb F (fun x _ z hz => elemAt_plainElem_int int_und15 hz)
  rw [← hx1] at ho
  refine ⟨⟨bm, es.size, hcell, ho⟩, ?_⟩
  rcases Nat.lt_or_ge 0 W.heap.size with h1 | h1
  · exact h1
  · simp only [World.cell?] at hcell; rw [Array.getElem?_eq_none h1] at hcell; cases hcell
end Go.Proofs.YtficeebbbkmhcaaGreatDoor
