/-
  The law's play (chapter 26).
  A question of chapter 26 as the reading of the arguments gives it; what the listed variables hold.
  MeterSmall: the walk.
  The reference's Encode of a reading.
  The encoded readings of a stream, as the law builds their row.
  MeterTrees: the walk.
  The function Lift of package mle, by contract; the columns of an epoch.
  The reference's Field of a reading.
  The reference's Columns of an epoch, by contract.
-/
import Derived.Test.YtoiampgfnidfdaaGreatDoorStq26
import Derived.Test.YtoiampgfnidfdaaGreatDoorCut
import Derived.Test.YtoiampgfnidfdaaGreatDoorRo26
import Derived.Test.YtoiampgfnidfdaaGreatDoorStm26
namespace Go.Proofs.YtoiampgfnidfdaaGreatDoor
open Go.RowKit

def qc26 (seed : Dg) (v : Value) : List Value := byc seed ++ [v]
def qv26 (seed : Dg) (v : Value) : Value := .agg (qc26 seed v).toArray
theorem qc26_len (seed : Dg) (v : Value) (h : seed.length = 32) : (qc26 seed v).length = 33 := by simp [qc26, byc_length, h]
theorem q26_seed {W : World} {g : Nat} {t : TypeId} {seed : Dg} {v : Value} (b : Blk W g t (qc26 seed v).toArray) : W.rangeAt g 0 (byc seed) := fun j u hu => by
  rw [b.cell, Nat.zero_add]
  simp only [List.getElem?_toArray]
  unfold qc26
  rw [List.getElem?_append_left (List.getElem?_eq_some_iff.1 hu).1]
  exact hu
theorem q26_l {W : World} {g : Nat} {t : TypeId} {seed : Dg} {v : Value} (b : Blk W g t (qc26 seed v).toArray) (h : seed.length = 32) : W.cell? ⟨g, 32, none⟩ = some v := by
  rw [b.cell]
  simp only [List.getElem?_toArray]
  unfold qc26
  rw [List.getElem?_append_right (by rw [byc_length, h]; exact Nat.le_refl _), byc_length, h]
  rfl
theorem opc_len (o : Op26) : (opc o).length = 6 := rfl
def plK (seed : Dg) (l : List Op26) (k : Nat) : St26 := (l.take k).foldl stepM (⟨0, seed, []⟩, [])
theorem plK_ok (seed : Dg) (hs : DgOk seed) (l : List Op26) (k : Nat) : StOk26 k (plK seed l k) :=
  (fold_ok26 (l.take k) 0 (⟨0, seed, []⟩, []) ⟨hs, Nat.le_refl _, rfl, Nat.le_refl _, fun i e l h => (by cases h), fun i e h => (by cases h)⟩).mono (by simp; omega)
theorem plK_succ (seed : Dg) (l : List Op26) (k : Nat) (o : Op26) (h : l[k]? = some o) : plK seed l (k + 1) = stepM (plK seed l k) o := by
  unfold plK
  rw [List.take_add_one, h, Option.toList_some, List.foldl_append]
  rfl
theorem plK_end (seed : Dg) (l : List Op26) (k : Nat) (h : k = l.length ∧ k ≤ 25 ∨ k = 25) : plK seed l k = playM seed l := by
  unfold plK playM
  rcases h with ⟨rfl, h⟩ | rfl
  · rw [List.take_of_length_le (Nat.le_refl _), List.take_of_length_le h]
  · rfl
theorem stt_info26 : (Tryz.prog.info? 38).map (fun i => (i.zero, i.size, i.bytes)) = some (some (.agg (stC ⟨0, List.replicate 32 0, []⟩ (.slice none 0 0) (.slice none 0 0)).toArray), 35, 88) := by kernel_rfl
theorem built_st0 : ∀ (cs : List Value), cs.length = 34 → Tryz.prog.built 38 [(0, .agg cs.toArray)] = some (cs ++ [Value.slice none 0 0]).toArray
  | a0 :: a1 :: a2 :: a3 :: [a4, a5, a6, a7, a8, a9, a10, a11, a12, a13, a14, a15, a16, a17, a18, a19, a20, a21, a22, a23, a24, a25, a26, a27, a28, a29, a30, a31, a32, a33], _ => by kernel_rfl
theorem step_buildS0 {o : Oper} {a : Act} {w : World} {x : Operand} {m : Mt} {vE : Value} (hs : m.seed.length = 32) (ho : o.op = .build 38 #[(0, x)]) (hx : a.eval x = mtV m vE) : stepAt Tryz.prog o a w fun v w' => v = .agg (stC m vE (.slice none 0 0)).toArray ∧ w' = w := by
  have hr := run_build (P := Tryz.prog) w 38 #[(0, mtV m vE)] _ (built_st0 (mtc m vE) (mtc_len m vE hs))
  unfold stepAt execOp
  simp only [ho, Sem.run_bind, List.map_toArray, List.map_cons, List.map_nil, hx, hr, Result.andThen_ok]
  exact ⟨rfl, rfl⟩
def PSt (S : Nat → Prop) (s : St26) (v : Value) (w : World) : Prop := ∃ vE vL, v = stV s.1 vE vL ∧ EpsB ⟨w, S⟩ vE s.1.eps ∧ StmsB ⟨w, S⟩ vL s.2
def StF (m : Mt) (n : Nat) (_ : Nat) (v : Value) : Prop := ∃ (x : Option Addr × Nat) (y : Option Addr × Nat), v = stV m (.slice x.1 m.eps.length x.2) (.slice y.1 n y.2)
theorem fit_pst {S : Nat → Prop} {s : St26} : Fit (Was (PSt S s)) (StF s.1 s.2.length) := ⟨was_st, fun _ => ⟨_, (none, 0), (none, 0), rfl⟩, fun n m v w h => by
  obtain ⟨w0, _, ⟨vE, vL, rfl, hE, hL⟩, _⟩ := h
  obtain ⟨A, cap, rfl⟩ := hE.len
  obtain ⟨B, cb, rfl⟩ := hL.len
  exact ⟨(A, cap), (B, cb), rfl⟩⟩
theorem pst_of {S : Nat → Prop} {s : St26} {n m : Nat} {vE vL : Value} {w : World} (h : Was (PSt S s) n m (stV s.1 vE vL) w) : EpsB ⟨w, S⟩ vE s.1.eps ∧ StmsB ⟨w, S⟩ vL s.2 := by
  obtain ⟨w0, h1, ⟨vE2, vL2, h2, h3, h5⟩, h4⟩ := h
  have hv : vE2 = vE ∧ vL2 = vL := by
    simp only [stV, stC, Value.agg.injEq, List.toArray_inj, Array.mk.injEq] at h2
    have h6 := List.append_inj' h2 rfl
    obtain ⟨h6, h7⟩ := h6
    unfold mtc at h6
    simp only [List.cons.injEq, List.append_cancel_left_eq, and_true, true_and] at h6 h7
    exact ⟨h6.symm, h7.symm⟩
  obtain ⟨rfl, rfl⟩ := hv
  subst h1
  exact ⟨h3.fwd h4, h5.fwd h4⟩
theorem pst_res {S : Nat → Prop} {s : St26} {w : World} (hS : ∀ g, w.heap.size ≤ g → S g) : ∀ r W2, (∃ vE' vL', r = .returned (stV s.1 vE' vL') ∧ EpsB (Bse.new ⟨w, S⟩ w W2) vE' s.1.eps ∧ StmsB (Bse.new ⟨w, S⟩ w W2) vL' s.2 ∧ Below w.heap.size w W2) → RetR (Was (PSt S s)) w r W2 := fun r W2 ⟨vE, vL, h1, h2, h3, h4⟩ =>
  ⟨_, h1, ⟨W2, rfl, ⟨vE, vL, rfl, eps_to h2 fun g hg _ => hS g hg, h3.le (Bse.le_of (Nat.le_refl _) fun g hg => ⟨hg.1.elim (fun h => h.1) (fun h => hS g h), rfl⟩)⟩, Below.refl _ _⟩, h4⟩
theorem stms_nil (b : Bse) : StmsB b (.slice none 0 0) [] := ⟨[], fun X _ => nil_rd X 2, Al.nil⟩
theorem q26_under : Tryz.prog.underlying 26 = some (.struct (Tryz.prog.fieldsOf 26)) := by kernel_rfl
theorem q26_size : (Tryz.prog.info? 26).map (·.size) = some 33 := by kernel_rfl
theorem en_attestor_attestorlaw26_play : ∀ args w, (callFunc 33 args).run Tryz.prog w = .ok (.enter 33 args) w := enters_of Tryz.func33 (by kernel_rfl) rfl
def PlS (g1 g3 g : Nat) : Prop := g1 ≤ g ∧ g ≠ g3 ∧ g ≠ g1 + 1
attribute [local irreducible] wpRg
set_option maxRecDepth 100000 in
set_option maxHeartbeats 8000000 in
theorem gPlay (seed : Dg) (hs : DgOk seed) (l : List Op26) (hl : l.length ≤ 140737488355327) (ho : ∀ o ∈ l, o.ok) (vO : Value) (w : World) (hO : RdA 6 w vO l.length (l.flatMap opc)) (hL : Laid w) (hSh : Lsh w) (hDb : Ldb w) : Calls Tryz.prog 33 #[qv26 seed vO] w fun e W2 => ∃ vE vL, e = .returned (stV (playM seed l).1 vE vL) ∧ EpsB ⟨W2, fun g => w.heap.size ≤ g⟩ vE (playM seed l).1.eps ∧ StmsB ⟨W2, fun g => w.heap.size ≤ g⟩ vL (playM seed l).2 ∧ Below w.heap.size w W2 := by
  obtain ⟨AO, cO, rfl⟩ := Rd.len hO
  obtain ⟨n, hn⟩ : ∃ n, n = l.length := ⟨_, rfl⟩
  rw [← hn] at hO hl ⊢
  have HN := Lib.hid hn
  have HO := Lib.hid hO
  have HL := Lib.hid hL
  have HS := Lib.hid hSh
  have HD := Lib.hid hDb
  have HS0 := Lib.hid hs
  have HOO := Lib.hid ho
  have hsl : seed.length = 32 := hs.1
  obtain ⟨Qv, hQv⟩ : ∃ S, S = qv26 seed (.slice AO n cO) := ⟨_, rfl⟩
  rw [← hQv]
  clear hn hO hL hSh hDb hs ho
  go_enter Tryz.func33, Tryz.ntmps33
  go_upto_region 1 with (fail)
  refine wp_stk2 fun W hB hz b1 b2 => ?_
  have b1' : Blk W w.heap.size 26 (qc26 seed (.slice AO n cO)).toArray := by first | exact b1 | (rw [hQv] at b1; exact b1)
  obtain ⟨z2, hz2, b2'⟩ : ∃ z : Array Value, z.size = 35 ∧ Blk W (w.heap.size + 1) 38 z := ⟨_, rfl, b2⟩
  obtain ⟨g1, hg1⟩ : ∃ g, g = w.heap.size := ⟨_, rfl⟩
  have HZ := Lib.hid hz.out
  rw [← hg1] at b1' b2' HZ ⊢
  have HG1 := Lib.hid hg1
  clear b1 b2 hz hQv hg1
  obtain ⟨iS, hiS, iS0, iS1, iS2⟩ := info_parts stt_info26
  refine wp_region_lit ?_
  iterate 1 (refine wpList_plain rfl fun K hK => ?_; go_big_op; refine hK _ _ ?_; clear hK K)
  refine wpList_plain rfl fun K2 hK2 => wp_of_step (stepAt_mono (fun v6 w6 hh => ?_) (step_loadR0 (cs := byc seed) b32_under rfl (by rw [b32_size, byc_length, hsl]) rfl rfl (q26_seed b1')))
  obtain ⟨rfl, rfl⟩ := hh
  refine hK2 _ _ ?_
  clear hK2 K2
  try simp only [Act.put, List.setIfInBounds_toArray, List.set_cons_succ, List.set_cons_zero]
  refine wpList_plain rfl fun K3 hK3 => wp_of_step (stepAt_mono (fun v7 w7 hh => ?_) (step_callv en_attestor_meter_New (gNew seed HS0.out w6) rfl rfl))
  obtain ⟨rfl, B7⟩ := hh
  refine hK3 _ _ ?_
  clear hK3 K3
  try simp only [Act.put, List.setIfInBounds_toArray, List.set_cons_succ, List.set_cons_zero]
  refine wpList_plain rfl fun K4 hK4 => wp_of_step (stepAt_mono (fun v8 w8 hh => ?_) (step_buildS0 (m := ⟨0, seed, []⟩) hsl rfl rfl))
  obtain ⟨rfl, rfl⟩ := hh
  refine hK4 _ _ ?_
  clear hK4 K4
  try simp only [Act.put, List.setIfInBounds_toArray, List.set_cons_succ, List.set_cons_zero]
  refine wpList_plain rfl fun K5 hK5 => wp_of_step (stepAt_mono (fun v3 w3 hh => ?_) (step_new0 hiS iS0 rfl))
  obtain ⟨rfl, rfl⟩ := hh
  refine hK5 _ _ ?_
  clear hK5 K5
  try simp only [Act.put, List.setIfInBounds_toArray, List.set_cons_succ, List.set_cons_zero]
  have hg1w := HG1.out
  have hzw := HZ.out
  have hW7 := B7.size
  obtain ⟨m0, hm0⟩ : ∃ m0 : Mt, m0 = ⟨0, seed, []⟩ := ⟨_, rfl⟩
  rw [← hm0]
  have hm0s : m0.seed.length = 32 := by rw [hm0]; exact hsl
  have b3 : Blk (w8.alloc (.cells (Value.agg (stC ⟨0, List.replicate 32 0, []⟩ (.slice none 0 0) (.slice none 0 0)).toArray).cells 38)) w8.heap.size 38 (stC ⟨0, List.replicate 32 0, []⟩ (.slice none 0 0) (.slice none 0 0)).toArray := World.alloc_heap_new w8 _
  have B3 := (Below.refl _ w8).alloc (Nat.le_refl _) (.cells (Value.agg (stC ⟨0, List.replicate 32 0, []⟩ (.slice none 0 0) (.slice none 0 0)).toArray).cells 38)
  generalize w8.alloc (.cells (Value.agg (stC ⟨0, List.replicate 32 0, []⟩ (.slice none 0 0) (.slice none 0 0)).toArray).cells 38) = w3 at *
  refine wpList_put rfl 38 (.tmp 3) (.tmp 8) rfl rfl (cells := stC m0 (.slice none 0 0) (.slice none 0 0)) rfl b3 (by rw [List.size_toArray, stC_len ⟨0, List.replicate 32 0, []⟩ _ _ rfl, stC_len m0 _ _ hm0s]; exact Nat.le_refl _) (by rw [stt_size26, stC_len m0 _ _ hm0s]) (stC_one _ _ _ rfl rfl) (spl_all _ _ (by rw [List.size_toArray, stC_len ⟨0, List.replicate 32 0, []⟩ _ _ rfl, stC_len m0 _ _ hm0s])) fun X hX bX => ?_
  have BX : Below w8.heap.size w8 X := below_put B3 hX (Nat.le_refl _)
  have BWX := B7.trans (BX.mono hW7)
  have b1X := b1'.keep BWX
  have b2X := b2'.keep BWX
  have hBX := hB.trans (BWX.mono hB.size)
  obtain ⟨g3, hg3⟩ : ∃ g, g = w8.heap.size := ⟨_, rfl⟩
  have hg13 : g1 + 2 ≤ g3 := by omega
  have HG3 := Lib.hid hg13
  have H1X := Lib.hid b1X
  have H2X := Lib.hid b2X
  have HBX := Lib.hid hBX
  rw [← hg3] at bX ⊢
  rw [hm0] at bX
  clear b1' b2' hB hg1w hzw hW7 hm0 hm0s b3 B3 hX BX BWX b1X b2X hBX hg3 hg13 B7 HZ
  try simp only [Act.put, List.setIfInBounds_toArray, List.set_cons_succ, List.set_cons_zero]
  go_upto_region 3 with (fail)
  go_loopw [4] (fun q wr => ∃ (k : Nat) (vE vL : Value), k ≤ n ∧ k ≤ 25 ∧ q = .int .i64 k ∧ Blk wr g3 38 (stC (plK seed l k).1 vE vL).toArray ∧ EpsB ⟨wr, PlS g1 g3⟩ vE (plK seed l k).1.eps ∧ StmsB ⟨wr, PlS g1 g3⟩ vL (plK seed l k).2 ∧ Below g3 X wr) (fun q _ => 25 - (intOf q).toNat)
  case atStart => exact ⟨0, _, _, Nat.zero_le _, by omega, rfl, bX, eps_nil _, stms_nil _, Below.refl _ _⟩
  case round =>
    clear bX
    obtain ⟨k, vE, vL, hkn, hk25, rfl, b3, hE, hT, hBr⟩ := hrel
    obtain ⟨s, hs⟩ : ∃ s, s = plK seed l k := ⟨_, rfl⟩
    rw [← hs] at b3 hE hT
    have hok : StOk26 k s := by rw [hs]; exact plK_ok seed HS0.out l k
    have b1 := H1X.out.below hBr (by have := HG3.out; omega)
    have b2 := H2X.out.below hBr (by have := HG3.out; omega)
    have hBw : Below w.heap.size w wr := HBX.out.trans (hBr.mono (by have := HG3.out; have := HG1.out; omega))
    have c32 := q26_l b1 hsl
    have l1 := b1.lt
    have HSK := Lib.hid hs
    have HOK := Lib.hid hok
    have HE := Lib.hid hE
    have HT := Lib.hid hT
    have HBR := Lib.hid hBr
    have HB2 := Lib.hid b2
    have HBW := Lib.hid hBw
    clear hs hok hE hT hBr b2 hBw
    by_cases hlt : k < n
    rotate_left 1
    · have HFN := Lib.hid (show s = playM seed l by rw [HSK.out]; exact plK_end seed l k (.inl ⟨by have := HN.out; omega, hk25⟩))
      have hsn : s.1.seed.length = 32 := HOK.out.seed.1
      obtain ⟨A, cap, rfl⟩ := HE.out.len
      obtain ⟨B, cb, rfl⟩ := HT.out.len
      have b2 := HB2.out
      have hBw := HBW.out
      go_upto_region 6 with (fail)
      clear c32 l1 b1
      refine wp_region_lit ?_
      refine wpList_plain rfl fun K8 hK8 => wp_of_step (stepAt_mono (fun v27 w27 hh => ?_) (step_loadR0 (cs := stC s.1 (.slice A s.1.eps.length cap) (.slice B s.2.length cb)) stt_under26 rfl (by rw [stt_size26, stC_len _ _ _ hsn]) rfl rfl (blk_range b3)))
      obtain ⟨rfl, rfl⟩ := hh
      refine hK8 _ _ ?_
      clear hK8 K8
      try simp only [Act.put, List.setIfInBounds_toArray, List.set_cons_succ, List.set_cons_zero]
      refine wpList_put rfl 38 (.tmp 2) (.tmp 27) rfl rfl (cells := stC s.1 (.slice A s.1.eps.length cap) (.slice B s.2.length cb)) rfl b2 (by rw [hz2, stC_len _ _ _ hsn]; exact Nat.le_refl _) (by rw [stt_size26, stC_len _ _ _ hsn]) (stC_one _ _ _ rfl rfl) (spl_all _ _ (by rw [hz2, stC_len _ _ _ hsn])) fun Z hZ bZ => ?_
      have hBZ := below_put hBw hZ (by have := HG1.out; omega)
      try simp only [Act.put, List.setIfInBounds_toArray, List.set_cons_succ, List.set_cons_zero]
      go_wp2_with fail
      refine bodyPost_ret (v := stV s.1 (.slice A s.1.eps.length cap) (.slice B s.2.length cb)) (res_row (cs := stC s.1 (.slice A s.1.eps.length cap) (.slice B s.2.length cb)) (g := g1 + 1) rfl rfl stt_under26 rfl (by rw [stt_size26, stC_len _ _ _ hsn]) bZ) rfl ?_
      rw [← HFN.out]
      exact ⟨_, _, rfl, (HE.out.pt hZ (fun h => h.2.2 rfl)).sub (fun g hg hl => by rw [← HG1.out]; exact hg.1), stms_sub (StmsB.pt HT.out hZ (fun h => h.2.2 rfl)) (fun g hg => by rw [← HG1.out]; exact hg.1), hBZ⟩
    by_cases hlt2 : k < 25
    rotate_left 1
    · have HFN := Lib.hid (show s = playM seed l by rw [HSK.out]; exact plK_end seed l k (.inr (by omega)))
      have hsn : s.1.seed.length = 32 := HOK.out.seed.1
      obtain ⟨A, cap, rfl⟩ := HE.out.len
      obtain ⟨B, cb, rfl⟩ := HT.out.len
      have b2 := HB2.out
      have hBw := HBW.out
      go_upto_region 6 with (fail)
      clear c32 l1 b1
      refine wp_region_lit ?_
      refine wpList_plain rfl fun K11 hK11 => wp_of_step (stepAt_mono (fun v27 w27 hh => ?_) (step_loadR0 (cs := stC s.1 (.slice A s.1.eps.length cap) (.slice B s.2.length cb)) stt_under26 rfl (by rw [stt_size26, stC_len _ _ _ hsn]) rfl rfl (blk_range b3)))
      obtain ⟨rfl, rfl⟩ := hh
      refine hK11 _ _ ?_
      clear hK11 K11
      try simp only [Act.put, List.setIfInBounds_toArray, List.set_cons_succ, List.set_cons_zero]
      refine wpList_put rfl 38 (.tmp 2) (.tmp 27) rfl rfl (cells := stC s.1 (.slice A s.1.eps.length cap) (.slice B s.2.length cb)) rfl b2 (by rw [hz2, stC_len _ _ _ hsn]; exact Nat.le_refl _) (by rw [stt_size26, stC_len _ _ _ hsn]) (stC_one _ _ _ rfl rfl) (spl_all _ _ (by rw [hz2, stC_len _ _ _ hsn])) fun Z hZ bZ => ?_
      have hBZ := below_put hBw hZ (by have := HG1.out; omega)
      try simp only [Act.put, List.setIfInBounds_toArray, List.set_cons_succ, List.set_cons_zero]
      go_wp2_with fail
      refine bodyPost_ret (v := stV s.1 (.slice A s.1.eps.length cap) (.slice B s.2.length cb)) (res_row (cs := stC s.1 (.slice A s.1.eps.length cap) (.slice B s.2.length cb)) (g := g1 + 1) rfl rfl stt_under26 rfl (by rw [stt_size26, stC_len _ _ _ hsn]) bZ) rfl ?_
      rw [← HFN.out]
      exact ⟨_, _, rfl, (HE.out.pt hZ (fun h => h.2.2 rfl)).sub (fun g hg hl => by rw [← HG1.out]; exact hg.1), stms_sub (StmsB.pt HT.out hZ (fun h => h.2.2 rfl)) (fun g hg => by rw [← HG1.out]; exact hg.1), hBZ⟩
    go_upto_region 5 with (fail)
    have hkl : k < l.length := by rw [← HN.out]; exact hlt
    obtain ⟨o, ho⟩ : ∃ o, l[k]? = some o := ⟨l[k], List.getElem?_eq_getElem hkl⟩
    have hoo := HOO.out o (List.mem_of_getElem? ho)
    have hsn : s.1.seed.length = 32 := HOK.out.seed.1
    have hs2n : (stepM s o).1.seed.length = 32 := (step_ok26 HOK.out o).seed.1
    have hrd : RdA 6 wr (.slice AO n cO) n (l.flatMap opc) := RdA.keep HO.out HBW.out
    obtain ⟨g, off, cap', hv, hcp, hg, hcs⟩ := RdA.at opc_len (by rw [← HN.out]; exact hrd) ho
    rw [← HN.out] at hv hcp
    cases hv
    have hrg : wr.rangeAt g (off + k * 6) (opc o) := fun j x hj => by rw [Nat.add_assoc]; exact hcs j x hj
    obtain ⟨A, cap, rfl⟩ := HE.out.len
    obtain ⟨B, cb, rfl⟩ := HT.out.len
    have k32 := gw_cell l1 c32
    have hg3w : g3 < wr.heap.size := b3.lt
    clear hrd hcs c32 hkl
    refine wp_region_rg 7 [(0, Spec.val (stV s.1 (.slice A s.1.eps.length cap) (.slice B s.2.length cb))), (5, Spec.val (.agg (opc o).toArray)), (6, Spec.rel (Was (PSt (PlS g1 g3) (stepM s o))) (StF (stepM s o).1 (stepM s o).2.length))] (by kernel_rfl) (by kernel_rfl) (by kernel_rfl) ⟨fit_pst, trivial⟩ ?_
    refine rg_val rfl rfl (fun W1 hW1 hF => step_loadR (cs := stC s.1 (.slice A s.1.eps.length cap) (.slice B s.2.length cb)) stt_under26 rfl (by rw [stt_size26, stC_len _ _ _ hsn]) rfl rfl (blk_range (b3.keep (grw_below hW1)))) ?_
    intro a' ha
    simp only [Act.put, List.setIfInBounds_toArray, List.set_cons_succ, List.set_cons_zero] at ha
    subst ha
    iterate 4 (refine rg_det rfl rfl rfl (fun K hK => ?_); go_big_quiet_op; refine hK _ ?_; clear hK K)
    refine rg_val rfl rfl (fun W1 hW1 hF => step_loadR (cs := opc o) opp_under26 rfl opp_size26 rfl rfl (range_keep hrg hg (grw_below hW1))) ?_
    intro a' ha
    simp only [Act.put, List.setIfInBounds_toArray, List.set_cons_succ, List.set_cons_zero] at ha
    subst ha
    refine rg_rel rfl rfl (fun W1 hW1 hF => step_callr en_attestor_attestorlaw26_step (((gStep k (by omega) s HOK.out o hoo (.slice A s.1.eps.length cap) (.slice B s.2.length cb) ⟨W1, PlS g1 g3⟩ W1 (Bse.ok_self _) (HL.out.keep (HBW.out.trans ((grw_below hW1).mono HBW.out.size))) (HS.out.keep (HBW.out.trans ((grw_below hW1).mono HBW.out.size))) (HD.out.keep (HBW.out.trans ((grw_below hW1).mono HBW.out.size))) (HE.out.fwd (grw_below hW1)) (HT.out.fwd (grw_below hW1))).mono (pst_res (fun g hg => by have := (grw_below hW1).size; have := HG3.out; exact ⟨by omega, by omega, by omega⟩)))) rfl rfl) ?_
    intro n6 m6 v6 hn6 hm6 hd6 hf6 a' ha
    simp only [Act.put, List.setIfInBounds_toArray, List.set_cons_succ, List.set_cons_zero] at ha
    subst ha
    obtain ⟨A6, cap6, rfl⟩ := hf6
    refine rg_nil (fun w' hw' hF => ?_)
    obtain ⟨z, rfl⟩ := hw'
    simp only [List.drop_succ_cons, List.drop_zero]
    obtain ⟨qE, qL⟩ := pst_of (end_last hF).2
    clear hF
    have b3z := b3.keep z.h
    refine wpList_put rfl 38 (.tmp 3) (.tmp 26) rfl rfl (cells := stC (stepM s o).1 (.slice A6.1 (stepM s o).1.eps.length A6.2) (.slice cap6.1 (stepM s o).2.length cap6.2)) rfl b3z (by rw [List.size_toArray, stC_len _ _ _ hsn, stC_len _ _ _ hs2n]; exact Nat.le_refl _) (by rw [stt_size26, stC_len _ _ _ hs2n]) (stC_one _ _ _ rfl rfl) (spl_all _ _ (by rw [List.size_toArray, stC_len _ _ _ hsn, stC_len _ _ _ hs2n])) fun Y hY bY => ?_
    have hBY : Below g3 X Y := below_put (HBR.out.trans (z.h.mono (by omega))) hY (Nat.le_refl _)
    have HE2 := Lib.hid (qE.pt hY (fun h => h.2.1 rfl))
    have HT2 := Lib.hid (qL.pt hY (fun h => h.2.1 rfl))
    have hps : stepM s o = plK seed l (k + 1) := by rw [plK_succ seed l k o ho, ← HSK.out]
    have HPS := Lib.hid hps
    clear hps qE qL b3z b3 hY k32
    try simp only [Act.put, List.setIfInBounds_toArray, List.set_cons_succ, List.set_cons_zero]
    go_wp2_with fail
    exact ⟨⟨k + 1, _, _, by omega, by omega, by go_num, by rw [← HPS.out]; exact bY, by rw [← HPS.out]; exact HE2.out, by rw [← HPS.out]; exact HT2.out, hBY⟩, by simp [intOf]; omega⟩
end Go.Proofs.YtoiampgfnidfdaaGreatDoor
namespace Go.Proofs.YtoiampgfnidfdaaGreatDoor
open Go.ChangeShapes Go.WideShapes Go.RowKit

def natU (v : Value) : Nat := match v with | .int _ z => z.toNat | _ => 0
theorem okd_u8 {W : World} {n : Nat} {cs : List Value} (h : Okd Tryz.prog W n 5 cs) : ∃ x : Nat, x < 256 ∧ cs = [.int .u8 (x : Int)] := by
  obtain ⟨z, e, o⟩ := okd_int Tryz.underlying5 h
  have hz := wf_u8 o
  exact ⟨z.toNat, by omega, by rw [e, Int.toNat_of_nonneg hz.1]⟩
theorem okd_bytes {W : World} {n m : Nat} {t : TypeId} {cs : List Value} (ht : Tryz.prog.underlying t = some (.array m 5)) (hc : Tryz.prog.cellsOf t = m) (h : Okd Tryz.prog W n t cs) : ∃ l : List Nat, l.length = m ∧ (∀ x ∈ l, x < 256) ∧ cs = byc l := by
  obtain ⟨h1, q, h2⟩ := okd_array ht h
  have c6 : Tryz.prog.cellsOf 5 = 1 := by kernel_rfl
  rw [hc] at h1
  have key : ∀ i, i < m → ∃ x : Nat, x < 256 ∧ cs[i]? = some (.int .u8 (x : Int)) := fun i hi => by
    have h3 := h2 i hi
    rw [c6, Nat.mul_one] at h3
    obtain ⟨x, hx, e⟩ := okd_u8 h3
    refine ⟨x, hx, ?_⟩
    have : ((cs.drop i).take 1)[0]? = some (.int .u8 (x : Int)) := by rw [e]; rfl
    simpa using this
  refine ⟨cs.map natU, by rw [List.length_map, h1], fun x hx => ?_, List.ext_getElem? fun i => ?_⟩
  · obtain ⟨v, hv, rfl⟩ := List.mem_map.1 hx
    obtain ⟨i, hi⟩ := List.getElem?_of_mem hv
    obtain ⟨x, hx, e⟩ := key i (by rw [← h1]; exact (List.getElem?_eq_some_iff.1 hi).1)
    rw [hi] at e
    rw [Option.some.inj e]
    show ((x : Int)).toNat < 256
    omega
  · rcases Nat.lt_or_ge i m with hi | hi
    · obtain ⟨x, hx, e⟩ := key i hi
      rw [e]
      unfold byc
      rw [List.getElem?_map, List.getElem?_map, e]
      rfl
    · rw [List.getElem?_eq_none (by omega), List.getElem?_eq_none (by rw [byc_length, List.length_map]; omega)]
set_option maxRecDepth 100000 in
theorem okd_op26 {W : World} {n : Nat} {cs : List Value} (h : Okd Tryz.prog W n 70 cs) : ∃ o : Op26, o.ok ∧ cs = opc o := by
  obtain ⟨h1, m, h2⟩ := okd_struct Tryz.underlying70 h
  have c1 : Tryz.prog.cellsOf 70 = 6 := by kernel_rfl
  have c6 : Tryz.prog.cellsOf 5 = 1 := by kernel_rfl
  have c3 : Tryz.prog.cellsOf 68 = 3 := by kernel_rfl
  rw [c1] at h1
  obtain ⟨a, b, c, d, e, f, rfl⟩ : ∃ a b c d e f, cs = [a, b, c, d, e, f] := by
    match cs, h1 with
    | [a, b, c, d, e, f], _ => exact ⟨a, b, c, d, e, f, rfl⟩
  obtain ⟨k0, k1, k2, k3, -⟩ := h2
  simp only [c6, c3, List.drop_zero, List.take_succ_cons, List.take_zero, List.drop_succ_cons] at k0 k1 k2 k3
  obtain ⟨x0, hx0, e0⟩ := okd_u8 k0
  obtain ⟨l, hl, hl2, e1⟩ := okd_bytes Tryz.underlying68 c3 k1
  obtain ⟨x2, hx2, e2⟩ := okd_u8 k2
  obtain ⟨x3, hx3, e3⟩ := okd_u8 k3
  obtain ⟨y0, y1, y2, rfl⟩ : ∃ y0 y1 y2, l = [y0, y1, y2] := by
    match l, hl with
    | [a, b, c], _ => exact ⟨a, b, c, rfl⟩
  simp only [byc, List.map_cons, List.map_nil, List.cons.injEq, and_true] at e0 e1 e2 e3
  obtain ⟨e1a, e1b, e1c⟩ := e1
  subst e0; subst e1a; subst e1b; subst e1c; subst e2; subst e3
  exact ⟨⟨x0, y0, y1, y2, x2, x3⟩, ⟨hx0, hl2 _ (by simp), hl2 _ (by simp), hl2 _ (by simp), hx2, hx3⟩, rfl⟩
theorem okd_ops26 {W : World} {n : Nat} {cs : List Value} (h : Okd Tryz.prog W n 24 cs) : ∃ v, cs = [v] ∧ ∃ l : List Op26, Rd 0 W.heap.size 6 W v l.length (l.flatMap opc) ∧ ∀ o ∈ l, o.ok :=
  okd_slice opc Op26.ok (by decide) opc_len Tryz.underlying24 (by kernel_rfl) (Nat.le_of_ble_eq_true (by kernel_rfl)) (fun n cs h => okd_op26 h) h
set_option maxRecDepth 100000 in
theorem okd_q26 {W : World} {n : Nat} {cs : List Value} (h : Okd Tryz.prog W n 26 cs) : ∃ (seed : Dg) (l : List Op26) (vO : Value), cs = qc26 seed vO ∧ DgOk seed ∧ l.length ≤ 140737488355327 ∧ (∀ o ∈ l, o.ok) ∧ RdA 6 W vO l.length (l.flatMap opc) := by
  obtain ⟨h1, m, h2⟩ := okd_struct Tryz.underlying26 h
  have c1 : Tryz.prog.cellsOf 26 = 33 := by kernel_rfl
  have c2 : Tryz.prog.cellsOf 23 = 32 := by kernel_rfl
  have c3 : Tryz.prog.cellsOf 24 = 1 := by kernel_rfl
  rw [c1] at h1
  obtain ⟨k0, k1, -⟩ := h2
  dsimp only at k0 k1
  rw [c2] at k0
  rw [c3] at k1
  obtain ⟨seed, hs1, hs2, e0⟩ := okd_bytes Tryz.underlying23 c2 k0
  obtain ⟨v, e1, l, hl1, hl2⟩ := okd_ops26 k1
  refine ⟨seed, l, v, ?_, ⟨hs1, hs2⟩, hl1.2.1, hl2, hl1⟩
  rw [List.drop_zero] at e0
  unfold qc26
  rw [← e0, ← e1, List.take_of_length_le (l := cs.drop 32) (by rw [List.length_drop]; omega), List.take_append_drop]
theorem u8_laid {W : World} {nm : String} {g : Nat} {t : TypeId} {cs : Array Value} {fuel n : Nat} {d : DataW Unit} {p : List MemPlace} (zs : List Int) (hg : Tryz.prog.globalNamed nm = some g) (ht : Tryz.prog.underlying t = some (.array n 5)) (hv : W.var? Tryz.prog nm = some cs)
    (hd : DataW.trod (fun _ => ()) Tryz.prog W 0 (fun _ => true) false fuel t cs.toList = some (d, p)) (hz : d = .agg (zs.map fun z => .lit (.int .u8 z))) (hn : zs.length = n) : W.rangeAt g 0 (zs.map fun z => Value.int .u8 z) := by
  obtain ⟨xs, m, _, ex, _, hl, hel⟩ := DataW.trod_array ht hd
  have c5 : Tryz.prog.cellsOf 5 = 1 := by kernel_rfl
  intro r v hr
  have hr' : r < n := by
    rw [← hn]
    have := (List.getElem?_eq_some_iff.1 hr).1
    rwa [List.length_map] at this
  have hE := hel r hr'
  rw [c5, Nat.mul_one, List.getElem?_eq_getElem (by omega)] at hE
  obtain ⟨z, e1, e2, _⟩ := DataW.trod_int Tryz.underlying5 hE
  have e3 : (xs.map (·.1)) = zs.map fun n => .lit (.int .u8 n) := (DataW.agg.inj ((Prod.mk.inj ex).1.symm.trans hz))
  have e4 : (xs.map (·.1))[r]? = (zs.map fun n => (DataW.lit (.int .u8 n) : DataW Unit))[r]? := by rw [e3]
  rw [List.getElem?_map, List.getElem?_map, List.getElem?_eq_getElem (by omega : r < xs.length), List.getElem?_eq_getElem (by omega : r < zs.length), e2] at e4
  rw [List.getElem?_map, List.getElem?_eq_getElem (by omega : r < zs.length)] at hr
  simp only [Option.map_some, Option.some.injEq, DataW.lit.injEq, Lit.int.injEq, true_and] at e4 hr
  rw [← e4] at hr
  rw [Nat.zero_add, World.var?_cell hg hv r, ← hr]
  have : cs.toList[r]? = some (.int .u8 z) := by
    have h0 : ((cs.toList.drop r).take 1)[0]? = some (.int .u8 z) := by rw [e1]; rfl
    simpa using h0
  simpa using this
theorem gDbt : Tryz.prog.globalNamed "math/bits.deBruijn64tab" = some 3 := by kernel_rfl
theorem tDbt : (Tryz.prog.globals[3]?).map (·.type) = some 162 := by kernel_rfl
def dbZ : List Int := [0, 1, 56, 2, 57, 49, 28, 3, 61, 58, 42, 50, 38, 29, 17, 4, 62, 47, 59, 36, 45, 43, 51, 22, 53, 39, 33, 30, 24, 18, 12, 5, 63, 55, 48, 27, 60, 41, 37, 16, 46, 35, 44, 21, 52, 32, 23, 11, 54, 26, 40, 15, 34, 20, 31, 10, 25, 14, 19, 9, 13, 8, 7, 6]
theorem db_laid : (Rows.laid_math_bits_deBruijn64tab : DataW Unit) = .agg (dbZ.map fun z => .lit (.int .u8 z)) := by kernel_rfl
theorem cell_lt {W : World} {g i : Nat} {v : Value} (h : W.cell? ⟨g, i, none⟩ = some v) : g < W.heap.size := by
  rcases Nat.lt_or_ge g W.heap.size with h1 | h1
  · exact h1
  · simp only [World.cell?] at h; rw [Array.getElem?_eq_none h1] at h; cases h
set_option maxRecDepth 100000 in
theorem laid_of5 {W : World} (h : laidMetH Tryz.prog [("math/bits.deBruijn32tab", Rows.laid_math_bits_deBruijn32tab), ("math/bits.deBruijn64tab", Rows.laid_math_bits_deBruijn64tab), ("attestor/mle.one", Rows.laid_attestor_mle_one), ("attestor/sha256.constants", Rows.laid_attestor_sha256_constants), ("attestor/sha256.initial", Rows.laid_attestor_sha256_initial)] W) : Laid W ∧ Lsh W ∧ Ldb W := by
  rw [MakeChecks.laidMetH_plain _ _ _ (by kernel_rfl)] at h
  obtain ⟨ps, ⟨g8, t8, cs8, f8, p8, q8, hg8, ht8, hv8, hd8, ⟨g9, t9, cs9, f9, p9, q9, hg9, ht9, hv9, hd9, ⟨g0, t0, cs0, f0, p0, q0, hg0, ht0, hv0, hd0, ⟨g1, t1, cs1, f1, p1, q1, hg1, ht1, hv1, hd1, ⟨g2, t2, cs2, f2, p2, q2, hg2, ht2, hv2, hd2, _, _⟩, _⟩, _⟩, _⟩, _⟩, _, _⟩ := h
  obtain rfl := Option.some.inj (gCon.symm.trans hg1)
  obtain rfl := Option.some.inj (tCon.symm.trans ht1)
  obtain rfl := Option.some.inj (gIni.symm.trans hg2)
  obtain rfl := Option.some.inj (tIni.symm.trans ht2)
  obtain rfl := Option.some.inj (gDbt.symm.trans hg9)
  obtain rfl := Option.some.inj (tDbt.symm.trans ht9)
  have r2 := u32_laid conZ gCon Tryz.underlying188 hv1 hd1 con_laid (by kernel_rfl)
  have r1 := u32_laid [1779033703, 3144134277, 1013904242, 2773480762, 1359893119, 2600822924, 528734635, 1541459225] gIni Tryz.underlying172 hv2 hd2 rfl rfl
  have r9 := u8_laid dbZ gDbt Tryz.underlying162 hv9 hd9 db_laid rfl
  rw [← con_zs] at r2
  rw [← ini_zs] at r1
  have d0 := r9 0 _ rfl
  have d1 := r9 1 _ rfl
  have d3 := r9 3 _ rfl
  have d7 := r9 7 _ rfl
  exact ⟨laid_of1 hg0 ht0 hv0 hd0, ⟨r1, r2, cell_lt (r1 0 _ rfl), cell_lt (r2 0 _ rfl)⟩, ⟨d0, d1, d3, d7, cell_lt d0⟩⟩
end Go.Proofs.YtoiampgfnidfdaaGreatDoor
namespace Go.Proofs.YtoiampgfnidfdaaGreatDoor
open Go.RowKit

theorem ep_info26 : (Tryz.prog.info? 75).map (fun i => (i.zero, i.size, i.bytes)) = some (some (.agg #[.int .i64 0, .int .i64 0, .bool false, .slice none 0 0, .slice none 0 0]), 5, 72) := by kernel_rfl
attribute [local irreducible] wpRg
end Go.Proofs.YtoiampgfnidfdaaGreatDoor
namespace Go.Proofs.YtoiampgfnidfdaaGreatDoor
open Go.RowKit

attribute [local irreducible] wpRg
end Go.Proofs.YtoiampgfnidfdaaGreatDoor
namespace Go.Proofs.YtoiampgfnidfdaaGreatDoor
open Go.RowKit

def LfB (N : Nat) (w : World) (v : Value) (bs : List (List Nat)) : Prop := ∃ vs : List Value, w.ownsRow N 56 1 v vs.length vs ∧ Al (fun u b => ∃ g, u = .slice (some ⟨g, 0, none⟩) 3 3 ∧ b.length = 3 ∧ Blk w g 5 (byc b).toArray) vs bs
theorem LfB.keep {N : Nat} {w X : World} {v : Value} {bs : List (List Nat)} (h : LfB N w v bs) (hb : Below w.heap.size w X) : LfB N X v bs := by
  obtain ⟨vs, h1, h2⟩ := h
  exact ⟨vs, own_below h1 (Nat.le_refl _) hb, h2.mono fun u b ⟨g, q1, q2, q3⟩ => ⟨g, q1, q2, q3.keep hb⟩⟩
theorem LfB.bs {N : Nat} {w : World} {v : Value} {bs : List (List Nat)} (h : LfB N w v bs) (hn : bs.length ≤ 1000000) : BsA w v bs := by
  obtain ⟨vs, h1, h2⟩ := h
  refine ⟨vs, RdA.of (Rd.of_own h1 (by rw [h2.1]; omega) (Nat.le_refl _)), h2.mono fun u b ⟨g, q1, q2, q3⟩ => ?_⟩
  rw [q1]
  have := bys_blk (lo := 0) (hi := w.heap.size) q3 (by omega) (Nat.zero_le _) q3.lt
  rw [q2] at this
  exact this
theorem LfB.snoc {N g : Nat} {w X : World} {v v' : Value} {vs : List Value} {bs : List (List Nat)} {b : List Nat} (h1 : w.ownsRow N 56 1 v vs.length vs) (h2 : Al (fun u b => ∃ g, u = .slice (some ⟨g, 0, none⟩) 3 3 ∧ b.length = 3 ∧ Blk w g 5 (byc b).toArray) vs bs) (hb : b.length = 3) (hg : Blk w g 5 (byc b).toArray)
    (ho : X.ownsRow N 56 1 v' (vs.length + 1) (vs ++ [.slice (some ⟨g, 0, none⟩) 3 3])) (hgr : w.grownBy X v.ownBlock) : LfB N X v' (bs ++ [b]) := by
  have hk : ∀ g b, Blk w g 5 (byc b).toArray → Blk X g 5 (byc b).toArray := fun g b hh => (hgr.block g hh.lt fun e => by
    rcases h1.2 with ⟨q, _⟩ | ⟨g', cap, cur, q, _, q3, _⟩
    · rw [q] at e; cases e
    · rw [q] at e
      cases e
      have hc := hh.symm.trans q3
      cases hc).trans hh
  refine ⟨_, by rw [List.length_append]; exact ho, ?_⟩
  exact Al.snoc (h2.mono fun u b ⟨g, q1, q2, q3⟩ => ⟨g, q1, q2, hk _ _ q3⟩) ⟨g, rfl, hb, hk _ _ hg⟩
theorem LfB.len {N : Nat} {w : World} {v : Value} {bs : List (List Nat)} (h : LfB N w v bs) : ∃ A cap, v = .slice A bs.length cap := by
  obtain ⟨vs, h1, h2⟩ := h
  rw [← h2.1]
  exact own_lenR h1
end Go.Proofs.YtoiampgfnidfdaaGreatDoor
namespace Go.Proofs.YtoiampgfnidfdaaGreatDoor
open Go.RowKit

attribute [local irreducible] wpRg keyD sha leafD pairD
end Go.Proofs.YtoiampgfnidfdaaGreatDoor
namespace Go.Proofs.YtoiampgfnidfdaaGreatDoor
open Go.RowKit
attribute [local go_sem] Oper.semAt_some

def lftE (zs : List Int) : List E := zs.map fun z => eb (fz z)
theorem lftE_len (zs : List Int) : (lftE zs).length = zs.length := by simp [lftE]
def colV (c : Nat) (l : Stm) (i : Nat) : Int := match l[i]? with | some x => amt c x | none => 0
def colP (c log : Nat) (l : Stm) (k : Nat) : List Int := (List.range (2 ^ log)).map fun i => if i < k then colV c l i else 0
def colZ (c log : Nat) (l : Stm) : List Int := (List.range (2 ^ log)).map (colV c l)
theorem colP_len (c log : Nat) (l : Stm) (k : Nat) : (colP c log l k).length = 2 ^ log := by simp [colP]
theorem colZ_len (c log : Nat) (l : Stm) : (colZ c log l).length = 2 ^ log := by simp [colZ]
theorem colP_zero (c log : Nat) (l : Stm) : colP c log l 0 = List.replicate (2 ^ log) 0 := by
  refine List.ext_getElem? fun i => ?_
  by_cases h : i < 2 ^ log
  · simp [colP, h]
  · rw [List.getElem?_eq_none (by simp [colP]; omega), List.getElem?_eq_none (by simp; omega)]
theorem colP_set (c log : Nat) (l : Stm) (k : Nat) : (colP c log l k).set k (colV c l k) = colP c log l (k + 1) := by
  refine List.ext_getElem? fun i => ?_
  rw [List.getElem?_set, colP_len]
  by_cases hi : i < 2 ^ log
  · by_cases h1 : k = i
    · subst h1
      simp [colP, hi]
    · rw [if_neg h1]
      simp only [colP, List.getElem?_map, List.getElem?_range hi, Option.map_some]
      congr 1
      by_cases h2 : i < k
      · rw [if_pos h2, if_pos (by omega)]
      · rw [if_neg h2, if_neg (by omega)]
  · rw [List.getElem?_eq_none (l := colP c log l (k + 1)) (by rw [colP_len]; omega)]
    split
    · split
      · omega
      · rfl
    · rw [List.getElem?_eq_none (by rw [colP_len]; omega)]
theorem colP_same (c log : Nat) (l : Stm) (k : Nat) (h : colV c l k = 0) : colP c log l (k + 1) = colP c log l k := by
  unfold colP
  refine List.map_congr_left fun i _ => ?_
  by_cases h1 : i < k
  · rw [if_pos h1, if_pos (by omega)]
  · rw [if_neg h1]
    by_cases h2 : i < k + 1
    · obtain rfl : i = k := by omega
      rw [if_pos h2, h]
    · rw [if_neg h2]
theorem colP_all (c log : Nat) (l : Stm) (k : Nat) (h : l.length ≤ k) : colP c log l k = colZ c log l := by
  unfold colP colZ
  refine List.map_congr_left fun i _ => ?_
  by_cases h1 : i < k
  · rw [if_pos h1]
  · rw [if_neg h1]
    unfold colV
    rw [List.getElem?_eq_none (by omega)]
theorem lft_col (c log : Nat) (l : Stm) : lftE (colZ c log l) = colM c log l := by
  unfold lftE colZ colM
  rw [List.map_map]
  refine List.map_congr_left fun i _ => ?_
  unfold colV
  dsimp only [Function.comp]
  cases l[i]? <;> rfl
theorem amt_rng (c : Nat) (x : Rdg × Bool) (h : x.1.ok) : 0 ≤ amt c x ∧ amt c x < 256 := by
  obtain ⟨⟨a1, a2⟩, ⟨b1, b2⟩, ⟨c1, c2⟩, ⟨d1, d2⟩⟩ := h
  unfold amt
  match c with
  | 0 => exact ⟨a1, Int.lt_trans a2 (by decide)⟩
  | 1 => exact ⟨b1, b2⟩
  | 2 => exact ⟨c1, Int.lt_trans c2 (by decide)⟩
  | 3 => exact ⟨d1, d2⟩
  | 4 =>
    show 0 ≤ (if x.2 then (0 : Int) else 1) ∧ (if x.2 then (0 : Int) else 1) < 256
    split <;> decide
  | _ + 5 => exact ⟨Int.le_refl _, show (0 : Int) < 256 by decide⟩
theorem colV_rng (c : Nat) (l : Stm) (h : ∀ x ∈ l, x.1.ok) (i : Nat) : 0 ≤ colV c l i ∧ colV c l i < 256 := by
  unfold colV
  cases hx : l[i]? with
  | none => exact ⟨Int.le_refl _, show (0 : Int) < 256 by decide⟩
  | some x => exact amt_rng c x (h x (List.mem_of_getElem? hx))
theorem colZ_rng (c log : Nat) (l : Stm) (h : ∀ x ∈ l, x.1.ok) : ∀ z ∈ colZ c log l, 0 ≤ z ∧ z < 18446744069414584321 := by
  intro z hz
  obtain ⟨i, _, rfl⟩ := List.mem_map.1 hz
  have := colV_rng c l h i
  omega
def u64c (zs : List Int) : List Value := zs.map fun z => Value.int .u64 z
theorem u64c_len (zs : List Int) : (u64c zs).length = zs.length := by simp [u64c]
theorem blk_setZ {w : World} {g : Nat} {t : TypeId} {zs : List Int} (h : Blk w g t (u64c zs).toArray) (k : Nat) (z : Int) : Blk (w.setCell ⟨g, k, none⟩ (.int .u64 z)) g t (u64c (zs.set k z)).toArray := by
  have := h.set_ k (.int .u64 z)
  unfold u64c at this ⊢
  rw [List.map_set]
  simpa using this
theorem rd_blkZ {w : World} {g : Nat} {t : TypeId} {zs : List Int} {n : Nat} (h : Blk w g t (u64c zs).toArray) (hn : zs.length = n) (hb : n ≤ 1000000) : RdA 1 w (.slice (some ⟨g, 0, none⟩) n n) n (u64c zs) := by
  subst hn
  refine ⟨by rw [u64c_len, Nat.mul_one], by omega, _, _, rfl, Nat.le_refl _, fun _ => ⟨g, 0, rfl, Nat.zero_le _, h.lt, h.lt, fun j u hj => ?_⟩⟩
  rw [Nat.zero_add, h.cell]
  simpa using hj
theorem mixZ (n : Nat) (f : Nat → E) : mixL n f (fun _ => 0) 0 = List.replicate n 0 := by
  rw [mixL_zero]
  exact List.map_const' ..|>.trans (by rw [List.length_range])
set_option maxRecDepth 100000 in
set_option maxHeartbeats 1000000 in
theorem gApply (zs : List Int) (hn : zs.length ≤ 1000) (v : Value) (lo hi' : Nat) (w : World) (h : Rd lo hi' 1 w v zs.length (zs.map fun z => Value.int .u64 z)) (hz : ∀ z ∈ zs, 0 ≤ z ∧ z < 18446744069414584321) :
    Calls Tryz.prog 86 #[v, .func (.func 87) #[] #[]] w (RetR (ExtA (lftE zs)) w) := by
  obtain ⟨A1, cap1, rfl⟩ := h.len
  have mk := mk_ext zs.length (by omega) w
  go_enter Tryz.func86, Tryz.ntmps86
  go_wp2_with fail
  refine wp_stk1 fun W3 hB3 hz3 b3 => ?_
  clear mk hz3
  go_loopw [13] (fun i wr => ∃ k : Nat, k ≤ zs.length ∧ i = .int .i64 k ∧ Blk wr w.heap.size 86 ((mixL zs.length (fun k => eb (fz (zs.getD k 0))) (fun _ => 0) k).flatMap ec).toArray ∧ Below w.heap.size w wr) (fun i _ => zs.length - (intOf i).toNat)
  case atStart => exact ⟨0, Nat.zero_le _, rfl, by rw [mixZ]; exact b3, hB3⟩
  case round =>
    obtain ⟨k, hk, rfl, bo, hB⟩ := hrel
    by_cases hlt : k < zs.length
    · obtain ⟨z, hzj⟩ : ∃ z, zs[k]? = some z := ⟨zs[k], List.getElem?_eq_getElem hlt⟩
      obtain ⟨z0, z1⟩ := hz z (List.mem_of_getElem? hzj)
      obtain ⟨g, off, cap', hv, q1, q2, q3, q4, q5⟩ := Rd.form h (by omega)
      cases hv
      have c1 := (hB.cell (p := ⟨g, off + k, none⟩) q4).trans (q5 k (.int .u64 z) (by rw [List.getElem?_map, hzj]; rfl))
      have hst := mixL_set zs.length (fun k => eb (fz (zs.getD k 0))) (fun _ => 0) k
      simp only [show zs.getD k 0 = z by simp [List.getD, hzj]] at hst
      have HS := Lib.hid hst
      obtain ⟨s1, s2⟩ := blk_cellE bo (mixL_get zs.length (fun k => eb (fz (zs.getD k 0))) (fun _ => 0) k hlt)
      have hlen : k < (mixL zs.length (fun k => eb (fz (zs.getD k 0))) (fun _ => 0) k).length := by rw [mixL_len]; exact hlt
      generalize mixL zs.length (fun k => eb (fz (zs.getD k 0))) (fun _ => 0) k = l at *
      have hfz : fv (fz z) = z := by rw [fv_fz]; omega
      have HC := eFromBase (fz z)
      rw [hfz] at HC
      replace HC := Lib.hid HC
      have hwr := hB.size
      clear hst hzj q5 h hz hfz b3
      go_wp2_with fail
      refine (HC.out _).mono ?_
      rintro e w2 ⟨he, hb⟩
      unfold ev at he
      subst he
      have bo2 := bo.keep hb
      have e1 := bo2.frozen
      have e2 := (hb.cell (p := ⟨w.heap.size, k * 2, none⟩) bo.lt).trans s1
      have e3 := (hb.cell (p := ⟨w.heap.size, k * 2 + 1, none⟩) bo.lt).trans s2
      clear s1 s2 c1
      go_wp2
      exact ⟨⟨k + 1, by omega, by go_num, by rw [← HS.out]; exact blk_setE bo2 k _ hlen, below_setE (hB.trans (hb.mono hB.size)) (Nat.le_refl _)⟩, by simp [intOf]; omega⟩
    · obtain rfl : k = zs.length := by omega
      have hm : mixL zs.length (fun k => eb (fz (zs.getD k 0))) (fun _ => 0) zs.length = lftE zs := by
        rw [mixL_all]
        unfold lftE
        apply List.ext_getElem?
        intro i
        rw [List.getElem?_map, List.getElem?_map]
        by_cases hi : i < zs.length
        · rw [List.getElem?_range hi, List.getElem?_eq_getElem hi]; simp [List.getD, hi]
        · rw [List.getElem?_eq_none (by simpa using hi), List.getElem?_eq_none (by simpa using hi)]; rfl
      rw [hm] at bo
      go_wp2
      go_ret
      refine ⟨_, rfl, ?_, hB⟩
      unfold ExtA
      exact exts_of_blk bo (lftE_len zs) (by omega) (Nat.le_refl _) bo.lt
set_option maxRecDepth 100000 in
set_option maxHeartbeats 400000 in
theorem gLift (zs : List Int) (hn : zs.length ≤ 1000) (v : Value) (lo hi' : Nat) (w : World) (h : Rd lo hi' 1 w v zs.length (zs.map fun z => Value.int .u64 z)) (hz : ∀ z ∈ zs, 0 ≤ z ∧ z < 18446744069414584321) :
    Calls Tryz.prog 41 #[v] w (RetR (ExtA (lftE zs)) w) := by
  obtain ⟨A1, cap1, rfl⟩ := h.len
  go_enter Tryz.func41, Tryz.ntmps41
  go_wp2_with fail
  refine (gApply zs hn _ lo hi' w h hz).mono ?_
  rintro e w2 ⟨v, rfl, hv, hb⟩
  go_wp2
  go_ret
  exact ⟨v, rfl, hv, hb⟩
end Go.Proofs.YtoiampgfnidfdaaGreatDoor
namespace Go.Proofs.YtoiampgfnidfdaaGreatDoor
open Go.RowKit

attribute [local irreducible] wpRg
set_option maxRecDepth 100000 in
set_option maxHeartbeats 4000000 in
theorem rField12 (r : Rdg) (c : Nat) (hc : c < 4) (w : World) : Calls Tryz.prog 83 #[rdV r, .int .i64 (c : Int)] w (Ret (.int .i64 ([r.who, r.when, r.kind, r.value].getD c 0)) w) := by
  obtain ⟨a, b, k, v⟩ := r
  unfold rdV rdc
  dsimp only
  obtain rfl | rfl | rfl | rfl : c = 0 ∨ c = 1 ∨ c = 2 ∨ c = 3 := by omega
  all_goals
    go_enter Tryz.func83, Tryz.ntmps83
    go_upto_region 1 with (fail)
    refine wp_stk1 fun W hB hz b1 => ?_
    have e1 := b1.cell
    have l1 := b1.lt
    clear hz
    go_wp2_with fail
    go_ret
    exact ⟨rfl, hB⟩
end Go.Proofs.YtoiampgfnidfdaaGreatDoor
namespace Go.Proofs.YtoiampgfnidfdaaGreatDoor
open Go.RowKit

theorem uss_slice : Tryz.prog.underlying 82 = some (.slice 89) := by kernel_rfl
theorem us_slice : Tryz.prog.underlying 89 = some (.slice 32) := by kernel_rfl
theorem us_info : (Tryz.prog.info? 89).map (fun i => (i.zero, i.size, i.bytes)) = some (some (.slice none 0 0), 1, 24) := by kernel_rfl
theorem u64z_info : (Tryz.prog.info? 32).map (fun i => (i.zero, i.size, i.bytes)) = some (some (.int .u64 0), 1, 8) := by kernel_rfl
set_option maxRecDepth 100000 in
theorem mk_u64 (n : Nat) (hn : n ≤ 1000) (w : World) : (Instr.makeSlice 89 (.int .i64 (n : Int)) (.int .i64 (n : Int))).run Tryz.prog w = .ok (.slice (some ⟨w.heap.size, 0, none⟩) n n) (w.alloc (.cells (u64c (List.replicate n 0)).toArray 32)) := by
  obtain ⟨i0, hi0, hz0, hz1, hz2⟩ := info_parts u64z_info
  have h := run_make (P := Tryz.prog) w _ _ i0 _ us_slice hi0 hz0 .i64 .i64 (n : Int) (n : Int) (by omega) (Int.le_refl _) (by rw [hz2]; omega) (by omega)
  rw [h, Int.toNat_natCast, hz1]
  congr 4
  apply Array.ext_getElem?
  intro k
  unfold madeCells
  by_cases hk : k < n
  · simp [u64c, hk, Value.cells, Nat.mod_one]
  · rw [Array.getElem?_eq_none (by simp; omega), Array.getElem?_eq_none (by simp [u64c]; omega)]
def ColB (N : Nat) (w : World) (v : Value) (zss : List (List Int)) : Prop := ∃ vs : List Value, w.ownsRow N 89 1 v vs.length vs ∧ Al (fun u zs => ∃ g, u = .slice (some ⟨g, 0, none⟩) zs.length zs.length ∧ zs.length ≤ 1000 ∧ Blk w g 32 (u64c zs).toArray) vs zss
def CoA (w : World) (v : Value) (zss : List (List Int)) : Prop := ∃ vs : List Value, RdA 1 w v vs.length vs ∧ Al (fun u zs => RdA 1 w u zs.length (u64c zs)) vs zss
theorem CoA.keep {w X : World} {v : Value} {zss : List (List Int)} (h : CoA w v zss) (hb : Below w.heap.size w X) : CoA X v zss := by
  obtain ⟨vs, h1, h2⟩ := h
  exact ⟨vs, h1.keep hb, h2.mono fun u zs h => h.keep hb⟩
theorem CoA.len {w : World} {v : Value} {zss : List (List Int)} (h : CoA w v zss) : ∃ A cap, v = .slice A zss.length cap := by
  obtain ⟨vs, h1, h2⟩ := h
  rw [← h2.1]
  exact Rd.len h1
theorem ColB.keep {N : Nat} {w X : World} {v : Value} {bs : List (List Int)} (h : ColB N w v bs) (hb : Below w.heap.size w X) : ColB N X v bs := by
  obtain ⟨vs, h1, h2⟩ := h
  exact ⟨vs, own_below h1 (Nat.le_refl _) hb, h2.mono fun u b ⟨g, q1, q2, q3⟩ => ⟨g, q1, q2, q3.keep hb⟩⟩
theorem ColB.coa {N : Nat} {w : World} {v : Value} {bs : List (List Int)} (h : ColB N w v bs) (hn : bs.length ≤ 1000) : CoA w v bs := by
  obtain ⟨vs, h1, h2⟩ := h
  refine ⟨vs, RdA.of (Rd.of_own h1 (by rw [h2.1]; omega) (Nat.le_refl _)), h2.mono fun u b ⟨g, q1, q2, q3⟩ => ?_⟩
  rw [q1]
  exact rd_blkZ q3 rfl (by omega)
theorem ColB.snoc {N g : Nat} {w X : World} {v v' : Value} {vs : List Value} {bs : List (List Int)} {b : List Int} (h1 : w.ownsRow N 89 1 v vs.length vs) (h2 : Al (fun u zs => ∃ g, u = .slice (some ⟨g, 0, none⟩) zs.length zs.length ∧ zs.length ≤ 1000 ∧ Blk w g 32 (u64c zs).toArray) vs bs) (hb : b.length ≤ 1000) (hg : Blk w g 32 (u64c b).toArray)
    (ho : X.ownsRow N 89 1 v' (vs.length + 1) (vs ++ [.slice (some ⟨g, 0, none⟩) b.length b.length])) (hgr : w.grownBy X v.ownBlock) : ColB N X v' (bs ++ [b]) := by
  have hk : ∀ g b, Blk w g 32 (u64c b).toArray → Blk X g 32 (u64c b).toArray := fun g b hh => (hgr.block g hh.lt fun e => by
    rcases h1.2 with ⟨q, _⟩ | ⟨g', cap, cur, q, _, q3, _⟩
    · rw [q] at e; cases e
    · rw [q] at e
      cases e
      have hc := hh.symm.trans q3
      cases hc).trans hh
  refine ⟨_, by rw [List.length_append]; exact ho, ?_⟩
  exact Al.snoc (h2.mono fun u b ⟨g, q1, q2, q3⟩ => ⟨g, q1, q2, hk _ _ q3⟩) ⟨g, rfl, hb, hk _ _ hg⟩
theorem ColB.len {N : Nat} {w : World} {v : Value} {bs : List (List Int)} (h : ColB N w v bs) : ∃ A cap, v = .slice A bs.length cap := by
  obtain ⟨vs, h1, h2⟩ := h
  rw [← h2.1]
  exact own_lenR h1
def cols5 (log : Nat) (s : Stm) : List (List Int) := (List.range 5).map fun c => colZ c log s
theorem cols5_len (log : Nat) (s : Stm) : (cols5 log s).length = 5 := by simp [cols5]
theorem en_attestor_attestorref12_Columns : ∀ args w, (callFunc 39 args).run Tryz.prog w = .ok (.enter 39 args) w := enters_of Tryz.func39 (by kernel_rfl) rfl
theorem shl_log : ∀ l : Fin 4, wrap64 ((2 : Int) ^ l.val) = ((2 ^ l.val : Nat) : Int) := by decide +kernel
attribute [local irreducible] wpRg
set_option maxRecDepth 100000 in
set_option maxHeartbeats 4000000 in
theorem rColumns (s : Stm) (hr : ∀ x ∈ s, x.1.ok) (log : Nat) (hl : log ≤ 3) (hs : s.length ≤ 2 ^ log) (x : StrW) (w : World) (hx : StrIn w x s) : Calls Tryz.prog 39 #[.agg (smc x).toArray, .int .i64 (log : Int)] w fun e w' => ∃ v, e = .returned (.tuple #[v, .int .i64 0]) ∧ CoA w' v (cols5 log s) ∧ Below w.heap.size w w' := by
  obtain ⟨u1, u2⟩ := x
  obtain ⟨h1, h2⟩ := hx
  dsimp only at h1 h2
  obtain ⟨A1, cap1, rfl⟩ := Rd.len h1
  obtain ⟨A2, cap2, rfl⟩ := Rd.len h2
  obtain ⟨n, hn⟩ : ∃ n, n = s.length := ⟨_, rfl⟩
  obtain ⟨M, hM⟩ : ∃ M, M = 2 ^ log := ⟨_, rfl⟩
  have hM8 : M ≤ 8 := by rw [hM]; exact pow3 log hl
  have hnM : n ≤ M := by rw [hn, hM]; exact hs
  have hM1 : 1 ≤ M := by rw [hM]; exact Nat.one_le_two_pow
  have hsh : wrap64 ((2 : Int) ^ log) = (M : Int) := by rw [hM]; exact shl_log ⟨log, by omega⟩
  rw [← hn] at h1 h2 ⊢
  have H1 := Lib.hid h1
  have H2 := Lib.hid h2
  have HN := Lib.hid hn
  have HM := Lib.hid hM
  have HR := Lib.hid hr
  unfold smc
  dsimp only
  clear hn hM h1 h2 hs hr
  go_enter Tryz.func39, Tryz.ntmps39
  go_upto_region 1 with (fail)
  refine wp_stk1 fun W hB hz b2 => ?_
  have c0 := (b2.cell 0).trans rfl
  have c1 := (b2.cell 1).trans rfl
  have l2 := b2.lt
  clear hz
  have f0 := gw_cell (W := W) l2 c0
  go_upto_region 3 with (fail)
  refine wp_region_rg 6 [] (by kernel_rfl) (by kernel_rfl) (by kernel_rfl) trivial ?_
  iterate 6 (refine rg_det rfl rfl rfl (fun K hK => ?_); go_big_quiet_op; refine hK _ ?_; clear hK K)
  refine rg_nil (fun w' hw' hF => ?_)
  obtain ⟨z, rfl⟩ := hw'
  simp only [List.drop_succ_cons, List.drop_zero]
  have BV := hB.trans (z.h.mono hB.size)
  have b2V := b2.keep z.h
  obtain ⟨V, hV⟩ : ∃ V, V = z.w := ⟨_, rfl⟩
  rw [← hV] at BV b2V ⊢
  clear hF hV z c0 c1 f0 l2 b2 hB
  go_upto_region 6 with (fail)
  refine wp_stk1 fun Y hY hzY b6 => ?_
  obtain ⟨N, hN⟩ : ∃ N, N = V.heap.size := ⟨_, rfl⟩
  have hbN : w.heap.size < N := by rw [hN]; exact b2V.lt
  have hYN : N ≤ Y.heap.size := by rw [hN]; exact hY.size
  have HLF := Lib.hid (show ColB V.heap.size Y (.slice (some ⟨V.heap.size, 0, none⟩) 0 0) [] from ⟨[], ⟨rfl, .inr ⟨V.heap.size, 0, #[], rfl, Nat.le_refl _, b6, Nat.le_refl _, Nat.zero_le _, rfl, rfl⟩⟩, Al.nil⟩)
  have b2Y := b2V.keep hY
  have HBY := Lib.hid (BV.trans (hY.mono BV.size))
  have HB2 := Lib.hid b2Y
  have HNW : Hid (N = V.heap.size) := Lib.hid hN
  have hwN : w.heap.size ≤ N := by rw [hN]; exact BV.size
  have HWN := Lib.hid hwN
  rw [← hN] at HLF ⊢
  clear hY hzY b6 b2V BV hN b2Y hwN
  go_upto_region 7 with (fail)
  obtain ⟨iB, hiB, iB0, iB1, iB2⟩ := info_parts us_info
  have t1 : decide (M < n) = false := by simp; omega
  simp only [hsh, t1]
  clear t1
  go_loopw [6, 7] (fun q j wr => ∃ (c : Nat) (L : List (List Int)), c ≤ 5 ∧ j = .int .i64 c ∧ ColB N wr q L ∧ Hid (L.length = c) ∧ Hid (L = (List.range c).map fun c => colZ c log s) ∧ Below N Y wr) (fun _ j _ => 5 - (intOf j).toNat)
  case atStart => exact ⟨0, [], Nat.zero_le _, rfl, HLF.out, Lib.hid rfl, Lib.hid rfl, Below.refl _ _⟩
  case round =>
    obtain ⟨c, L, hc, rfl, hlf, HLI, HLE, hBq⟩ := hrel
    by_cases hc5 : c < 5
    rotate_left 1
    · obtain rfl : c = 5 := by omega
      have hco := hlf.coa (by rw [HLI.out]; decide)
      obtain ⟨A6, c6, rfl⟩ := hlf.len
      have hBz := HBY.out.trans (hBq.mono HWN.out)
      have hL : L = cols5 log s := HLE.out
      rw [hL] at hco ⊢
      rw [cols5_len] at hco ⊢
      have HC := Lib.hid hco
      have HZ := Lib.hid hBz
      clear hL hco hBz hlf hBq
      go_wp2_with fail
      exact bodyPost_ret (v := .tuple #[.slice A6 5 c6, .int .i64 0]) (by simp [results, Tryz.results39, go_sem]) rfl ⟨_, rfl, HC.out, HZ.out⟩
    have mk := mk_u64 M (by omega) wr
    have hqs := hBq.size
    have HBQ := Lib.hid hBq
    have HLQ := Lib.hid hlf
    obtain ⟨A6, c6, rfl⟩ := hlf.len
    rw [HLI.out] at HLQ ⊢
    clear hlf hBq
    go_upto_region 10 with (fail)
    refine wp_stk1 fun Z hZ hzZ b8 => ?_
    clear mk hzZ
    obtain ⟨wo, hwo⟩ : ∃ wo, wo = wr := ⟨_, rfl⟩
    subst hwo
    obtain ⟨g8, hg8⟩ : ∃ g, g = wo.heap.size := ⟨_, rfl⟩
    rw [← hg8] at b8 ⊢
    have hbz : Below N Y Z := HBQ.out.trans (hZ.mono (by omega))
    have b2Z := HB2.out.below hbz hbN
    have hg8N : N ≤ g8 := by omega
    have hgb8 : w.heap.size < g8 := by omega
    have HBZ := Lib.hid hbz
    have hkp : ∀ X, Below wo.heap.size Z X → ColB N X (.slice A6 c c6) L := fun X hX => HLQ.out.keep (hZ.trans hX)
    rw [← hg8] at hkp
    have HLZ := Lib.hid hkp
    have c0 := (b2Z.cell 0).trans rfl
    have c1 := (b2Z.cell 1).trans rfl
    have l2 := b2Z.lt
    have HB8 := Lib.hid b8
    have l8 := b8.lt
    clear hg8 hZ hbz b2Z b8 HLQ hkp
    go_upto_region 11 with (fail)
    have t2 : decide ((c : Int) < 5) = true := by simp; omega
    simp only [hsh, t2]
    clear t2
    go_loopw [9] (fun i wr => ∃ k : Nat, k ≤ n ∧ i = .int .i64 k ∧ Blk wr g8 32 (u64c (colP c log s k)).toArray ∧ Below g8 Z wr) (fun i _ => n - (intOf i).toNat)
    case atStart => exact ⟨0, Nat.zero_le _, rfl, by rw [colP_zero, ← HM.out]; exact HB8.out, Below.refl _ _⟩
    case round =>
      obtain ⟨k, hk, rfl, b8, hBz⟩ := hrel
      clear c0 c1 l2 l8
      have b2q := HB2.out.below (HBZ.out.trans (hBz.mono hg8N)) hbN
      have c0 := (b2q.cell 0).trans rfl
      have c1 := (b2q.cell 1).trans rfl
      have l2 := b2q.lt
      have hzs := hBz.size
      have HB2Q := Lib.hid b2q
      clear b2q
      by_cases hkn : k < n
      rotate_left 1
      · obtain rfl : k = n := by omega
        rw [colP_all c log s k (by rw [← HN.out]; exact Nat.le_refl _)] at b8
        have hbr : Below N Y wr := HBZ.out.trans (hBz.mono hg8N)
        have HB8Q := Lib.hid b8
        have HBR := Lib.hid hbr
        have hlz := HLZ.out wr hBz
        obtain ⟨vs, o1, o2⟩ := hlz
        have hvi : vs.length = c := o2.1.trans HLI.out
        rw [hvi] at o1
        have HO1 := Lib.hid o1
        have HO2 := Lib.hid o2
        have HVI := Lib.hid hvi
        clear b8 hBz hbr o1 o2 hvi
        go_upto_region 17 with (fail)
        clear c0 c1
        refine wp_region_lit ?_
        iterate 2 (refine wpList_plain rfl fun K hK => ?_; go_big_op; refine hK _ _ ?_; clear hK K)
        refine wpList_plain rfl fun K2 hK2 => wp_of_step (stepAt_mono (fun v47 w47 hh => ?_) (step_lit1 (cs := #[.slice (some ⟨g8, 0, none⟩) M M]) uss_slice hiB iB0 iB1 (by decide) (by decide) rfl rfl rfl))
        obtain ⟨⟨rfl, hl47, b47⟩, B47⟩ := hh
        refine hK2 _ _ ?_
        clear hK2 K2
        try simp only [Act.put, List.setIfInBounds_toArray, List.set_cons_succ, List.set_cons_zero]
        have o1 := own_below HO1.out (Nat.le_refl _) B47
        have o2 := (HO2.out.mono fun u b ⟨g, q1, q2, q3⟩ => (⟨g, q1, q2, q3.keep B47⟩ : ∃ g, u = Value.slice (some ⟨g, 0, none⟩) b.length b.length ∧ b.length ≤ 1000 ∧ Blk w47 g 32 (u64c b).toArray))
        have be2 := HB8Q.out.keep B47
        have h47 := B47.size
        have hNr := HBR.out.size
        have hBq2 := HBR.out.trans (B47.mono (by omega))
        refine wpList_app3 (u := .slice A6 c c6) (base := N) (n := wr.heap.size) (cl := [.slice (some ⟨g8, 0, none⟩) M M]) (cs := vs) rfl (.tmp 59) (.tmp 61) rfl uss_slice hiB iB0 iB1 iB2 rfl (by decide) rfl (fun v hv => by rw [List.mem_singleton.1 hv]; rfl) rfl rfl o1 b47 (by unfold maxLen; omega) (by omega) (by omega) fun v48 w48 own48 gr48 B48 hat48 => ?_
        have hlz2 := ColB.snoc (b := colZ c log s) (by rw [HVI.out]; exact o1) o2 (by rw [colZ_len, ← HM.out]; omega) be2 (by rw [HVI.out, colZ_len, ← HM.out]; exact own48) gr48
        have hBq3 := hBq2.trans B48
        have HLF2 := Lib.hid hlz2
        have HBQ3 := Lib.hid hBq3
        clear o1 o2 be2 b47 hl47 B47 hat48 own48 gr48 B48 hlz2 hBq2 hBq3 HO1 HO2 hNr
        try simp only [Act.put, List.setIfInBounds_toArray, List.set_cons_succ, List.set_cons_zero]
        go_wp2_with fail
        exact ⟨⟨c + 1, _, by omega, by go_num, HLF2.out, Lib.hid (by rw [List.length_append, HLI.out]; rfl), Lib.hid (by rw [HLE.out, List.range_succ, List.map_append]; rfl), HBQ3.out⟩, by simp [intOf]; omega⟩
      obtain ⟨⟨r, gn⟩, hrb⟩ : ∃ x, s[k]? = some x := ⟨_, List.getElem?_eq_getElem (by rw [← HN.out]; exact hkn)⟩
      obtain ⟨gl, ol, cl', hvl, hcl, hgl, hkl⟩ := RdA.form H1.out (by omega)
      cases hvl
      obtain ⟨gm, om, cm', hvm, hcm, hgm, hkm⟩ := RdA.form H2.out (by omega)
      cases hvm
      have hwr : Below w.heap.size w wr := HBY.out.trans ((HBZ.out.trans (hBz.mono hg8N)).mono HWN.out)
      have hbk := colP_set c log s k
      have hz := colV_rng c s HR.out k
      have hzv : colV c s k = amt c (r, gn) := by unfold colV; rw [hrb]
      have e8 : wr.cell? ⟨g8, k, none⟩ = some (.int .u64 ((colP c log s k).getD k 0)) := by
        rw [b8.cell, List.getElem?_toArray]
        unfold u64c
        rw [List.getElem?_map, List.getD_eq_getElem?_getD, List.getElem?_eq_getElem (by rw [colP_len, ← HM.out]; omega)]
        rfl
      have hB1 := hBz.size
      have q0 := (hwr.cell (p := ⟨gm, om + k, none⟩) hgm).trans (hkm k (.bool gn) (gnc_get hrb))
      have r0 := (hwr.cell (p := ⟨gl, ol + (k * 4 + 0), none⟩) hgl).trans (hkl _ _ (rdsc_rng hrb 0 _ rfl))
      have r1 := (hwr.cell (p := ⟨gl, ol + (k * 4 + 1), none⟩) hgl).trans (hkl _ _ (rdsc_rng hrb 1 _ rfl))
      have r2 := (hwr.cell (p := ⟨gl, ol + (k * 4 + 2), none⟩) hgl).trans (hkl _ _ (rdsc_rng hrb 2 _ rfl))
      have r3 := (hwr.cell (p := ⟨gl, ol + (k * 4 + 3), none⟩) hgl).trans (hkl _ _ (rdsc_rng hrb 3 _ rfl))
      simp only [← Nat.add_assoc, Nat.add_zero] at r0 r1 r2 r3
      have lgm := Nat.lt_of_lt_of_le hgm hwr.size
      have lgl := Nat.lt_of_lt_of_le hgl hwr.size
      have hfr := b8.frozen
      have HB8Q := Lib.hid b8
      have HBK := Lib.hid hbk
      have HZV := Lib.hid hzv
      have HBZZ := Lib.hid hBz
      obtain ⟨zo, hzo⟩ : ∃ z, z = (colP c log s k).getD k 0 := ⟨_, rfl⟩
      obtain ⟨zn, hzn⟩ : ∃ z, z = colV c s k := ⟨_, rfl⟩
      rw [← hzo] at e8
      rw [← hzn] at hz
      have HZN := Lib.hid hzn
      have l8 := b8.lt
      clear hkl hkm hrb hwr hbk hzv b8 hBz hzo hzn hgl hgm
      by_cases hc4 : c < 4
      · have HF := rField12 r c hc4
        have hg : [r.who, r.when, r.kind, r.value].getD c 0 = zn := by
          rw [HZN.out, HZV.out]
          obtain rfl | rfl | rfl | rfl : c = 0 ∨ c = 1 ∨ c = 2 ∨ c = 3 := by omega
          all_goals rfl
        rw [hg] at HF
        unfold rdV rdc at HF
        have HFF := Lib.hid HF
        clear HF hg
        go_wp2_with fail
        refine (HFF.out _).mono ?_
        rintro e w2 ⟨rfl, hb⟩
        have bo2 := HB8Q.out.keep hb
        have e1 := bo2.frozen
        have e2 := (hb.cell (p := ⟨g8, k, none⟩) l8).trans e8
        have hb2 := HBZZ.out.trans (hb.mono (Nat.le_of_lt l8))
        have HB2 := Lib.hid hb2
        have HBO := Lib.hid bo2
        clear c0 c1 q0 r0 r1 r2 r3 hfr e8 hb2 bo2
        go_wp2_with fail
        exact ⟨⟨k + 1, by omega, by go_num, by rw [← HBK.out, ← HZN.out]; exact blk_setZ HBO.out k zn, HB2.out.setCell (p := ⟨g8, k, none⟩) (Nat.le_refl _) _⟩, by simp [intOf]; omega⟩
      · obtain rfl : c = 4 := by omega
        cases gn with
        | true =>
          have hz0 : zn = 0 := by rw [HZN.out, HZV.out]; rfl
          go_wp2_with fail
          exact ⟨⟨k + 1, by omega, by go_num, by rw [colP_same 4 log s k (HZN.out.symm.trans hz0)]; exact HB8Q.out, HBZZ.out⟩, by simp [intOf]; omega⟩
        | false =>
          have hz1 : zn = 1 := by rw [HZN.out, HZV.out]; rfl
          go_wp2_with fail
          exact ⟨⟨k + 1, by omega, by go_num, by rw [← HBK.out, ← HZN.out, hz1]; exact blk_setZ HB8Q.out k 1, HBZZ.out.setCell (p := ⟨g8, k, none⟩) (Nat.le_refl _) _⟩, by simp [intOf]; omega⟩
end Go.Proofs.YtoiampgfnidfdaaGreatDoor
