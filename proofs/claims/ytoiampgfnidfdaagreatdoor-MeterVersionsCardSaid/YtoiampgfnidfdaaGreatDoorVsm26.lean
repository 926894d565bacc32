/-
  The law's play (chapter 26).
  A question of chapter 26 as the reading of the arguments gives it; what the listed variables hold.
  MeterSmall: the walk.
  The reference's Encode of a reading.
  The encoded readings of a stream, as the law builds their row.
  MeterTrees: the walk.
  The reference's Same of rows of elements, of bytes and of digests, by contract.
  What one operation changes, in mathematics (for MeterVersions).
-/
import Derived.Test.YtoiampgfnidfdaaGreatDoorStq26
import Derived.Test.YtoiampgfnidfdaaGreatDoorClm
import Derived.Test.YtoiampgfnidfdaaGreatDoorRo26
import Derived.Test.YtoiampgfnidfdaaGreatDoorStm26
import Derived.Test.YtoiampgfnidfdaaGreatDoorLf26
namespace Go.Proofs.YtoiampgfnidfdaaGreatDoor
open Go.RowKit

def qc26 (seed : Dg) (v : Value) : List Value := byc seed ++ [v]
def qv26 (seed : Dg) (v : Value) : Value := .agg (qc26 seed v).toArray
theorem qc26_len (seed : Dg) (v : Value) (h : seed.length = 32) : (qc26 seed v).length = 33 := by simp [qc26, byc_length, h]
theorem q26_seed {W : World} {g : Nat} {t : TypeId} {seed : Dg} {v : Value} (b : Blk W g t (qc26 seed v).toArray) : W.rangeAt g 0 (byc seed) := fun j u hu => by
  rw [b.cell, Nat.zero_add]
  simp only [List.getElem?_toArray]
  unfold qc26
  rw [List.getElem?_append_left (List.getElem?_eq_some_iff.1 hu).1]
  exact hu
theorem q26_l {W : World} {g : Nat} {t : TypeId} {seed : Dg} {v : Value} (b : Blk W g t (qc26 seed v).toArray) (h : seed.length = 32) : W.cell? ⟨g, 32, none⟩ = some v := by
  rw [b.cell]
  simp only [List.getElem?_toArray]
  unfold qc26
  rw [List.getElem?_append_right (by rw [byc_length, h]; exact Nat.le_refl _), byc_length, h]
  rfl
theorem opc_len (o : Op26) : (opc o).length = 6 := rfl
def plK (seed : Dg) (l : List Op26) (k : Nat) : St26 := (l.take k).foldl stepM (⟨0, seed, []⟩, [])
theorem plK_ok (seed : Dg) (hs : DgOk seed) (l : List Op26) (k : Nat) : StOk26 k (plK seed l k) :=
  (fold_ok26 (l.take k) 0 (⟨0, seed, []⟩, []) ⟨hs, Nat.le_refl _, rfl, Nat.le_refl _, fun i e l h => (by cases h), fun i e h => (by cases h)⟩).mono (by simp; omega)
theorem plK_succ (seed : Dg) (l : List Op26) (k : Nat) (o : Op26) (h : l[k]? = some o) : plK seed l (k + 1) = stepM (plK seed l k) o := by
  unfold plK
  rw [List.take_add_one, h, Option.toList_some, List.foldl_append]
  rfl
theorem plK_end (seed : Dg) (l : List Op26) (k : Nat) (h : k = l.length ∧ k ≤ 25 ∨ k = 25) : plK seed l k = playM seed l := by
  unfold plK playM
  rcases h with ⟨rfl, h⟩ | rfl
  · rw [List.take_of_length_le (Nat.le_refl _), List.take_of_length_le h]
  · rfl
theorem stt_info26 : (Tryz.prog.info? 38).map (fun i => (i.zero, i.size, i.bytes)) = some (some (.agg (stC ⟨0, List.replicate 32 0, []⟩ (.slice none 0 0) (.slice none 0 0)).toArray), 35, 88) := by kernel_rfl
theorem built_st0 : ∀ (cs : List Value), cs.length = 34 → Tryz.prog.built 38 [(0, .agg cs.toArray)] = some (cs ++ [Value.slice none 0 0]).toArray
  | a0 :: a1 :: a2 :: a3 :: [a4, a5, a6, a7, a8, a9, a10, a11, a12, a13, a14, a15, a16, a17, a18, a19, a20, a21, a22, a23, a24, a25, a26, a27, a28, a29, a30, a31, a32, a33], _ => by kernel_rfl
theorem step_buildS0 {o : Oper} {a : Act} {w : World} {x : Operand} {m : Mt} {vE : Value} (hs : m.seed.length = 32) (ho : o.op = .build 38 #[(0, x)]) (hx : a.eval x = mtV m vE) : stepAt Tryz.prog o a w fun v w' => v = .agg (stC m vE (.slice none 0 0)).toArray ∧ w' = w := by
  have hr := run_build (P := Tryz.prog) w 38 #[(0, mtV m vE)] _ (built_st0 (mtc m vE) (mtc_len m vE hs))
  unfold stepAt execOp
  simp only [ho, Sem.run_bind, List.map_toArray, List.map_cons, List.map_nil, hx, hr, Result.andThen_ok]
  exact ⟨rfl, rfl⟩
def PSt (S : Nat → Prop) (s : St26) (v : Value) (w : World) : Prop := ∃ vE vL, v = stV s.1 vE vL ∧ EpsB ⟨w, S⟩ vE s.1.eps ∧ StmsB ⟨w, S⟩ vL s.2
def StF (m : Mt) (n : Nat) (_ : Nat) (v : Value) : Prop := ∃ (x : Option Addr × Nat) (y : Option Addr × Nat), v = stV m (.slice x.1 m.eps.length x.2) (.slice y.1 n y.2)
theorem fit_pst {S : Nat → Prop} {s : St26} : Fit (Was (PSt S s)) (StF s.1 s.2.length) := ⟨was_st, fun _ => ⟨_, (none, 0), (none, 0), rfl⟩, fun n m v w h => by
  obtain ⟨w0, _, ⟨vE, vL, rfl, hE, hL⟩, _⟩ := h
  obtain ⟨A, cap, rfl⟩ := hE.len
  obtain ⟨B, cb, rfl⟩ := hL.len
  exact ⟨(A, cap), (B, cb), rfl⟩⟩
theorem pst_of {S : Nat → Prop} {s : St26} {n m : Nat} {vE vL : Value} {w : World} (h : Was (PSt S s) n m (stV s.1 vE vL) w) : EpsB ⟨w, S⟩ vE s.1.eps ∧ StmsB ⟨w, S⟩ vL s.2 := by
  obtain ⟨w0, h1, ⟨vE2, vL2, h2, h3, h5⟩, h4⟩ := h
  have hv : vE2 = vE ∧ vL2 = vL := by
    simp only [stV, stC, Value.agg.injEq, List.toArray_inj, Array.mk.injEq] at h2
    have h6 := List.append_inj' h2 rfl
    obtain ⟨h6, h7⟩ := h6
    unfold mtc at h6
    simp only [List.cons.injEq, List.append_cancel_left_eq, and_true, true_and] at h6 h7
    exact ⟨h6.symm, h7.symm⟩
  obtain ⟨rfl, rfl⟩ := hv
  subst h1
  exact ⟨h3.fwd h4, h5.fwd h4⟩
theorem pst_res {S : Nat → Prop} {s : St26} {w : World} (hS : ∀ g, w.heap.size ≤ g → S g) : ∀ r W2, (∃ vE' vL', r = .returned (stV s.1 vE' vL') ∧ EpsB (Bse.new ⟨w, S⟩ w W2) vE' s.1.eps ∧ StmsB (Bse.new ⟨w, S⟩ w W2) vL' s.2 ∧ Below w.heap.size w W2) → RetR (Was (PSt S s)) w r W2 := fun r W2 ⟨vE, vL, h1, h2, h3, h4⟩ =>
  ⟨_, h1, ⟨W2, rfl, ⟨vE, vL, rfl, eps_to h2 fun g hg _ => hS g hg, h3.le (Bse.le_of (Nat.le_refl _) fun g hg => ⟨hg.1.elim (fun h => h.1) (fun h => hS g h), rfl⟩)⟩, Below.refl _ _⟩, h4⟩
theorem stms_nil (b : Bse) : StmsB b (.slice none 0 0) [] := ⟨[], fun X _ => nil_rd X 2, Al.nil⟩
theorem q26_under : Tryz.prog.underlying 26 = some (.struct (Tryz.prog.fieldsOf 26)) := by kernel_rfl
theorem q26_size : (Tryz.prog.info? 26).map (·.size) = some 33 := by kernel_rfl
theorem en_attestor_attestorlaw26_play : ∀ args w, (callFunc 33 args).run Tryz.prog w = .ok (.enter 33 args) w := enters_of Tryz.func33 (by kernel_rfl) rfl
def PlS (g1 g3 g : Nat) : Prop := g1 ≤ g ∧ g ≠ g3 ∧ g ≠ g1 + 1
attribute [local irreducible] wpRg
set_option maxRecDepth 100000 in
set_option maxHeartbeats 8000000 in
theorem gPlay (seed : Dg) (hs : DgOk seed) (l : List Op26) (hl : l.length ≤ 140737488355327) (ho : ∀ o ∈ l, o.ok) (vO : Value) (w : World) (hO : RdA 6 w vO l.length (l.flatMap opc)) (hL : Laid w) (hSh : Lsh w) (hDb : Ldb w) : Calls Tryz.prog 33 #[qv26 seed vO] w fun e W2 => ∃ vE vL, e = .returned (stV (playM seed l).1 vE vL) ∧ EpsB ⟨W2, fun g => w.heap.size ≤ g⟩ vE (playM seed l).1.eps ∧ StmsB ⟨W2, fun g => w.heap.size ≤ g⟩ vL (playM seed l).2 ∧ Below w.heap.size w W2 := by
  obtain ⟨AO, cO, rfl⟩ := Rd.len hO
  obtain ⟨n, hn⟩ : ∃ n, n = l.length := ⟨_, rfl⟩
  rw [← hn] at hO hl ⊢
  have HN := Lib.hid hn
  have HO := Lib.hid hO
  have HL := Lib.hid hL
  have HS := Lib.hid hSh
  have HD := Lib.hid hDb
  have HS0 := Lib.hid hs
  have HOO := Lib.hid ho
  have hsl : seed.length = 32 := hs.1
  obtain ⟨Qv, hQv⟩ : ∃ S, S = qv26 seed (.slice AO n cO) := ⟨_, rfl⟩
  rw [← hQv]
  clear hn hO hL hSh hDb hs ho
  go_enter Tryz.func33, Tryz.ntmps33
  go_upto_region 1 with (fail)
  refine wp_stk2 fun W hB hz b1 b2 => ?_
  have b1' : Blk W w.heap.size 26 (qc26 seed (.slice AO n cO)).toArray := by first | exact b1 | (rw [hQv] at b1; exact b1)
  obtain ⟨z2, hz2, b2'⟩ : ∃ z : Array Value, z.size = 35 ∧ Blk W (w.heap.size + 1) 38 z := ⟨_, rfl, b2⟩
  obtain ⟨g1, hg1⟩ : ∃ g, g = w.heap.size := ⟨_, rfl⟩
  have HZ := Lib.hid hz.out
  rw [← hg1] at b1' b2' HZ ⊢
  have HG1 := Lib.hid hg1
  clear b1 b2 hz hQv hg1
  obtain ⟨iS, hiS, iS0, iS1, iS2⟩ := info_parts stt_info26
  refine wp_region_lit ?_
  iterate 1 (refine wpList_plain rfl fun K hK => ?_; go_big_op; refine hK _ _ ?_; clear hK K)
  refine wpList_plain rfl fun K2 hK2 => wp_of_step (stepAt_mono (fun v6 w6 hh => ?_) (step_loadR0 (cs := byc seed) b32_under rfl (by rw [b32_size, byc_length, hsl]) rfl rfl (q26_seed b1')))
  obtain ⟨rfl, rfl⟩ := hh
  refine hK2 _ _ ?_
  clear hK2 K2
  try simp only [Act.put, List.setIfInBounds_toArray, List.set_cons_succ, List.set_cons_zero]
  refine wpList_plain rfl fun K3 hK3 => wp_of_step (stepAt_mono (fun v7 w7 hh => ?_) (step_callv en_attestor_meter_New (gNew seed HS0.out w6) rfl rfl))
  obtain ⟨rfl, B7⟩ := hh
  refine hK3 _ _ ?_
  clear hK3 K3
  try simp only [Act.put, List.setIfInBounds_toArray, List.set_cons_succ, List.set_cons_zero]
  refine wpList_plain rfl fun K4 hK4 => wp_of_step (stepAt_mono (fun v8 w8 hh => ?_) (step_buildS0 (m := ⟨0, seed, []⟩) hsl rfl rfl))
  obtain ⟨rfl, rfl⟩ := hh
  refine hK4 _ _ ?_
  clear hK4 K4
  try simp only [Act.put, List.setIfInBounds_toArray, List.set_cons_succ, List.set_cons_zero]
  refine wpList_plain rfl fun K5 hK5 => wp_of_step (stepAt_mono (fun v3 w3 hh => ?_) (step_new0 hiS iS0 rfl))
  obtain ⟨rfl, rfl⟩ := hh
  refine hK5 _ _ ?_
  clear hK5 K5
  try simp only [Act.put, List.setIfInBounds_toArray, List.set_cons_succ, List.set_cons_zero]
  have hg1w := HG1.out
  have hzw := HZ.out
  have hW7 := B7.size
  obtain ⟨m0, hm0⟩ : ∃ m0 : Mt, m0 = ⟨0, seed, []⟩ := ⟨_, rfl⟩
  rw [← hm0]
  have hm0s : m0.seed.length = 32 := by rw [hm0]; exact hsl
  have b3 : Blk (w8.alloc (.cells (Value.agg (stC ⟨0, List.replicate 32 0, []⟩ (.slice none 0 0) (.slice none 0 0)).toArray).cells 38)) w8.heap.size 38 (stC ⟨0, List.replicate 32 0, []⟩ (.slice none 0 0) (.slice none 0 0)).toArray := World.alloc_heap_new w8 _
  have B3 := (Below.refl _ w8).alloc (Nat.le_refl _) (.cells (Value.agg (stC ⟨0, List.replicate 32 0, []⟩ (.slice none 0 0) (.slice none 0 0)).toArray).cells 38)
  generalize w8.alloc (.cells (Value.agg (stC ⟨0, List.replicate 32 0, []⟩ (.slice none 0 0) (.slice none 0 0)).toArray).cells 38) = w3 at *
  refine wpList_put rfl 38 (.tmp 3) (.tmp 8) rfl rfl (cells := stC m0 (.slice none 0 0) (.slice none 0 0)) rfl b3 (by rw [List.size_toArray, stC_len ⟨0, List.replicate 32 0, []⟩ _ _ rfl, stC_len m0 _ _ hm0s]; exact Nat.le_refl _) (by rw [stt_size26, stC_len m0 _ _ hm0s]) (stC_one _ _ _ rfl rfl) (spl_all _ _ (by rw [List.size_toArray, stC_len ⟨0, List.replicate 32 0, []⟩ _ _ rfl, stC_len m0 _ _ hm0s])) fun X hX bX => ?_
  have BX : Below w8.heap.size w8 X := below_put B3 hX (Nat.le_refl _)
  have BWX := B7.trans (BX.mono hW7)
  have b1X := b1'.keep BWX
  have b2X := b2'.keep BWX
  have hBX := hB.trans (BWX.mono hB.size)
  obtain ⟨g3, hg3⟩ : ∃ g, g = w8.heap.size := ⟨_, rfl⟩
  have hg13 : g1 + 2 ≤ g3 := by omega
  have HG3 := Lib.hid hg13
  have H1X := Lib.hid b1X
  have H2X := Lib.hid b2X
  have HBX := Lib.hid hBX
  rw [← hg3] at bX ⊢
  rw [hm0] at bX
  clear b1' b2' hB hg1w hzw hW7 hm0 hm0s b3 B3 hX BX BWX b1X b2X hBX hg3 hg13 B7 HZ
  try simp only [Act.put, List.setIfInBounds_toArray, List.set_cons_succ, List.set_cons_zero]
  go_upto_region 3 with (fail)
  go_loopw [4] (fun q wr => ∃ (k : Nat) (vE vL : Value), k ≤ n ∧ k ≤ 25 ∧ q = .int .i64 k ∧ Blk wr g3 38 (stC (plK seed l k).1 vE vL).toArray ∧ EpsB ⟨wr, PlS g1 g3⟩ vE (plK seed l k).1.eps ∧ StmsB ⟨wr, PlS g1 g3⟩ vL (plK seed l k).2 ∧ Below g3 X wr) (fun q _ => 25 - (intOf q).toNat)
  case atStart => exact ⟨0, _, _, Nat.zero_le _, by omega, rfl, bX, eps_nil _, stms_nil _, Below.refl _ _⟩
  case round =>
    clear bX
    obtain ⟨k, vE, vL, hkn, hk25, rfl, b3, hE, hT, hBr⟩ := hrel
    obtain ⟨s, hs⟩ : ∃ s, s = plK seed l k := ⟨_, rfl⟩
    rw [← hs] at b3 hE hT
    have hok : StOk26 k s := by rw [hs]; exact plK_ok seed HS0.out l k
    have b1 := H1X.out.below hBr (by have := HG3.out; omega)
    have b2 := H2X.out.below hBr (by have := HG3.out; omega)
    have hBw : Below w.heap.size w wr := HBX.out.trans (hBr.mono (by have := HG3.out; have := HG1.out; omega))
    have c32 := q26_l b1 hsl
    have l1 := b1.lt
    have HSK := Lib.hid hs
    have HOK := Lib.hid hok
    have HE := Lib.hid hE
    have HT := Lib.hid hT
    have HBR := Lib.hid hBr
    have HB2 := Lib.hid b2
    have HBW := Lib.hid hBw
    clear hs hok hE hT hBr b2 hBw
    by_cases hlt : k < n
    rotate_left 1
    · have HFN := Lib.hid (show s = playM seed l by rw [HSK.out]; exact plK_end seed l k (.inl ⟨by have := HN.out; omega, hk25⟩))
      have hsn : s.1.seed.length = 32 := HOK.out.seed.1
      obtain ⟨A, cap, rfl⟩ := HE.out.len
      obtain ⟨B, cb, rfl⟩ := HT.out.len
      have b2 := HB2.out
      have hBw := HBW.out
      go_upto_region 6 with (fail)
      clear c32 l1 b1
      refine wp_region_lit ?_
      refine wpList_plain rfl fun K8 hK8 => wp_of_step (stepAt_mono (fun v27 w27 hh => ?_) (step_loadR0 (cs := stC s.1 (.slice A s.1.eps.length cap) (.slice B s.2.length cb)) stt_under26 rfl (by rw [stt_size26, stC_len _ _ _ hsn]) rfl rfl (blk_range b3)))
      obtain ⟨rfl, rfl⟩ := hh
      refine hK8 _ _ ?_
      clear hK8 K8
      try simp only [Act.put, List.setIfInBounds_toArray, List.set_cons_succ, List.set_cons_zero]
      refine wpList_put rfl 38 (.tmp 2) (.tmp 27) rfl rfl (cells := stC s.1 (.slice A s.1.eps.length cap) (.slice B s.2.length cb)) rfl b2 (by rw [hz2, stC_len _ _ _ hsn]; exact Nat.le_refl _) (by rw [stt_size26, stC_len _ _ _ hsn]) (stC_one _ _ _ rfl rfl) (spl_all _ _ (by rw [hz2, stC_len _ _ _ hsn])) fun Z hZ bZ => ?_
      have hBZ := below_put hBw hZ (by have := HG1.out; omega)
      try simp only [Act.put, List.setIfInBounds_toArray, List.set_cons_succ, List.set_cons_zero]
      go_wp2_with fail
      refine bodyPost_ret (v := stV s.1 (.slice A s.1.eps.length cap) (.slice B s.2.length cb)) (res_row (cs := stC s.1 (.slice A s.1.eps.length cap) (.slice B s.2.length cb)) (g := g1 + 1) rfl rfl stt_under26 rfl (by rw [stt_size26, stC_len _ _ _ hsn]) bZ) rfl ?_
      rw [← HFN.out]
      exact ⟨_, _, rfl, (HE.out.pt hZ (fun h => h.2.2 rfl)).sub (fun g hg hl => by rw [← HG1.out]; exact hg.1), stms_sub (StmsB.pt HT.out hZ (fun h => h.2.2 rfl)) (fun g hg => by rw [← HG1.out]; exact hg.1), hBZ⟩
    by_cases hlt2 : k < 25
    rotate_left 1
    · have HFN := Lib.hid (show s = playM seed l by rw [HSK.out]; exact plK_end seed l k (.inr (by omega)))
      have hsn : s.1.seed.length = 32 := HOK.out.seed.1
      obtain ⟨A, cap, rfl⟩ := HE.out.len
      obtain ⟨B, cb, rfl⟩ := HT.out.len
      have b2 := HB2.out
      have hBw := HBW.out
      go_upto_region 6 with (fail)
      clear c32 l1 b1
      refine wp_region_lit ?_
      refine wpList_plain rfl fun K11 hK11 => wp_of_step (stepAt_mono (fun v27 w27 hh => ?_) (step_loadR0 (cs := stC s.1 (.slice A s.1.eps.length cap) (.slice B s.2.length cb)) stt_under26 rfl (by rw [stt_size26, stC_len _ _ _ hsn]) rfl rfl (blk_range b3)))
      obtain ⟨rfl, rfl⟩ := hh
      refine hK11 _ _ ?_
      clear hK11 K11
      try simp only [Act.put, List.setIfInBounds_toArray, List.set_cons_succ, List.set_cons_zero]
      refine wpList_put rfl 38 (.tmp 2) (.tmp 27) rfl rfl (cells := stC s.1 (.slice A s.1.eps.length cap) (.slice B s.2.length cb)) rfl b2 (by rw [hz2, stC_len _ _ _ hsn]; exact Nat.le_refl _) (by rw [stt_size26, stC_len _ _ _ hsn]) (stC_one _ _ _ rfl rfl) (spl_all _ _ (by rw [hz2, stC_len _ _ _ hsn])) fun Z hZ bZ => ?_
      have hBZ := below_put hBw hZ (by have := HG1.out; omega)
      try simp only [Act.put, List.setIfInBounds_toArray, List.set_cons_succ, List.set_cons_zero]
      go_wp2_with fail
      refine bodyPost_ret (v := stV s.1 (.slice A s.1.eps.length cap) (.slice B s.2.length cb)) (res_row (cs := stC s.1 (.slice A s.1.eps.length cap) (.slice B s.2.length cb)) (g := g1 + 1) rfl rfl stt_under26 rfl (by rw [stt_size26, stC_len _ _ _ hsn]) bZ) rfl ?_
      rw [← HFN.out]
      exact ⟨_, _, rfl, (HE.out.pt hZ (fun h => h.2.2 rfl)).sub (fun g hg hl => by rw [← HG1.out]; exact hg.1), stms_sub (StmsB.pt HT.out hZ (fun h => h.2.2 rfl)) (fun g hg => by rw [← HG1.out]; exact hg.1), hBZ⟩
    go_upto_region 5 with (fail)
    have hkl : k < l.length := by rw [← HN.out]; exact hlt
    obtain ⟨o, ho⟩ : ∃ o, l[k]? = some o := ⟨l[k], List.getElem?_eq_getElem hkl⟩
    have hoo := HOO.out o (List.mem_of_getElem? ho)
    have hsn : s.1.seed.length = 32 := HOK.out.seed.1
    have hs2n : (stepM s o).1.seed.length = 32 := (step_ok26 HOK.out o).seed.1
    have hrd : RdA 6 wr (.slice AO n cO) n (l.flatMap opc) := RdA.keep HO.out HBW.out
    obtain ⟨g, off, cap', hv, hcp, hg, hcs⟩ := RdA.at opc_len (by rw [← HN.out]; exact hrd) ho
    rw [← HN.out] at hv hcp
    cases hv
    have hrg : wr.rangeAt g (off + k * 6) (opc o) := fun j x hj => by rw [Nat.add_assoc]; exact hcs j x hj
    obtain ⟨A, cap, rfl⟩ := HE.out.len
    obtain ⟨B, cb, rfl⟩ := HT.out.len
    have k32 := gw_cell l1 c32
    have hg3w : g3 < wr.heap.size := b3.lt
    clear hrd hcs c32 hkl
    refine wp_region_rg 7 [(0, Spec.val (stV s.1 (.slice A s.1.eps.length cap) (.slice B s.2.length cb))), (5, Spec.val (.agg (opc o).toArray)), (6, Spec.rel (Was (PSt (PlS g1 g3) (stepM s o))) (StF (stepM s o).1 (stepM s o).2.length))] (by kernel_rfl) (by kernel_rfl) (by kernel_rfl) ⟨fit_pst, trivial⟩ ?_
    refine rg_val rfl rfl (fun W1 hW1 hF => step_loadR (cs := stC s.1 (.slice A s.1.eps.length cap) (.slice B s.2.length cb)) stt_under26 rfl (by rw [stt_size26, stC_len _ _ _ hsn]) rfl rfl (blk_range (b3.keep (grw_below hW1)))) ?_
    intro a' ha
    simp only [Act.put, List.setIfInBounds_toArray, List.set_cons_succ, List.set_cons_zero] at ha
    subst ha
    iterate 4 (refine rg_det rfl rfl rfl (fun K hK => ?_); go_big_quiet_op; refine hK _ ?_; clear hK K)
    refine rg_val rfl rfl (fun W1 hW1 hF => step_loadR (cs := opc o) opp_under26 rfl opp_size26 rfl rfl (range_keep hrg hg (grw_below hW1))) ?_
    intro a' ha
    simp only [Act.put, List.setIfInBounds_toArray, List.set_cons_succ, List.set_cons_zero] at ha
    subst ha
    refine rg_rel rfl rfl (fun W1 hW1 hF => step_callr en_attestor_attestorlaw26_step (((gStep k (by omega) s HOK.out o hoo (.slice A s.1.eps.length cap) (.slice B s.2.length cb) ⟨W1, PlS g1 g3⟩ W1 (Bse.ok_self _) (HL.out.keep (HBW.out.trans ((grw_below hW1).mono HBW.out.size))) (HS.out.keep (HBW.out.trans ((grw_below hW1).mono HBW.out.size))) (HD.out.keep (HBW.out.trans ((grw_below hW1).mono HBW.out.size))) (HE.out.fwd (grw_below hW1)) (HT.out.fwd (grw_below hW1))).mono (pst_res (fun g hg => by have := (grw_below hW1).size; have := HG3.out; exact ⟨by omega, by omega, by omega⟩)))) rfl rfl) ?_
    intro n6 m6 v6 hn6 hm6 hd6 hf6 a' ha
    simp only [Act.put, List.setIfInBounds_toArray, List.set_cons_succ, List.set_cons_zero] at ha
    subst ha
    obtain ⟨A6, cap6, rfl⟩ := hf6
    refine rg_nil (fun w' hw' hF => ?_)
    obtain ⟨z, rfl⟩ := hw'
    simp only [List.drop_succ_cons, List.drop_zero]
    obtain ⟨qE, qL⟩ := pst_of (end_last hF).2
    clear hF
    have b3z := b3.keep z.h
    refine wpList_put rfl 38 (.tmp 3) (.tmp 26) rfl rfl (cells := stC (stepM s o).1 (.slice A6.1 (stepM s o).1.eps.length A6.2) (.slice cap6.1 (stepM s o).2.length cap6.2)) rfl b3z (by rw [List.size_toArray, stC_len _ _ _ hsn, stC_len _ _ _ hs2n]; exact Nat.le_refl _) (by rw [stt_size26, stC_len _ _ _ hs2n]) (stC_one _ _ _ rfl rfl) (spl_all _ _ (by rw [List.size_toArray, stC_len _ _ _ hsn, stC_len _ _ _ hs2n])) fun Y hY bY => ?_
    have hBY : Below g3 X Y := below_put (HBR.out.trans (z.h.mono (by omega))) hY (Nat.le_refl _)
    have HE2 := Lib.hid (qE.pt hY (fun h => h.2.1 rfl))
    have HT2 := Lib.hid (qL.pt hY (fun h => h.2.1 rfl))
    have hps : stepM s o = plK seed l (k + 1) := by rw [plK_succ seed l k o ho, ← HSK.out]
    have HPS := Lib.hid hps
    clear hps qE qL b3z b3 hY k32
    try simp only [Act.put, List.setIfInBounds_toArray, List.set_cons_succ, List.set_cons_zero]
    go_wp2_with fail
    exact ⟨⟨k + 1, _, _, by omega, by omega, by go_num, by rw [← HPS.out]; exact bY, by rw [← HPS.out]; exact HE2.out, by rw [← HPS.out]; exact HT2.out, hBY⟩, by simp [intOf]; omega⟩
end Go.Proofs.YtoiampgfnidfdaaGreatDoor
namespace Go.Proofs.YtoiampgfnidfdaaGreatDoor
open Go.ChangeShapes Go.WideShapes Go.RowKit

def natU (v : Value) : Nat := match v with | .int _ z => z.toNat | _ => 0
theorem okd_u8 {W : World} {n : Nat} {cs : List Value} (h : Okd Tryz.prog W n 5 cs) : ∃ x : Nat, x < 256 ∧ cs = [.int .u8 (x : Int)] := by
  obtain ⟨z, e, o⟩ := okd_int Tryz.underlying5 h
  have hz := wf_u8 o
  exact ⟨z.toNat, by omega, by rw [e, Int.toNat_of_nonneg hz.1]⟩
theorem okd_bytes {W : World} {n m : Nat} {t : TypeId} {cs : List Value} (ht : Tryz.prog.underlying t = some (.array m 5)) (hc : Tryz.prog.cellsOf t = m) (h : Okd Tryz.prog W n t cs) : ∃ l : List Nat, l.length = m ∧ (∀ x ∈ l, x < 256) ∧ cs = byc l := by
  obtain ⟨h1, q, h2⟩ := okd_array ht h
  have c6 : Tryz.prog.cellsOf 5 = 1 := by kernel_rfl
  rw [hc] at h1
  have key : ∀ i, i < m → ∃ x : Nat, x < 256 ∧ cs[i]? = some (.int .u8 (x : Int)) := fun i hi => by
    have h3 := h2 i hi
    rw [c6, Nat.mul_one] at h3
    obtain ⟨x, hx, e⟩ := okd_u8 h3
    refine ⟨x, hx, ?_⟩
    have : ((cs.drop i).take 1)[0]? = some (.int .u8 (x : Int)) := by rw [e]; rfl
    simpa using this
  refine ⟨cs.map natU, by rw [List.length_map, h1], fun x hx => ?_, List.ext_getElem? fun i => ?_⟩
  · obtain ⟨v, hv, rfl⟩ := List.mem_map.1 hx
    obtain ⟨i, hi⟩ := List.getElem?_of_mem hv
    obtain ⟨x, hx, e⟩ := key i (by rw [← h1]; exact (List.getElem?_eq_some_iff.1 hi).1)
    rw [hi] at e
    rw [Option.some.inj e]
    show ((x : Int)).toNat < 256
    omega
  · rcases Nat.lt_or_ge i m with hi | hi
    · obtain ⟨x, hx, e⟩ := key i hi
      rw [e]
      unfold byc
      rw [List.getElem?_map, List.getElem?_map, e]
      rfl
    · rw [List.getElem?_eq_none (by omega), List.getElem?_eq_none (by rw [byc_length, List.length_map]; omega)]
set_option maxRecDepth 100000 in
theorem okd_op26 {W : World} {n : Nat} {cs : List Value} (h : Okd Tryz.prog W n 70 cs) : ∃ o : Op26, o.ok ∧ cs = opc o := by
  obtain ⟨h1, m, h2⟩ := okd_struct Tryz.underlying70 h
  have c1 : Tryz.prog.cellsOf 70 = 6 := by kernel_rfl
  have c6 : Tryz.prog.cellsOf 5 = 1 := by kernel_rfl
  have c3 : Tryz.prog.cellsOf 68 = 3 := by kernel_rfl
  rw [c1] at h1
  obtain ⟨a, b, c, d, e, f, rfl⟩ : ∃ a b c d e f, cs = [a, b, c, d, e, f] := by
    match cs, h1 with
    | [a, b, c, d, e, f], _ => exact ⟨a, b, c, d, e, f, rfl⟩
  obtain ⟨k0, k1, k2, k3, -⟩ := h2
  simp only [c6, c3, List.drop_zero, List.take_succ_cons, List.take_zero, List.drop_succ_cons] at k0 k1 k2 k3
  obtain ⟨x0, hx0, e0⟩ := okd_u8 k0
  obtain ⟨l, hl, hl2, e1⟩ := okd_bytes Tryz.underlying68 c3 k1
  obtain ⟨x2, hx2, e2⟩ := okd_u8 k2
  obtain ⟨x3, hx3, e3⟩ := okd_u8 k3
  obtain ⟨y0, y1, y2, rfl⟩ : ∃ y0 y1 y2, l = [y0, y1, y2] := by
    match l, hl with
    | [a, b, c], _ => exact ⟨a, b, c, rfl⟩
  simp only [byc, List.map_cons, List.map_nil, List.cons.injEq, and_true] at e0 e1 e2 e3
  obtain ⟨e1a, e1b, e1c⟩ := e1
  subst e0; subst e1a; subst e1b; subst e1c; subst e2; subst e3
  exact ⟨⟨x0, y0, y1, y2, x2, x3⟩, ⟨hx0, hl2 _ (by simp), hl2 _ (by simp), hl2 _ (by simp), hx2, hx3⟩, rfl⟩
theorem okd_ops26 {W : World} {n : Nat} {cs : List Value} (h : Okd Tryz.prog W n 24 cs) : ∃ v, cs = [v] ∧ ∃ l : List Op26, Rd 0 W.heap.size 6 W v l.length (l.flatMap opc) ∧ ∀ o ∈ l, o.ok :=
  okd_slice opc Op26.ok (by decide) opc_len Tryz.underlying24 (by kernel_rfl) (Nat.le_of_ble_eq_true (by kernel_rfl)) (fun n cs h => okd_op26 h) h
set_option maxRecDepth 100000 in
theorem okd_q26 {W : World} {n : Nat} {cs : List Value} (h : Okd Tryz.prog W n 26 cs) : ∃ (seed : Dg) (l : List Op26) (vO : Value), cs = qc26 seed vO ∧ DgOk seed ∧ l.length ≤ 140737488355327 ∧ (∀ o ∈ l, o.ok) ∧ RdA 6 W vO l.length (l.flatMap opc) := by
  obtain ⟨h1, m, h2⟩ := okd_struct Tryz.underlying26 h
  have c1 : Tryz.prog.cellsOf 26 = 33 := by kernel_rfl
  have c2 : Tryz.prog.cellsOf 23 = 32 := by kernel_rfl
  have c3 : Tryz.prog.cellsOf 24 = 1 := by kernel_rfl
  rw [c1] at h1
  obtain ⟨k0, k1, -⟩ := h2
  dsimp only at k0 k1
  rw [c2] at k0
  rw [c3] at k1
  obtain ⟨seed, hs1, hs2, e0⟩ := okd_bytes Tryz.underlying23 c2 k0
  obtain ⟨v, e1, l, hl1, hl2⟩ := okd_ops26 k1
  refine ⟨seed, l, v, ?_, ⟨hs1, hs2⟩, hl1.2.1, hl2, hl1⟩
  rw [List.drop_zero] at e0
  unfold qc26
  rw [← e0, ← e1, List.take_of_length_le (l := cs.drop 32) (by rw [List.length_drop]; omega), List.take_append_drop]
theorem u8_laid {W : World} {nm : String} {g : Nat} {t : TypeId} {cs : Array Value} {fuel n : Nat} {d : DataW Unit} {p : List MemPlace} (zs : List Int) (hg : Tryz.prog.globalNamed nm = some g) (ht : Tryz.prog.underlying t = some (.array n 5)) (hv : W.var? Tryz.prog nm = some cs)
    (hd : DataW.trod (fun _ => ()) Tryz.prog W 0 (fun _ => true) false fuel t cs.toList = some (d, p)) (hz : d = .agg (zs.map fun z => .lit (.int .u8 z))) (hn : zs.length = n) : W.rangeAt g 0 (zs.map fun z => Value.int .u8 z) := by
  obtain ⟨xs, m, _, ex, _, hl, hel⟩ := DataW.trod_array ht hd
  have c5 : Tryz.prog.cellsOf 5 = 1 := by kernel_rfl
  intro r v hr
  have hr' : r < n := by
    rw [← hn]
    have := (List.getElem?_eq_some_iff.1 hr).1
    rwa [List.length_map] at this
  have hE := hel r hr'
  rw [c5, Nat.mul_one, List.getElem?_eq_getElem (by omega)] at hE
  obtain ⟨z, e1, e2, _⟩ := DataW.trod_int Tryz.underlying5 hE
  have e3 : (xs.map (·.1)) = zs.map fun n => .lit (.int .u8 n) := (DataW.agg.inj ((Prod.mk.inj ex).1.symm.trans hz))
  have e4 : (xs.map (·.1))[r]? = (zs.map fun n => (DataW.lit (.int .u8 n) : DataW Unit))[r]? := by rw [e3]
  rw [List.getElem?_map, List.getElem?_map, List.getElem?_eq_getElem (by omega : r < xs.length), List.getElem?_eq_getElem (by omega : r < zs.length), e2] at e4
  rw [List.getElem?_map, List.getElem?_eq_getElem (by omega : r < zs.length)] at hr
  simp only [Option.map_some, Option.some.injEq, DataW.lit.injEq, Lit.int.injEq, true_and] at e4 hr
  rw [← e4] at hr
  rw [Nat.zero_add, World.var?_cell hg hv r, ← hr]
  have : cs.toList[r]? = some (.int .u8 z) := by
    have h0 : ((cs.toList.drop r).take 1)[0]? = some (.int .u8 z) := by rw [e1]; rfl
    simpa using h0
  simpa using this
theorem gDbt : Tryz.prog.globalNamed "math/bits.deBruijn64tab" = some 3 := by kernel_rfl
theorem tDbt : (Tryz.prog.globals[3]?).map (·.type) = some 162 := by kernel_rfl
def dbZ : List Int := [0, 1, 56, 2, 57, 49, 28, 3, 61, 58, 42, 50, 38, 29, 17, 4, 62, 47, 59, 36, 45, 43, 51, 22, 53, 39, 33, 30, 24, 18, 12, 5, 63, 55, 48, 27, 60, 41, 37, 16, 46, 35, 44, 21, 52, 32, 23, 11, 54, 26, 40, 15, 34, 20, 31, 10, 25, 14, 19, 9, 13, 8, 7, 6]
theorem db_laid : (Rows.laid_math_bits_deBruijn64tab : DataW Unit) = .agg (dbZ.map fun z => .lit (.int .u8 z)) := by kernel_rfl
theorem cell_lt {W : World} {g i : Nat} {v : Value} (h : W.cell? ⟨g, i, none⟩ = some v) : g < W.heap.size := by
  rcases Nat.lt_or_ge g W.heap.size with h1 | h1
  · exact h1
  · simp only [World.cell?] at h; rw [Array.getElem?_eq_none h1] at h; cases h
set_option maxRecDepth 100000 in
theorem laid_of5 {W : World} (h : laidMetH Tryz.prog [("math/bits.deBruijn32tab", Rows.laid_math_bits_deBruijn32tab), ("math/bits.deBruijn64tab", Rows.laid_math_bits_deBruijn64tab), ("attestor/mle.one", Rows.laid_attestor_mle_one), ("attestor/sha256.constants", Rows.laid_attestor_sha256_constants), ("attestor/sha256.initial", Rows.laid_attestor_sha256_initial)] W) : Laid W ∧ Lsh W ∧ Ldb W := by
  rw [MakeChecks.laidMetH_plain _ _ _ (by kernel_rfl)] at h
  obtain ⟨ps, ⟨g8, t8, cs8, f8, p8, q8, hg8, ht8, hv8, hd8, ⟨g9, t9, cs9, f9, p9, q9, hg9, ht9, hv9, hd9, ⟨g0, t0, cs0, f0, p0, q0, hg0, ht0, hv0, hd0, ⟨g1, t1, cs1, f1, p1, q1, hg1, ht1, hv1, hd1, ⟨g2, t2, cs2, f2, p2, q2, hg2, ht2, hv2, hd2, _, _⟩, _⟩, _⟩, _⟩, _⟩, _, _⟩ := h
  obtain rfl := Option.some.inj (gCon.symm.trans hg1)
  obtain rfl := Option.some.inj (tCon.symm.trans ht1)
  obtain rfl := Option.some.inj (gIni.symm.trans hg2)
  obtain rfl := Option.some.inj (tIni.symm.trans ht2)
  obtain rfl := Option.some.inj (gDbt.symm.trans hg9)
  obtain rfl := Option.some.inj (tDbt.symm.trans ht9)
  have r2 := u32_laid conZ gCon Tryz.underlying188 hv1 hd1 con_laid (by kernel_rfl)
  have r1 := u32_laid [1779033703, 3144134277, 1013904242, 2773480762, 1359893119, 2600822924, 528734635, 1541459225] gIni Tryz.underlying172 hv2 hd2 rfl rfl
  have r9 := u8_laid dbZ gDbt Tryz.underlying162 hv9 hd9 db_laid rfl
  rw [← con_zs] at r2
  rw [← ini_zs] at r1
  have d0 := r9 0 _ rfl
  have d1 := r9 1 _ rfl
  have d3 := r9 3 _ rfl
  have d7 := r9 7 _ rfl
  exact ⟨laid_of1 hg0 ht0 hv0 hd0, ⟨r1, r2, cell_lt (r1 0 _ rfl), cell_lt (r2 0 _ rfl)⟩, ⟨d0, d1, d3, d7, cell_lt d0⟩⟩
end Go.Proofs.YtoiampgfnidfdaaGreatDoor
namespace Go.Proofs.YtoiampgfnidfdaaGreatDoor
open Go.RowKit

theorem ep_info26 : (Tryz.prog.info? 75).map (fun i => (i.zero, i.size, i.bytes)) = some (some (.agg #[.int .i64 0, .int .i64 0, .bool false, .slice none 0 0, .slice none 0 0]), 5, 72) := by kernel_rfl
attribute [local irreducible] wpRg
end Go.Proofs.YtoiampgfnidfdaaGreatDoor
namespace Go.Proofs.YtoiampgfnidfdaaGreatDoor
open Go.RowKit

attribute [local irreducible] wpRg
end Go.Proofs.YtoiampgfnidfdaaGreatDoor
namespace Go.Proofs.YtoiampgfnidfdaaGreatDoor
open Go.RowKit

def LfB (N : Nat) (w : World) (v : Value) (bs : List (List Nat)) : Prop := ∃ vs : List Value, w.ownsRow N 56 1 v vs.length vs ∧ Al (fun u b => ∃ g, u = .slice (some ⟨g, 0, none⟩) 3 3 ∧ b.length = 3 ∧ Blk w g 5 (byc b).toArray) vs bs
theorem LfB.keep {N : Nat} {w X : World} {v : Value} {bs : List (List Nat)} (h : LfB N w v bs) (hb : Below w.heap.size w X) : LfB N X v bs := by
  obtain ⟨vs, h1, h2⟩ := h
  exact ⟨vs, own_below h1 (Nat.le_refl _) hb, h2.mono fun u b ⟨g, q1, q2, q3⟩ => ⟨g, q1, q2, q3.keep hb⟩⟩
theorem LfB.bs {N : Nat} {w : World} {v : Value} {bs : List (List Nat)} (h : LfB N w v bs) (hn : bs.length ≤ 1000000) : BsA w v bs := by
  obtain ⟨vs, h1, h2⟩ := h
  refine ⟨vs, RdA.of (Rd.of_own h1 (by rw [h2.1]; omega) (Nat.le_refl _)), h2.mono fun u b ⟨g, q1, q2, q3⟩ => ?_⟩
  rw [q1]
  have := bys_blk (lo := 0) (hi := w.heap.size) q3 (by omega) (Nat.zero_le _) q3.lt
  rw [q2] at this
  exact this
theorem LfB.snoc {N g : Nat} {w X : World} {v v' : Value} {vs : List Value} {bs : List (List Nat)} {b : List Nat} (h1 : w.ownsRow N 56 1 v vs.length vs) (h2 : Al (fun u b => ∃ g, u = .slice (some ⟨g, 0, none⟩) 3 3 ∧ b.length = 3 ∧ Blk w g 5 (byc b).toArray) vs bs) (hb : b.length = 3) (hg : Blk w g 5 (byc b).toArray)
    (ho : X.ownsRow N 56 1 v' (vs.length + 1) (vs ++ [.slice (some ⟨g, 0, none⟩) 3 3])) (hgr : w.grownBy X v.ownBlock) : LfB N X v' (bs ++ [b]) := by
  have hk : ∀ g b, Blk w g 5 (byc b).toArray → Blk X g 5 (byc b).toArray := fun g b hh => (hgr.block g hh.lt fun e => by
    rcases h1.2 with ⟨q, _⟩ | ⟨g', cap, cur, q, _, q3, _⟩
    · rw [q] at e; cases e
    · rw [q] at e
      cases e
      have hc := hh.symm.trans q3
      cases hc).trans hh
  refine ⟨_, by rw [List.length_append]; exact ho, ?_⟩
  exact Al.snoc (h2.mono fun u b ⟨g, q1, q2, q3⟩ => ⟨g, q1, q2, hk _ _ q3⟩) ⟨g, rfl, hb, hk _ _ hg⟩
theorem LfB.len {N : Nat} {w : World} {v : Value} {bs : List (List Nat)} (h : LfB N w v bs) : ∃ A cap, v = .slice A bs.length cap := by
  obtain ⟨vs, h1, h2⟩ := h
  rw [← h2.1]
  exact own_lenR h1
end Go.Proofs.YtoiampgfnidfdaaGreatDoor
namespace Go.Proofs.YtoiampgfnidfdaaGreatDoor
open Go.RowKit

attribute [local irreducible] wpRg keyD sha leafD pairD
end Go.Proofs.YtoiampgfnidfdaaGreatDoor
namespace Go.Proofs.YtoiampgfnidfdaaGreatDoor
open Go.RowKit

theorem en_attestor_attestorref07_SameBytes : ∀ args w, (callFunc 28 args).run Tryz.prog w = .ok (.enter 28 args) w := enters_of Tryz.func28 (by kernel_rfl) rfl
theorem ext_cs26 (x F : E) : x = F ∨ (x ≠ F ∧ fv x.a ≠ fv F.a) ∨ (x ≠ F ∧ fv x.a = fv F.a ∧ fv x.b ≠ fv F.b) := by
  by_cases ha : fv x.a = fv F.a
  · by_cases hb : fv x.b = fv F.b
    · exact .inl (E.ext_ (fv_inj ha) (fv_inj hb))
    · exact .inr (.inr ⟨fun e => hb (by rw [e]), ha, hb⟩)
  · exact .inr (.inl ⟨fun e => ha (by rw [e]), ha⟩)
theorem tk_ne26 {xs ys : List E} {k : Nat} {x y : E} (hx : xs[k]? = some x) (hy : ys[k]? = some y) (h : x ≠ y) : xs ≠ ys := fun e => by
  subst e
  rw [hx] at hy
  exact h (Option.some.inj hy)
theorem tk_eq26 {xs ys : List E} {k : Nat} {x : E} (hx : xs[k]? = some x) (hy : ys[k]? = some x) (h : xs.take k = ys.take k) : xs.take (k + 1) = ys.take (k + 1) := by
  rw [List.take_add_one, List.take_add_one, hx, hy, h]
set_option maxRecDepth 100000 in
set_option maxHeartbeats 2000000 in
theorem rSame2 (xs ys : List E) (v1 v2 : Value) (lo1 hi1 lo2 hi2 : Nat) (w : World) (h1 : ExtS lo1 hi1 w v1 xs) (h2 : ExtS lo2 hi2 w v2 ys) :
    Calls Tryz.prog 38 #[v1, v2] w (Ret (.bool (decide (xs = ys))) w) := by
  obtain ⟨A1, cap1, rfl⟩ := h1.len
  obtain ⟨A2, cap2, rfl⟩ := h2.len
  have hlen := h1.2.1
  have hlen2 := h2.2.1
  have H1 := Lib.hid h1
  have H2 := Lib.hid h2
  clear h1 h2
  obtain ⟨n, hn⟩ : ∃ n, n = xs.length := ⟨_, rfl⟩
  obtain ⟨m, hm⟩ : ∃ m, m = ys.length := ⟨_, rfl⟩
  obtain ⟨b, hb⟩ : ∃ b, b = decide (xs = ys) := ⟨_, rfl⟩
  rw [← hn] at H1 hlen
  rw [← hm] at H2 hlen2
  rw [← hn, ← hm, ← hb]
  have Hb := Lib.hid hb
  have Hn := Lib.hid hn
  have Hm := Lib.hid hm
  clear hb hn hm
  by_cases hnm : n = m
  · subst hnm
    have hnn : (((n : Int) != (n : Int))) = false := by simp
    go_enter Tryz.func38, Tryz.ntmps38
    go_wp2
    go_loopw [5] (fun i wr => ∃ k : Nat, k ≤ n ∧ i = .int .i64 k ∧ xs.take k = ys.take k ∧ Below w.heap.size w wr) (fun i _ => n - (intOf i).toNat)
    case atStart => exact ⟨0, Nat.zero_le _, rfl, rfl, Below.refl _ _⟩
    case round =>
      obtain ⟨k, hk, rfl, htk, hB⟩ := hrel
      have HTk := Lib.hid htk
      clear htk
      by_cases hlt : k < n
      · obtain ⟨g, off, cap', hv, q1, q2, q3, q4, q5⟩ := exts_cells H1.out (by rw [← Hn.out]; omega)
        rw [← Hn.out] at hv
        cases hv
        obtain ⟨g', off', cap'', hv, r1, r2, r3, r4, r5⟩ := exts_cells H2.out (by rw [← Hm.out]; omega)
        rw [← Hm.out] at hv
        cases hv
        obtain ⟨x, hx⟩ : ∃ x, xs[k]? = some x := ⟨_, List.getElem?_eq_getElem (by rw [← Hn.out]; exact hlt)⟩
        obtain ⟨y, hy⟩ : ∃ y, ys[k]? = some y := ⟨_, List.getElem?_eq_getElem (by rw [← Hm.out]; exact hlt)⟩
        obtain ⟨d1, d2⟩ := q5 k x hx
        obtain ⟨d3, d4⟩ := r5 k y hy
        have c1 := gw_cell (W := wr) (Nat.lt_of_lt_of_le q4 hB.size) ((hB.cell (p := ⟨g, off + k * 2, none⟩) q4).trans d1)
        have c2 := gw_cell (W := wr) (Nat.lt_of_lt_of_le q4 hB.size) ((hB.cell (p := ⟨g, off + k * 2 + 1, none⟩) q4).trans d2)
        have c3 := gw_cell (W := wr) (Nat.lt_of_lt_of_le r4 hB.size) ((hB.cell (p := ⟨g', off' + k * 2, none⟩) r4).trans d3)
        have c4 := gw_cell (W := wr) (Nat.lt_of_lt_of_le r4 hB.size) ((hB.cell (p := ⟨g', off' + k * 2 + 1, none⟩) r4).trans d4)
        have HX := Lib.hid hx
        have HY := Lib.hid hy
        clear q5 r5 d1 d2 d3 d4 hx hy
        rcases ext_cs26 x y with rfl | ⟨hne, hq⟩ | ⟨hne, hq1, hq⟩
        · go_wp2
          refine wp_region_rg 9 [] (by kernel_rfl) (by kernel_rfl) (by kernel_rfl) trivial ?_
          iterate 9 (refine rg_det rfl rfl rfl (fun K hK => ?_); go_big_quiet_op; refine hK _ ?_; clear hK K)
          refine rg_nil (fun w' hw' hF => ?_)
          obtain ⟨z, rfl⟩ := hw'
          simp only [List.drop_succ_cons, List.drop_zero]
          go_wp2
          exact ⟨⟨k + 1, by omega, by go_num, tk_eq26 HX.out HY.out HTk.out, hB.trans (z.h.mono hB.size)⟩, by simp [intOf]; omega⟩
        · have hb : b = false := by rw [Hb.out]; exact decide_eq_false (tk_ne26 HX.out HY.out hne)
          clear hne
          subst hb
          go_wp2
          refine wp_region_rg 9 [] (by kernel_rfl) (by kernel_rfl) (by kernel_rfl) trivial ?_
          iterate 9 (refine rg_det rfl rfl rfl (fun K hK => ?_); go_big_quiet_op; refine hK _ ?_; clear hK K)
          refine rg_nil (fun w' hw' hF => ?_)
          obtain ⟨z, rfl⟩ := hw'
          simp only [List.drop_succ_cons, List.drop_zero]
          go_wp2
          go_ret
          exact ⟨rfl, hB.trans (z.h.mono hB.size)⟩
        · have hb : b = false := by rw [Hb.out]; exact decide_eq_false (tk_ne26 HX.out HY.out hne)
          clear hne
          subst hb
          go_wp2
          refine wp_region_rg 9 [] (by kernel_rfl) (by kernel_rfl) (by kernel_rfl) trivial ?_
          iterate 9 (refine rg_det rfl rfl rfl (fun K hK => ?_); go_big_quiet_op; refine hK _ ?_; clear hK K)
          refine rg_nil (fun w' hw' hF => ?_)
          obtain ⟨z, rfl⟩ := hw'
          simp only [List.drop_succ_cons, List.drop_zero]
          go_wp2
          go_ret
          exact ⟨rfl, hB.trans (z.h.mono hB.size)⟩
      · obtain rfl : k = n := by omega
        have hb : b = true := by
          have := HTk.out
          rw [List.take_of_length_le (by rw [← Hn.out]; exact Nat.le_refl _), List.take_of_length_le (by rw [← Hm.out]; exact Nat.le_refl _)] at this
          rw [Hb.out]
          exact decide_eq_true this
        subst hb
        go_wp2
        go_ret
        exact ⟨rfl, hB⟩
  · have hnn : (((n : Int) != (m : Int))) = true := by rw [bne_iff_ne]; omega
    have hb : b = false := by
      rw [Hb.out]
      refine decide_eq_false fun e => hnm ?_
      rw [Hn.out, Hm.out, e]
    subst hb
    clear hnm
    go_enter Tryz.func38, Tryz.ntmps38
    go_wp2
    go_ret
    exact ⟨rfl, Below.refl _ _⟩
theorem rd_cells {size n : Nat} {w : World} {v : Value} {cs : List Value} (h : RdA size w v n cs) (h0 : 0 < n) : ∃ g off cap, v = .slice (some ⟨g, off, none⟩) n cap ∧ n ≤ cap ∧ g < w.heap.size ∧ ∀ (j : Nat) u, cs[j]? = some u → w.cell? ⟨g, off + j, none⟩ = some u := RdA.form h h0
set_option maxRecDepth 100000 in
set_option maxHeartbeats 2000000 in
theorem rSameBytes (l : List Nat) (v1 v2 : Value) (w : World) (h1 : RdA 1 w v1 l.length (byc l)) (h2 : RdA 1 w v2 l.length (byc l)) : Calls Tryz.prog 28 #[v1, v2] w (Ret (.bool true) w) := by
  obtain ⟨A1, cap1, rfl⟩ := Rd.len h1
  obtain ⟨A2, cap2, rfl⟩ := Rd.len h2
  have hlen := h1.2.1
  obtain ⟨n, hn⟩ : ∃ n, n = l.length := ⟨_, rfl⟩
  rw [← hn] at h1 h2 hlen
  rw [← hn]
  have H1 := Lib.hid h1
  have H2 := Lib.hid h2
  have Hn := Lib.hid hn
  clear h1 h2 hn
  have hnn : (((n : Int) != (n : Int))) = false := by simp
  go_enter Tryz.func28, Tryz.ntmps28
  go_wp2
  go_loopw [5] (fun i wr => ∃ k : Nat, k ≤ n ∧ i = .int .i64 k ∧ Below w.heap.size w wr) (fun i _ => n - (intOf i).toNat)
  case atStart => exact ⟨0, Nat.zero_le _, rfl, Below.refl _ _⟩
  case round =>
    obtain ⟨k, hk, rfl, hB⟩ := hrel
    by_cases hlt : k < n
    · obtain ⟨g, off, cap', hv, q1, q4, q5⟩ := rd_cells H1.out (by omega)
      cases hv
      obtain ⟨g', off', cap'', hv, r1, r4, r5⟩ := rd_cells H2.out (by omega)
      cases hv
      obtain ⟨x, hx⟩ : ∃ x, l[k]? = some x := ⟨_, List.getElem?_eq_getElem (by rw [← Hn.out]; exact hlt)⟩
      have hb : (byc l)[k]? = some (.int .u8 (x : Int)) := by unfold byc; rw [List.getElem?_map, hx]; rfl
      have c1 := gw_cell (W := wr) (Nat.lt_of_lt_of_le q4 hB.size) ((hB.cell (p := ⟨g, off + k, none⟩) q4).trans (q5 k _ hb))
      have c3 := gw_cell (W := wr) (Nat.lt_of_lt_of_le r4 hB.size) ((hB.cell (p := ⟨g', off' + k, none⟩) r4).trans (r5 k _ hb))
      clear q5 r5 hb hx
      have hnx : (((x : Int) != (x : Int))) = false := by simp
      go_wp2
      refine wp_region_rg 9 [] (by kernel_rfl) (by kernel_rfl) (by kernel_rfl) trivial ?_
      iterate 9 (refine rg_det rfl rfl rfl (fun K hK => ?_); go_big_quiet_op; refine hK _ ?_; clear hK K)
      refine rg_nil (fun w' hw' hF => ?_)
      obtain ⟨z, rfl⟩ := hw'
      simp only [List.drop_succ_cons, List.drop_zero]
      go_wp2
      exact ⟨⟨k + 1, by omega, by go_num, hB.trans (z.h.mono hB.size)⟩, by simp [intOf]; omega⟩
    · obtain rfl : k = n := by omega
      go_wp2
      go_ret
      exact ⟨rfl, hB⟩
set_option maxRecDepth 100000 in
set_option maxHeartbeats 2000000 in
theorem rSameD (ds : List Dg) (v1 v2 : Value) (w : World) (h1 : DgsA w v1 ds) (h2 : DgsA w v2 ds) : Calls Tryz.prog 82 #[v1, v2] w (Ret (.bool true) w) := by
  obtain ⟨A1, cap1, rfl⟩ := DgsA.len h1
  obtain ⟨A2, cap2, rfl⟩ := DgsA.len h2
  have hlen := h1.1.2.1
  obtain ⟨n, hn⟩ : ∃ n, n = ds.length := ⟨_, rfl⟩
  rw [← hn] at h1 h2 hlen
  rw [← hn]
  have H1 := Lib.hid h1
  have H2 := Lib.hid h2
  have Hn := Lib.hid hn
  clear h1 h2 hn
  have hnn : (((n : Int) != (n : Int))) = false := by simp
  go_enter Tryz.func82, Tryz.ntmps82
  go_wp2
  go_loopw [5] (fun i wr => ∃ k : Nat, k ≤ n ∧ i = .int .i64 k ∧ Below w.heap.size w wr) (fun i _ => n - (intOf i).toNat)
  case atStart => exact ⟨0, Nat.zero_le _, rfl, Below.refl _ _⟩
  case round =>
    obtain ⟨k, hk, rfl, hB⟩ := hrel
    by_cases hlt : k < n
    · obtain ⟨d, hd⟩ : ∃ d, ds[k]? = some d := ⟨_, List.getElem?_eq_getElem (by rw [← Hn.out]; exact hlt)⟩
      obtain ⟨g, off, cap', hv, q1, q4, q5, hdk⟩ := (H1.out.keep hB).at hd
      rw [← Hn.out] at hv
      cases hv
      obtain ⟨g', off', cap'', hv, r1, r4, r5, -⟩ := (H2.out.keep hB).at hd
      rw [← Hn.out] at hv
      cases hv
      have hl := hdk.1
      have HQ := Lib.hid q5
      have HR := Lib.hid r5
      clear hd q5 r5 q1 r1
      go_wp2_with fail
      refine wp_region_rg 9 [(3, Spec.val (dgv d)), (7, Spec.val (dgv d)), (8, Spec.val (.bool false))] (by kernel_rfl) (by kernel_rfl) (by kernel_rfl) trivial ?_
      iterate 3 (refine rg_det rfl rfl rfl (fun K hK => ?_); go_big_quiet_op; refine hK _ ?_; clear hK K)
      refine rg_val rfl rfl (fun W1 hW1 hF => step_loadR (cs := byc d) b32_under rfl (by rw [b32_size, byc_length, hl]) rfl rfl (range_keep HQ.out q4 (grw_below hW1))) ?_
      intro a' ha
      simp only [Act.put, List.setIfInBounds_toArray, List.set_cons_succ, List.set_cons_zero] at ha
      subst ha
      iterate 3 (refine rg_det rfl rfl rfl (fun K hK => ?_); go_big_quiet_op; refine hK _ ?_; clear hK K)
      refine rg_val rfl rfl (fun W1 hW1 hF => step_loadR (cs := byc d) b32_under rfl (by rw [b32_size, byc_length, hl]) rfl rfl (range_keep HR.out r4 (grw_below hW1))) ?_
      intro a' ha
      simp only [Act.put, List.setIfInBounds_toArray, List.set_cons_succ, List.set_cons_zero] at ha
      subst ha
      refine rg_val rfl rfl (fun W1 hW1 hF => stepAt_mono (fun _ _ h => ⟨h.1, by rw [h.2]; exact Below.refl _ _⟩) (step_neD (d := d) rfl rfl rfl hl)) ?_
      intro a' ha
      simp only [Act.put, List.setIfInBounds_toArray, List.set_cons_succ, List.set_cons_zero] at ha
      subst ha
      refine rg_nil (fun w' hw' hF => ?_)
      obtain ⟨z, rfl⟩ := hw'
      simp only [List.drop_succ_cons, List.drop_zero]
      clear hF
      go_wp2_with fail
      exact ⟨⟨k + 1, by omega, by go_num, hB.trans (z.h.mono hB.size)⟩, by simp [intOf]; omega⟩
    · obtain rfl : k = n := by omega
      go_wp2_with fail
      go_ret
      exact ⟨rfl, hB⟩
end Go.Proofs.YtoiampgfnidfdaaGreatDoor
namespace Go.Proofs.YtoiampgfnidfdaaGreatDoor

instance decPt : DecidableEq Pt := fun a b =>
  if h : a.R = b.R ∧ a.V = b.V ∧ a.used = b.used then .isTrue (by obtain ⟨a1, a2, a3⟩ := a; obtain ⟨b1, b2, b3⟩ := b; obtain ⟨h1, h2, h3⟩ := h; dsimp only at h1 h2 h3; rw [h1, h2, h3])
  else .isFalse fun e => h (by rw [e]; exact ⟨rfl, rfl, rfl⟩)
instance decEp : DecidableEq Ep := fun a b =>
  if h : a.log = b.log ∧ a.count = b.count ∧ a.closed = b.closed ∧ a.pts = b.pts ∧ a.peaks = b.peaks then .isTrue (by obtain ⟨a1, a2, a3, a4, a5⟩ := a; obtain ⟨b1, b2, b3, b4, b5⟩ := b; obtain ⟨h1, h2, h3, h4, h5⟩ := h; dsimp only at h1 h2 h3 h4 h5; rw [h1, h2, h3, h4, h5])
  else .isFalse fun e => h (by rw [e]; exact ⟨rfl, rfl, rfl, rfl, rfl⟩)
instance decMt : DecidableEq Mt := fun a b =>
  if h : a.ver = b.ver ∧ a.seed = b.seed ∧ a.eps = b.eps then .isTrue (by obtain ⟨a1, a2, a3⟩ := a; obtain ⟨b1, b2, b3⟩ := b; obtain ⟨h1, h2, h3⟩ := h; dsimp only at h1 h2 h3; rw [h1, h2, h3])
  else .isFalse fun e => h (by rw [e]; exact ⟨rfl, rfl, rfl⟩)
def Hd (a b : Ep) : Prop := a.log = b.log → a.count = b.count → a.closed = b.closed → a.pts.length = b.pts.length → a.peaks = b.peaks
def Chg (kind : Nat) (last : Bool) (a b : Ep) : Prop :=
  Hd a b ∧ (a.closed = true → b.closed = true ∧ a.count = b.count ∧ a.pts.length = b.pts.length ∧ kind = 2 ∧ ∀ (k : Nat) p q, a.pts[k]? = some p → b.pts[k]? = some q → p.V = q.V ∧ (p.used = true → q.used = true)) ∧ (a.closed = false → last = true)
structure Vs (m n : Mt) (kind i : Nat) (ne gr : Bool) : Prop where
  ver : n.ver = m.ver + 1
  seed : n.seed = m.seed
  len : n.eps.length = m.eps.length + (if gr then 1 else 0)
  old : ∀ j a b, m.eps[j]? = some a → n.eps[j]? = some b → (ne = true ∧ j = i ∧ a ≠ b ∧ Chg kind (decide (j = m.eps.length - 1)) a b) ∨ (¬ (ne = true ∧ j = i) ∧ a = b)
  nei : ne = true → i < m.eps.length
  any : ne = true ∨ gr = true ∨ kind = 3
  one : ne = false ∨ gr = false
theorem vs_put {m : Mt} {kind i : Nat} {e : Ep} (hi : i < m.eps.length) (hc : Chg kind (decide (i = m.eps.length - 1)) (m.at i) e) (hn : m.at i ≠ e ∨ kind = 3) : Vs m (m.put i e) kind i (decide (m.at i ≠ e)) false := by
  refine ⟨rfl, rfl, by simp [Mt.put], ?_, fun _ => hi, ?_, .inr rfl⟩
  · intro j a b ha hb
    simp only [Mt.put] at hb
    by_cases hj : j = i
    · subst hj
      rw [List.getElem?_set_self hi] at hb
      rw [at_get _ _ hi] at ha
      cases ha
      cases hb
      by_cases he : m.at j = e
      · exact .inr ⟨fun h => by simpa [he] using h.1, he⟩
      · exact .inl ⟨by simp [he], rfl, he, hc⟩
    · rw [List.getElem?_set_ne (fun h => hj h.symm), ha] at hb
      exact .inr ⟨fun h => hj h.2, Option.some.inj hb⟩
  · rcases hn with hn | hn
    · exact .inl (by simp [hn])
    · exact .inr (.inr hn)
theorem vs_open {m : Mt} {kind : Nat} {e : Ep} : Vs m ⟨m.ver + 1, m.seed, m.eps ++ [e]⟩ kind 0 false true := by
  refine ⟨rfl, rfl, by simp, ?_, fun h => (by cases h), .inr (.inl rfl), .inl rfl⟩
  intro j a b ha hb
  dsimp only at hb
  rw [List.getElem?_append_left (List.getElem?_eq_some_iff.1 ha).1, ha] at hb
  exact .inr ⟨fun h => (by cases h.1), Option.some.inj hb⟩
theorem freeM_at {pts : List Pt} {k : Nat} (h : k ∈ freeM pts) : ∃ p, pts[k]? = some p ∧ p.used = false := by
  unfold freeM at h
  have h2 := (List.mem_filter.1 h).2
  cases hp : pts[k]? with
  | none => rw [hp] at h2; cases h2
  | some p => rw [hp] at h2; exact ⟨p, rfl, by simpa using h2⟩
theorem useP_at (l : List Nat) (pts : List Pt) (k : Nat) (p : Pt) (h : pts[k]? = some p) : (useP l pts)[k]? = some (if k ∈ l then { p with used := true } else p) := by
  unfold useP
  rw [List.getElem?_mapIdx, h]
  rfl
theorem step_vs {k : Nat} {s : St26} (h : StOk26 k s) (o : Op26) : stepM s o = s ∨ ∃ i ne gr, Vs s.1 (stepM s o).1 (o.kind % 8) i ne gr := by
  obtain ⟨kd, hkd⟩ : ∃ kd, kd = o.kind % 8 := ⟨_, rfl⟩
  unfold stepM
  rw [← hkd]
  split
  · split
    · refine .inr ?_
      rename_i he
      dsimp only
      unfold openM at he ⊢
      split at he
      · cases he
      · split at he
        · cases he
        · split at he
          · cases he
          · rename_i h1 h2 h3
            rw [if_neg h1, if_neg h2, if_neg h3]
            exact ⟨_, _, _, vs_open⟩
    · exact .inl rfl
  · split
    · refine .inr ?_
      rename_i he
      dsimp only
      unfold closeM at he ⊢
      split at he
      · rename_i h1
        rw [if_pos h1]
        obtain ⟨h0, ho⟩ := isOpen_at h1
        have hi : s.1.last < s.1.eps.length := by unfold Mt.last; omega
        refine ⟨_, _, _, vs_put hi ⟨fun _ _ hc => ?_, fun hc => ?_, fun _ => ?_⟩ (.inl fun e => ?_)⟩
        · dsimp only at hc
          rw [ho] at hc
          cases hc
        · rw [ho] at hc
          cases hc
        · unfold Mt.last
          simp
        · have := congrArg Ep.closed e
          rw [ho] at this
          cases this
      · cases he
    · exact .inl rfl
  · split
    · refine .inr ?_
      rename_i he
      dsimp only
      unfold spendM at he ⊢
      split at he
      · cases he
      · split at he
        · cases he
        · split at he
          · cases he
          · rename_i h1 h2 h3
            rw [if_neg h1, if_neg h2, if_neg h3]
            obtain ⟨n, hn⟩ : ∃ n, n = ((o.n % 4 : Nat) : Int).toNat := ⟨_, rfl⟩
            rw [← hn] at h2 h3 ⊢
            have hi : n < s.1.eps.length := by omega
            have hcl : (s.1.at n).closed = true := by simpa using h2
            refine ⟨_, _, _, vs_put hi ⟨fun _ _ _ _ => rfl, fun _ => ⟨hcl, rfl, by simp [useP], rfl, fun k p q hp hq => ?_⟩, fun hc => ?_⟩ (.inl fun e => ?_)⟩
            · dsimp only at hq
              rw [useP_at _ _ _ _ hp] at hq
              rw [← Option.some.inj hq]
              split
              · exact ⟨rfl, fun _ => rfl⟩
              · exact ⟨rfl, fun h => h⟩
            · rw [hcl] at hc
              cases hc
            · have e2 := congrArg Ep.pts e
              dsimp only at e2
              obtain ⟨x, hx⟩ : ∃ x, x ∈ (freeM (s.1.at n).pts).take 2 := by
                cases hf : freeM (s.1.at n).pts with
                | nil => rw [hf] at h3; exact absurd (by decide) h3
                | cons x l => exact ⟨x, by simp⟩
              obtain ⟨p, hp, hu⟩ := freeM_at (List.mem_of_mem_take hx)
              have h5 := useP_at ((freeM (s.1.at n).pts).take 2) _ _ _ hp
              rw [← e2, hp, if_pos hx] at h5
              have := congrArg Pt.used (Option.some.inj h5)
              rw [hu] at this
              cases this
    · exact .inl rfl
  · split
    · split
      · refine .inr ?_
        rename_i r _ he
        dsimp only [St26.put]
        unfold retractM at he ⊢
        split at he
        · cases he
        · split at he
          · cases he
          · split at he
            · cases he
            · rename_i h1 h2 h3
              rw [if_neg h1, if_neg h2, if_neg h3]
              obtain ⟨h0, ho⟩ := isOpen_at (m := s.1) (by simpa using h2)
              have hi : s.1.last < s.1.eps.length := by unfold Mt.last; omega
              refine ⟨_, _, _, vs_put hi ⟨fun _ _ _ _ => rfl, fun hc => ?_, fun _ => ?_⟩ (.inr rfl)⟩
              · rw [ho] at hc
                cases hc
              · unfold Mt.last
                simp
      · exact .inl rfl
    · exact .inl rfl
  · split
    · refine .inr ?_
      rename_i he
      dsimp only [St26.put]
      unfold takeM at he ⊢
      split at he
      · cases he
      · split at he
        · cases he
        · split at he
          · cases he
          · rename_i h1 h2 h3
            rw [if_neg h1, if_neg h2, if_neg h3]
            obtain ⟨h0, ho⟩ := isOpen_at (m := s.1) (by simpa using h2)
            have hi : s.1.last < s.1.eps.length := by unfold Mt.last; omega
            refine ⟨_, _, _, vs_put hi ⟨fun _ hc => ?_, fun hc => ?_, fun _ => ?_⟩ (.inl fun e => ?_)⟩
            · dsimp only at hc
              omega
            · rw [ho] at hc
              cases hc
            · unfold Mt.last
              simp
            · have := congrArg Ep.count e
              dsimp only at this
              omega
    · exact .inl rfl
end Go.Proofs.YtoiampgfnidfdaaGreatDoor
