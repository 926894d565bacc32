/-
  The law's play (chapter 26).
  A question of chapter 26 as the reading of the arguments gives it; what the listed variables hold.
  MeterSmall: the walk.
  The reference's Encode of a reading.
  The encoded readings of a stream, as the law builds their row.
  MeterTrees: the walk.
-/
import Derived.Test.YtoiampgfnidfdaaGreatDoorStq26
import Derived.Test.YtoiampgfnidfdaaGreatDoorClm
import Derived.Test.YtoiampgfnidfdaaGreatDoorRo26
import Derived.Test.YtoiampgfnidfdaaGreatDoorStm26
namespace Go.Proofs.YtoiampgfnidfdaaGreatDoor
open Go.RowKit

def qc26 (seed : Dg) (v : Value) : List Value := byc seed ++ [v]
def qv26 (seed : Dg) (v : Value) : Value := .agg (qc26 seed v).toArray
theorem qc26_len (seed : Dg) (v : Value) (h : seed.length = 32) : (qc26 seed v).length = 33 := by simp [qc26, byc_length, h]
theorem q26_seed {W : World} {g : Nat} {t : TypeId} {seed : Dg} {v : Value} (b : Blk W g t (qc26 seed v).toArray) : W.rangeAt g 0 (byc seed) := fun j u hu => by
  rw [b.cell, Nat.zero_add]
  simp only [List.getElem?_toArray]
  unfold qc26
  rw [List.getElem?_append_left (List.getElem?_eq_some_iff.1 hu).1]
  exact hu
theorem q26_l {W : World} {g : Nat} {t : TypeId} {seed : Dg} {v : Value} (b : Blk W g t (qc26 seed v).toArray) (h : seed.length = 32) : W.cell? ⟨g, 32, none⟩ = some v := by
  rw [b.cell]
  simp only [List.getElem?_toArray]
  unfold qc26
  rw [List.getElem?_append_right (by rw [byc_length, h]; exact Nat.le_refl _), byc_length, h]
  rfl
theorem opc_len (o : Op26) : (opc o).length = 6 := rfl
def plK (seed : Dg) (l : List Op26) (k : Nat) : St26 := (l.take k).foldl stepM (⟨0, seed, []⟩, [])
theorem plK_ok (seed : Dg) (hs : DgOk seed) (l : List Op26) (k : Nat) : StOk26 k (plK seed l k) :=
  (fold_ok26 (l.take k) 0 (⟨0, seed, []⟩, []) ⟨hs, Nat.le_refl _, rfl, Nat.le_refl _, fun i e l h => (by cases h), fun i e h => (by cases h)⟩).mono (by simp; omega)
theorem plK_succ (seed : Dg) (l : List Op26) (k : Nat) (o : Op26) (h : l[k]? = some o) : plK seed l (k + 1) = stepM (plK seed l k) o := by
  unfold plK
  rw [List.take_add_one, h, Option.toList_some, List.foldl_append]
  rfl
theorem plK_end (seed : Dg) (l : List Op26) (k : Nat) (h : k = l.length ∧ k ≤ 25 ∨ k = 25) : plK seed l k = playM seed l := by
  unfold plK playM
  rcases h with ⟨rfl, h⟩ | rfl
  · rw [List.take_of_length_le (Nat.le_refl _), List.take_of_length_le h]
  · rfl
theorem stt_info26 : (Tryz.prog.info? 38).map (fun i => (i.zero, i.size, i.bytes)) = some (some (.agg (stC ⟨0, List.replicate 32 0, []⟩ (.slice none 0 0) (.slice none 0 0)).toArray), 35, 88) := by kernel_rfl
theorem built_st0 : ∀ (cs : List Value), cs.length = 34 → Tryz.prog.built 38 [(0, .agg cs.toArray)] = some (cs ++ [Value.slice none 0 0]).toArray
  | a0 :: a1 :: a2 :: a3 :: [a4, a5, a6, a7, a8, a9, a10, a11, a12, a13, a14, a15, a16, a17, a18, a19, a20, a21, a22, a23, a24, a25, a26, a27, a28, a29, a30, a31, a32, a33], _ => by kernel_rfl
theorem step_buildS0 {o : Oper} {a : Act} {w : World} {x : Operand} {m : Mt} {vE : Value} (hs : m.seed.length = 32) (ho : o.op = .build 38 #[(0, x)]) (hx : a.eval x = mtV m vE) : stepAt Tryz.prog o a w fun v w' => v = .agg (stC m vE (.slice none 0 0)).toArray ∧ w' = w := by
  have hr := run_build (P := Tryz.prog) w 38 #[(0, mtV m vE)] _ (built_st0 (mtc m vE) (mtc_len m vE hs))
  unfold stepAt execOp
  simp only [ho, Sem.run_bind, List.map_toArray, List.map_cons, List.map_nil, hx, hr, Result.andThen_ok]
  exact ⟨rfl, rfl⟩
def PSt (S : Nat → Prop) (s : St26) (v : Value) (w : World) : Prop := ∃ vE vL, v = stV s.1 vE vL ∧ EpsB ⟨w, S⟩ vE s.1.eps ∧ StmsB ⟨w, S⟩ vL s.2
def StF (m : Mt) (n : Nat) (_ : Nat) (v : Value) : Prop := ∃ (x : Option Addr × Nat) (y : Option Addr × Nat), v = stV m (.slice x.1 m.eps.length x.2) (.slice y.1 n y.2)
theorem fit_pst {S : Nat → Prop} {s : St26} : Fit (Was (PSt S s)) (StF s.1 s.2.length) := ⟨was_st, fun _ => ⟨_, (none, 0), (none, 0), rfl⟩, fun n m v w h => by
  obtain ⟨w0, _, ⟨vE, vL, rfl, hE, hL⟩, _⟩ := h
  obtain ⟨A, cap, rfl⟩ := hE.len
  obtain ⟨B, cb, rfl⟩ := hL.len
  exact ⟨(A, cap), (B, cb), rfl⟩⟩
theorem pst_of {S : Nat → Prop} {s : St26} {n m : Nat} {vE vL : Value} {w : World} (h : Was (PSt S s) n m (stV s.1 vE vL) w) : EpsB ⟨w, S⟩ vE s.1.eps ∧ StmsB ⟨w, S⟩ vL s.2 := by
  obtain ⟨w0, h1, ⟨vE2, vL2, h2, h3, h5⟩, h4⟩ := h
  have hv : vE2 = vE ∧ vL2 = vL := by
    simp only [stV, stC, Value.agg.injEq, List.toArray_inj, Array.mk.injEq] at h2
    have h6 := List.append_inj' h2 rfl
    obtain ⟨h6, h7⟩ := h6
    unfold mtc at h6
    simp only [List.cons.injEq, List.append_cancel_left_eq, and_true, true_and] at h6 h7
    exact ⟨h6.symm, h7.symm⟩
  obtain ⟨rfl, rfl⟩ := hv
  subst h1
  exact ⟨h3.fwd h4, h5.fwd h4⟩
theorem pst_res {S : Nat → Prop} {s : St26} {w : World} (hS : ∀ g, w.heap.size ≤ g → S g) : ∀ r W2, (∃ vE' vL', r = .returned (stV s.1 vE' vL') ∧ EpsB (Bse.new ⟨w, S⟩ w W2) vE' s.1.eps ∧ StmsB (Bse.new ⟨w, S⟩ w W2) vL' s.2 ∧ Below w.heap.size w W2) → RetR (Was (PSt S s)) w r W2 := fun r W2 ⟨vE, vL, h1, h2, h3, h4⟩ =>
  ⟨_, h1, ⟨W2, rfl, ⟨vE, vL, rfl, eps_to h2 fun g hg _ => hS g hg, h3.le (Bse.le_of (Nat.le_refl _) fun g hg => ⟨hg.1.elim (fun h => h.1) (fun h => hS g h), rfl⟩)⟩, Below.refl _ _⟩, h4⟩
theorem stms_nil (b : Bse) : StmsB b (.slice none 0 0) [] := ⟨[], fun X _ => nil_rd X 2, Al.nil⟩
theorem q26_under : Tryz.prog.underlying 26 = some (.struct (Tryz.prog.fieldsOf 26)) := by kernel_rfl
theorem q26_size : (Tryz.prog.info? 26).map (·.size) = some 33 := by kernel_rfl
theorem en_attestor_attestorlaw26_play : ∀ args w, (callFunc 33 args).run Tryz.prog w = .ok (.enter 33 args) w := enters_of Tryz.func33 (by kernel_rfl) rfl
def PlS (g1 g3 g : Nat) : Prop := g1 ≤ g ∧ g ≠ g3 ∧ g ≠ g1 + 1
attribute [local irreducible] wpRg
set_option maxRecDepth 100000 in
set_option maxHeartbeats 8000000 in
theorem gPlay (seed : Dg) (hs : DgOk seed) (l : List Op26) (hl : l.length ≤ 140737488355327) (ho : ∀ o ∈ l, o.ok) (vO : Value) (w : World) (hO : RdA 6 w vO l.length (l.flatMap opc)) (hL : Laid w) (hSh : Lsh w) (hDb : Ldb w) : Calls Tryz.prog 33 #[qv26 seed vO] w fun e W2 => ∃ vE vL, e = .returned (stV (playM seed l).1 vE vL) ∧ EpsB ⟨W2, fun g => w.heap.size ≤ g⟩ vE (playM seed l).1.eps ∧ StmsB ⟨W2, fun g => w.heap.size ≤ g⟩ vL (playM seed l).2 ∧ Below w.heap.size w W2 := by
  obtain ⟨AO, cO, rfl⟩ := Rd.len hO
  obtain ⟨n, hn⟩ : ∃ n, n = l.length := ⟨_, rfl⟩
  rw [← hn] at hO hl ⊢
  have HN := Lib.hid hn
  have HO := Lib.hid hO
  have HL := Lib.hid hL
  have HS := Lib.hid hSh
  have HD := Lib.hid hDb
  have HS0 := Lib.hid hs
  have HOO := Lib.hid ho
  have hsl : seed.length = 32 := hs.1
  obtain ⟨Qv, hQv⟩ : ∃ S, S = qv26 seed (.slice AO n cO) := ⟨_, rfl⟩
  rw [← hQv]
  clear hn hO hL hSh hDb hs ho
  go_enter Tryz.func33, Tryz.ntmps33
  go_upto_region 1 with (fail)
  refine wp_stk2 fun W hB hz b1 b2 => ?_
  have b1' : Blk W w.heap.size 26 (qc26 seed (.slice AO n cO)).toArray := by first | exact b1 | (rw [hQv] at b1; exact b1)
  obtain ⟨z2, hz2, b2'⟩ : ∃ z : Array Value, z.size = 35 ∧ Blk W (w.heap.size + 1) 38 z := ⟨_, rfl, b2⟩
  obtain ⟨g1, hg1⟩ : ∃ g, g = w.heap.size := ⟨_, rfl⟩
  have HZ := Lib.hid hz.out
  rw [← hg1] at b1' b2' HZ ⊢
  have HG1 := Lib.hid hg1
  clear b1 b2 hz hQv hg1
  obtain ⟨iS, hiS, iS0, iS1, iS2⟩ := info_parts stt_info26
  refine wp_region_lit ?_
  iterate 1 (refine wpList_plain rfl fun K hK => ?_; go_big_op; refine hK _ _ ?_; clear hK K)
  refine wpList_plain rfl fun K2 hK2 => wp_of_step (stepAt_mono (fun v6 w6 hh => ?_) (step_loadR0 (cs := byc seed) b32_under rfl (by rw [b32_size, byc_length, hsl]) rfl rfl (q26_seed b1')))
  obtain ⟨rfl, rfl⟩ := hh
  refine hK2 _ _ ?_
  clear hK2 K2
  try simp only [Act.put, List.setIfInBounds_toArray, List.set_cons_succ, List.set_cons_zero]
  refine wpList_plain rfl fun K3 hK3 => wp_of_step (stepAt_mono (fun v7 w7 hh => ?_) (step_callv en_attestor_meter_New (gNew seed HS0.out w6) rfl rfl))
  obtain ⟨rfl, B7⟩ := hh
  refine hK3 _ _ ?_
  clear hK3 K3
  try simp only [Act.put, List.setIfInBounds_toArray, List.set_cons_succ, List.set_cons_zero]
  refine wpList_plain rfl fun K4 hK4 => wp_of_step (stepAt_mono (fun v8 w8 hh => ?_) (step_buildS0 (m := ⟨0, seed, []⟩) hsl rfl rfl))
  obtain ⟨rfl, rfl⟩ := hh
  refine hK4 _ _ ?_
  clear hK4 K4
  try simp only [Act.put, List.setIfInBounds_toArray, List.set_cons_succ, List.set_cons_zero]
  refine wpList_plain rfl fun K5 hK5 => wp_of_step (stepAt_mono (fun v3 w3 hh => ?_) (step_new0 hiS iS0 rfl))
  obtain ⟨rfl, rfl⟩ := hh
  refine hK5 _ _ ?_
  clear hK5 K5
  try simp only [Act.put, List.setIfInBounds_toArray, List.set_cons_succ, List.set_cons_zero]
  have hg1w := HG1.out
  have hzw := HZ.out
  have hW7 := B7.size
  obtain ⟨m0, hm0⟩ : ∃ m0 : Mt, m0 = ⟨0, seed, []⟩ := ⟨_, rfl⟩
  rw [← hm0]
  have hm0s : m0.seed.length = 32 := by rw [hm0]; exact hsl
  have b3 : Blk (w8.alloc (.cells (Value.agg (stC ⟨0, List.replicate 32 0, []⟩ (.slice none 0 0) (.slice none 0 0)).toArray).cells 38)) w8.heap.size 38 (stC ⟨0, List.replicate 32 0, []⟩ (.slice none 0 0) (.slice none 0 0)).toArray := World.alloc_heap_new w8 _
  have B3 := (Below.refl _ w8).alloc (Nat.le_refl _) (.cells (Value.agg (stC ⟨0, List.replicate 32 0, []⟩ (.slice none 0 0) (.slice none 0 0)).toArray).cells 38)
  generalize w8.alloc (.cells (Value.agg (stC ⟨0, List.replicate 32 0, []⟩ (.slice none 0 0) (.slice none 0 0)).toArray).cells 38) = w3 at *
  refine wpList_put rfl 38 (.tmp 3) (.tmp 8) rfl rfl (cells := stC m0 (.slice none 0 0) (.slice none 0 0)) rfl b3 (by rw [List.size_toArray, stC_len ⟨0, List.replicate 32 0, []⟩ _ _ rfl, stC_len m0 _ _ hm0s]; exact Nat.le_refl _) (by rw [stt_size26, stC_len m0 _ _ hm0s]) (stC_one _ _ _ rfl rfl) (spl_all _ _ (by rw [List.size_toArray, stC_len ⟨0, List.replicate 32 0, []⟩ _ _ rfl, stC_len m0 _ _ hm0s])) fun X hX bX => ?_
  have BX : Below w8.heap.size w8 X := below_put B3 hX (Nat.le_refl _)
  have BWX := B7.trans (BX.mono hW7)
  have b1X := b1'.keep BWX
  have b2X := b2'.keep BWX
  have hBX := hB.trans (BWX.mono hB.size)
  obtain ⟨g3, hg3⟩ : ∃ g, g = w8.heap.size := ⟨_, rfl⟩
  have hg13 : g1 + 2 ≤ g3 := by omega
  have HG3 := Lib.hid hg13
  have H1X := Lib.hid b1X
  have H2X := Lib.hid b2X
  have HBX := Lib.hid hBX
  rw [← hg3] at bX ⊢
  rw [hm0] at bX
  clear b1' b2' hB hg1w hzw hW7 hm0 hm0s b3 B3 hX BX BWX b1X b2X hBX hg3 hg13 B7 HZ
  try simp only [Act.put, List.setIfInBounds_toArray, List.set_cons_succ, List.set_cons_zero]
  go_upto_region 3 with (fail)
  go_loopw [4] (fun q wr => ∃ (k : Nat) (vE vL : Value), k ≤ n ∧ k ≤ 25 ∧ q = .int .i64 k ∧ Blk wr g3 38 (stC (plK seed l k).1 vE vL).toArray ∧ EpsB ⟨wr, PlS g1 g3⟩ vE (plK seed l k).1.eps ∧ StmsB ⟨wr, PlS g1 g3⟩ vL (plK seed l k).2 ∧ Below g3 X wr) (fun q _ => 25 - (intOf q).toNat)
  case atStart => exact ⟨0, _, _, Nat.zero_le _, by omega, rfl, bX, eps_nil _, stms_nil _, Below.refl _ _⟩
  case round =>
    clear bX
    obtain ⟨k, vE, vL, hkn, hk25, rfl, b3, hE, hT, hBr⟩ := hrel
    obtain ⟨s, hs⟩ : ∃ s, s = plK seed l k := ⟨_, rfl⟩
    rw [← hs] at b3 hE hT
    have hok : StOk26 k s := by rw [hs]; exact plK_ok seed HS0.out l k
    have b1 := H1X.out.below hBr (by have := HG3.out; omega)
    have b2 := H2X.out.below hBr (by have := HG3.out; omega)
    have hBw : Below w.heap.size w wr := HBX.out.trans (hBr.mono (by have := HG3.out; have := HG1.out; omega))
    have c32 := q26_l b1 hsl
    have l1 := b1.lt
    have HSK := Lib.hid hs
    have HOK := Lib.hid hok
    have HE := Lib.hid hE
    have HT := Lib.hid hT
    have HBR := Lib.hid hBr
    have HB2 := Lib.hid b2
    have HBW := Lib.hid hBw
    clear hs hok hE hT hBr b2 hBw
    by_cases hlt : k < n
    rotate_left 1
    · have HFN := Lib.hid (show s = playM seed l by rw [HSK.out]; exact plK_end seed l k (.inl ⟨by have := HN.out; omega, hk25⟩))
      have hsn : s.1.seed.length = 32 := HOK.out.seed.1
      obtain ⟨A, cap, rfl⟩ := HE.out.len
      obtain ⟨B, cb, rfl⟩ := HT.out.len
      have b2 := HB2.out
      have hBw := HBW.out
      go_upto_region 6 with (fail)
      clear c32 l1 b1
      refine wp_region_lit ?_
      refine wpList_plain rfl fun K8 hK8 => wp_of_step (stepAt_mono (fun v27 w27 hh => ?_) (step_loadR0 (cs := stC s.1 (.slice A s.1.eps.length cap) (.slice B s.2.length cb)) stt_under26 rfl (by rw [stt_size26, stC_len _ _ _ hsn]) rfl rfl (blk_range b3)))
      obtain ⟨rfl, rfl⟩ := hh
      refine hK8 _ _ ?_
      clear hK8 K8
      try simp only [Act.put, List.setIfInBounds_toArray, List.set_cons_succ, List.set_cons_zero]
      refine wpList_put rfl 38 (.tmp 2) (.tmp 27) rfl rfl (cells := stC s.1 (.slice A s.1.eps.length cap) (.slice B s.2.length cb)) rfl b2 (by rw [hz2, stC_len _ _ _ hsn]; exact Nat.le_refl _) (by rw [stt_size26, stC_len _ _ _ hsn]) (stC_one _ _ _ rfl rfl) (spl_all _ _ (by rw [hz2, stC_len _ _ _ hsn])) fun Z hZ bZ => ?_
      have hBZ := below_put hBw hZ (by have := HG1.out; omega)
      try simp only [Act.put, List.setIfInBounds_toArray, List.set_cons_succ, List.set_cons_zero]
      go_wp2_with fail
      refine bodyPost_ret (v := stV s.1 (.slice A s.1.eps.length cap) (.slice B s.2.length cb)) (res_row (cs := stC s.1 (.slice A s.1.eps.length cap) (.slice B s.2.length cb)) (g := g1 + 1) rfl rfl stt_under26 rfl (by rw [stt_size26, stC_len _ _ _ hsn]) bZ) rfl ?_
      rw [← HFN.out]
      exact ⟨_, _, rfl, (HE.out.pt hZ (fun h => h.2.2 rfl)).sub (fun g hg hl => by rw [← HG1.out]; exact hg.1), stms_sub (StmsB.pt HT.out hZ (fun h => h.2.2 rfl)) (fun g hg => by rw [← HG1.out]; exact hg.1), hBZ⟩
    by_cases hlt2 : k < 25
    rotate_left 1
    · have HFN := Lib.hid (show s = playM seed l by rw [HSK.out]; exact plK_end seed l k (.inr (by omega)))
      have hsn : s.1.seed.length = 32 := HOK.out.seed.1
      obtain ⟨A, cap, rfl⟩ := HE.out.len
      obtain ⟨B, cb, rfl⟩ := HT.out.len
      have b2 := HB2.out
      have hBw := HBW.out
      go_upto_region 6 with (fail)
      clear c32 l1 b1
      refine wp_region_lit ?_
      refine wpList_plain rfl fun K11 hK11 => wp_of_step (stepAt_mono (fun v27 w27 hh => ?_) (step_loadR0 (cs := stC s.1 (.slice A s.1.eps.length cap) (.slice B s.2.length cb)) stt_under26 rfl (by rw [stt_size26, stC_len _ _ _ hsn]) rfl rfl (blk_range b3)))
      obtain ⟨rfl, rfl⟩ := hh
      refine hK11 _ _ ?_
      clear hK11 K11
      try simp only [Act.put, List.setIfInBounds_toArray, List.set_cons_succ, List.set_cons_zero]
      refine wpList_put rfl 38 (.tmp 2) (.tmp 27) rfl rfl (cells := stC s.1 (.slice A s.1.eps.length cap) (.slice B s.2.length cb)) rfl b2 (by rw [hz2, stC_len _ _ _ hsn]; exact Nat.le_refl _) (by rw [stt_size26, stC_len _ _ _ hsn]) (stC_one _ _ _ rfl rfl) (spl_all _ _ (by rw [hz2, stC_len _ _ _ hsn])) fun Z hZ bZ => ?_
      have hBZ := below_put hBw hZ (by have := HG1.out; omega)
      try simp only [Act.put, List.setIfInBounds_toArray, List.set_cons_succ, List.set_cons_zero]
      go_wp2_with fail
      refine bodyPost_ret (v := stV s.1 (.slice A s.1.eps.length cap) (.slice B s.2.length cb)) (res_row (cs := stC s.1 (.slice A s.1.eps.length cap) (.slice B s.2.length cb)) (g := g1 + 1) rfl rfl stt_under26 rfl (by rw [stt_size26, stC_len _ _ _ hsn]) bZ) rfl ?_
      rw [← HFN.out]
      exact ⟨_, _, rfl, (HE.out.pt hZ (fun h => h.2.2 rfl)).sub (fun g hg hl => by rw [← HG1.out]; exact hg.1), stms_sub (StmsB.pt HT.out hZ (fun h => h.2.2 rfl)) (fun g hg => by rw [← HG1.out]; exact hg.1), hBZ⟩
    go_upto_region 5 with (fail)
    have hkl : k < l.length := by rw [← HN.out]; exact hlt
    obtain ⟨o, ho⟩ : ∃ o, l[k]? = some o := ⟨l[k], List.getElem?_eq_getElem hkl⟩
    have hoo := HOO.out o (List.mem_of_getElem? ho)
    have hsn : s.1.seed.length = 32 := HOK.out.seed.1
    have hs2n : (stepM s o).1.seed.length = 32 := (step_ok26 HOK.out o).seed.1
    have hrd : RdA 6 wr (.slice AO n cO) n (l.flatMap opc) := RdA.keep HO.out HBW.out
    obtain ⟨g, off, cap', hv, hcp, hg, hcs⟩ := RdA.at opc_len (by rw [← HN.out]; exact hrd) ho
    rw [← HN.out] at hv hcp
    cases hv
    have hrg : wr.rangeAt g (off + k * 6) (opc o) := fun j x hj => by rw [Nat.add_assoc]; exact hcs j x hj
    obtain ⟨A, cap, rfl⟩ := HE.out.len
    obtain ⟨B, cb, rfl⟩ := HT.out.len
    have k32 := gw_cell l1 c32
    have hg3w : g3 < wr.heap.size := b3.lt
    clear hrd hcs c32 hkl
    refine wp_region_rg 7 [(0, Spec.val (stV s.1 (.slice A s.1.eps.length cap) (.slice B s.2.length cb))), (5, Spec.val (.agg (opc o).toArray)), (6, Spec.rel (Was (PSt (PlS g1 g3) (stepM s o))) (StF (stepM s o).1 (stepM s o).2.length))] (by kernel_rfl) (by kernel_rfl) (by kernel_rfl) ⟨fit_pst, trivial⟩ ?_
    refine rg_val rfl rfl (fun W1 hW1 hF => step_loadR (cs := stC s.1 (.slice A s.1.eps.length cap) (.slice B s.2.length cb)) stt_under26 rfl (by rw [stt_size26, stC_len _ _ _ hsn]) rfl rfl (blk_range (b3.keep (grw_below hW1)))) ?_
    intro a' ha
    simp only [Act.put, List.setIfInBounds_toArray, List.set_cons_succ, List.set_cons_zero] at ha
    subst ha
    iterate 4 (refine rg_det rfl rfl rfl (fun K hK => ?_); go_big_quiet_op; refine hK _ ?_; clear hK K)
    refine rg_val rfl rfl (fun W1 hW1 hF => step_loadR (cs := opc o) opp_under26 rfl opp_size26 rfl rfl (range_keep hrg hg (grw_below hW1))) ?_
    intro a' ha
    simp only [Act.put, List.setIfInBounds_toArray, List.set_cons_succ, List.set_cons_zero] at ha
    subst ha
    refine rg_rel rfl rfl (fun W1 hW1 hF => step_callr en_attestor_attestorlaw26_step (((gStep k (by omega) s HOK.out o hoo (.slice A s.1.eps.length cap) (.slice B s.2.length cb) ⟨W1, PlS g1 g3⟩ W1 (Bse.ok_self _) (HL.out.keep (HBW.out.trans ((grw_below hW1).mono HBW.out.size))) (HS.out.keep (HBW.out.trans ((grw_below hW1).mono HBW.out.size))) (HD.out.keep (HBW.out.trans ((grw_below hW1).mono HBW.out.size))) (HE.out.fwd (grw_below hW1)) (HT.out.fwd (grw_below hW1))).mono (pst_res (fun g hg => by have := (grw_below hW1).size; have := HG3.out; exact ⟨by omega, by omega, by omega⟩)))) rfl rfl) ?_
    intro n6 m6 v6 hn6 hm6 hd6 hf6 a' ha
    simp only [Act.put, List.setIfInBounds_toArray, List.set_cons_succ, List.set_cons_zero] at ha
    subst ha
    obtain ⟨A6, cap6, rfl⟩ := hf6
    refine rg_nil (fun w' hw' hF => ?_)
    obtain ⟨z, rfl⟩ := hw'
    simp only [List.drop_succ_cons, List.drop_zero]
    obtain ⟨qE, qL⟩ := pst_of (end_last hF).2
    clear hF
    have b3z := b3.keep z.h
    refine wpList_put rfl 38 (.tmp 3) (.tmp 26) rfl rfl (cells := stC (stepM s o).1 (.slice A6.1 (stepM s o).1.eps.length A6.2) (.slice cap6.1 (stepM s o).2.length cap6.2)) rfl b3z (by rw [List.size_toArray, stC_len _ _ _ hsn, stC_len _ _ _ hs2n]; exact Nat.le_refl _) (by rw [stt_size26, stC_len _ _ _ hs2n]) (stC_one _ _ _ rfl rfl) (spl_all _ _ (by rw [List.size_toArray, stC_len _ _ _ hsn, stC_len _ _ _ hs2n])) fun Y hY bY => ?_
    have hBY : Below g3 X Y := below_put (HBR.out.trans (z.h.mono (by omega))) hY (Nat.le_refl _)
    have HE2 := Lib.hid (qE.pt hY (fun h => h.2.1 rfl))
    have HT2 := Lib.hid (qL.pt hY (fun h => h.2.1 rfl))
    have hps : stepM s o = plK seed l (k + 1) := by rw [plK_succ seed l k o ho, ← HSK.out]
    have HPS := Lib.hid hps
    clear hps qE qL b3z b3 hY k32
    try simp only [Act.put, List.setIfInBounds_toArray, List.set_cons_succ, List.set_cons_zero]
    go_wp2_with fail
    exact ⟨⟨k + 1, _, _, by omega, by omega, by go_num, by rw [← HPS.out]; exact bY, by rw [← HPS.out]; exact HE2.out, by rw [← HPS.out]; exact HT2.out, hBY⟩, by simp [intOf]; omega⟩
end Go.Proofs.YtoiampgfnidfdaaGreatDoor
namespace Go.Proofs.YtoiampgfnidfdaaGreatDoor
open Go.ChangeShapes Go.WideShapes Go.RowKit

def natU (v : Value) : Nat := match v with | .int _ z => z.toNat | _ => 0
theorem okd_u8 {W : World} {n : Nat} {cs : List Value} (h : Okd Tryz.prog W n 5 cs) : ∃ x : Nat, x < 256 ∧ cs = [.int .u8 (x : Int)] := by
  obtain ⟨z, e, o⟩ := okd_int Tryz.underlying5 h
  have hz := wf_u8 o
  exact ⟨z.toNat, by omega, by rw [e, Int.toNat_of_nonneg hz.1]⟩
theorem okd_bytes {W : World} {n m : Nat} {t : TypeId} {cs : List Value} (ht : Tryz.prog.underlying t = some (.array m 5)) (hc : Tryz.prog.cellsOf t = m) (h : Okd Tryz.prog W n t cs) : ∃ l : List Nat, l.length = m ∧ (∀ x ∈ l, x < 256) ∧ cs = byc l := by
  obtain ⟨h1, q, h2⟩ := okd_array ht h
  have c6 : Tryz.prog.cellsOf 5 = 1 := by kernel_rfl
  rw [hc] at h1
  have key : ∀ i, i < m → ∃ x : Nat, x < 256 ∧ cs[i]? = some (.int .u8 (x : Int)) := fun i hi => by
    have h3 := h2 i hi
    rw [c6, Nat.mul_one] at h3
    obtain ⟨x, hx, e⟩ := okd_u8 h3
    refine ⟨x, hx, ?_⟩
    have : ((cs.drop i).take 1)[0]? = some (.int .u8 (x : Int)) := by rw [e]; rfl
    simpa using this
  refine ⟨cs.map natU, by rw [List.length_map, h1], fun x hx => ?_, List.ext_getElem? fun i => ?_⟩
  · obtain ⟨v, hv, rfl⟩ := List.mem_map.1 hx
    obtain ⟨i, hi⟩ := List.getElem?_of_mem hv
    obtain ⟨x, hx, e⟩ := key i (by rw [← h1]; exact (List.getElem?_eq_some_iff.1 hi).1)
    rw [hi] at e
    rw [Option.some.inj e]
    show ((x : Int)).toNat < 256
    omega
  · rcases Nat.lt_or_ge i m with hi | hi
    · obtain ⟨x, hx, e⟩ := key i hi
      rw [e]
      unfold byc
      rw [List.getElem?_map, List.getElem?_map, e]
      rfl
    · rw [List.getElem?_eq_none (by omega), List.getElem?_eq_none (by rw [byc_length, List.length_map]; omega)]
set_option maxRecDepth 100000 in
theorem okd_op26 {W : World} {n : Nat} {cs : List Value} (h : Okd Tryz.prog W n 70 cs) : ∃ o : Op26, o.ok ∧ cs = opc o := by
  obtain ⟨h1, m, h2⟩ := okd_struct Tryz.underlying70 h
  have c1 : Tryz.prog.cellsOf 70 = 6 := by kernel_rfl
  have c6 : Tryz.prog.cellsOf 5 = 1 := by kernel_rfl
  have c3 : Tryz.prog.cellsOf 68 = 3 := by kernel_rfl
  rw [c1] at h1
  obtain ⟨a, b, c, d, e, f, rfl⟩ : ∃ a b c d e f, cs = [a, b, c, d, e, f] := by
    match cs, h1 with
    | [a, b, c, d, e, f], _ => exact ⟨a, b, c, d, e, f, rfl⟩
  obtain ⟨k0, k1, k2, k3, -⟩ := h2
  simp only [c6, c3, List.drop_zero, List.take_succ_cons, List.take_zero, List.drop_succ_cons] at k0 k1 k2 k3
  obtain ⟨x0, hx0, e0⟩ := okd_u8 k0
  obtain ⟨l, hl, hl2, e1⟩ := okd_bytes Tryz.underlying68 c3 k1
  obtain ⟨x2, hx2, e2⟩ := okd_u8 k2
  obtain ⟨x3, hx3, e3⟩ := okd_u8 k3
  obtain ⟨y0, y1, y2, rfl⟩ : ∃ y0 y1 y2, l = [y0, y1, y2] := by
    match l, hl with
    | [a, b, c], _ => exact ⟨a, b, c, rfl⟩
  simp only [byc, List.map_cons, List.map_nil, List.cons.injEq, and_true] at e0 e1 e2 e3
  obtain ⟨e1a, e1b, e1c⟩ := e1
  subst e0; subst e1a; subst e1b; subst e1c; subst e2; subst e3
  exact ⟨⟨x0, y0, y1, y2, x2, x3⟩, ⟨hx0, hl2 _ (by simp), hl2 _ (by simp), hl2 _ (by simp), hx2, hx3⟩, rfl⟩
theorem okd_ops26 {W : World} {n : Nat} {cs : List Value} (h : Okd Tryz.prog W n 24 cs) : ∃ v, cs = [v] ∧ ∃ l : List Op26, Rd 0 W.heap.size 6 W v l.length (l.flatMap opc) ∧ ∀ o ∈ l, o.ok :=
  okd_slice opc Op26.ok (by decide) opc_len Tryz.underlying24 (by kernel_rfl) (Nat.le_of_ble_eq_true (by kernel_rfl)) (fun n cs h => okd_op26 h) h
set_option maxRecDepth 100000 in
theorem okd_q26 {W : World} {n : Nat} {cs : List Value} (h : Okd Tryz.prog W n 26 cs) : ∃ (seed : Dg) (l : List Op26) (vO : Value), cs = qc26 seed vO ∧ DgOk seed ∧ l.length ≤ 140737488355327 ∧ (∀ o ∈ l, o.ok) ∧ RdA 6 W vO l.length (l.flatMap opc) := by
  obtain ⟨h1, m, h2⟩ := okd_struct Tryz.underlying26 h
  have c1 : Tryz.prog.cellsOf 26 = 33 := by kernel_rfl
  have c2 : Tryz.prog.cellsOf 23 = 32 := by kernel_rfl
  have c3 : Tryz.prog.cellsOf 24 = 1 := by kernel_rfl
  rw [c1] at h1
  obtain ⟨k0, k1, -⟩ := h2
  dsimp only at k0 k1
  rw [c2] at k0
  rw [c3] at k1
  obtain ⟨seed, hs1, hs2, e0⟩ := okd_bytes Tryz.underlying23 c2 k0
  obtain ⟨v, e1, l, hl1, hl2⟩ := okd_ops26 k1
  refine ⟨seed, l, v, ?_, ⟨hs1, hs2⟩, hl1.2.1, hl2, hl1⟩
  rw [List.drop_zero] at e0
  unfold qc26
  rw [← e0, ← e1, List.take_of_length_le (l := cs.drop 32) (by rw [List.length_drop]; omega), List.take_append_drop]
theorem u8_laid {W : World} {nm : String} {g : Nat} {t : TypeId} {cs : Array Value} {fuel n : Nat} {d : DataW Unit} {p : List MemPlace} (zs : List Int) (hg : Tryz.prog.globalNamed nm = some g) (ht : Tryz.prog.underlying t = some (.array n 5)) (hv : W.var? Tryz.prog nm = some cs)
    (hd : DataW.trod (fun _ => ()) Tryz.prog W 0 (fun _ => true) false fuel t cs.toList = some (d, p)) (hz : d = .agg (zs.map fun z => .lit (.int .u8 z))) (hn : zs.length = n) : W.rangeAt g 0 (zs.map fun z => Value.int .u8 z) := by
  obtain ⟨xs, m, _, ex, _, hl, hel⟩ := DataW.trod_array ht hd
  have c5 : Tryz.prog.cellsOf 5 = 1 := by kernel_rfl
  intro r v hr
  have hr' : r < n := by
    rw [← hn]
    have := (List.getElem?_eq_some_iff.1 hr).1
    rwa [List.length_map] at this
  have hE := hel r hr'
  rw [c5, Nat.mul_one, List.getElem?_eq_getElem (by omega)] at hE
  obtain ⟨z, e1, e2, _⟩ := DataW.trod_int Tryz.underlying5 hE
  have e3 : (xs.map (·.1)) = zs.map fun n => .lit (.int .u8 n) := (DataW.agg.inj ((Prod.mk.inj ex).1.symm.trans hz))
  have e4 : (xs.map (·.1))[r]? = (zs.map fun n => (DataW.lit (.int .u8 n) : DataW Unit))[r]? := by rw [e3]
  rw [List.getElem?_map, List.getElem?_map, List.getElem?_eq_getElem (by omega : r < xs.length), List.getElem?_eq_getElem (by omega : r < zs.length), e2] at e4
  rw [List.getElem?_map, List.getElem?_eq_getElem (by omega : r < zs.length)] at hr
  simp only [Option.map_some, Option.some.injEq, DataW.lit.injEq, Lit.int.injEq, true_and] at e4 hr
  rw [← e4] at hr
  rw [Nat.zero_add, World.var?_cell hg hv r, ← hr]
  have : cs.toList[r]? = some (.int .u8 z) := by
    have h0 : ((cs.toList.drop r).take 1)[0]? = some (.int .u8 z) := by rw [e1]; rfl
    simpa using h0
  simpa using this
theorem gDbt : Tryz.prog.globalNamed "math/bits.deBruijn64tab" = some 3 := by kernel_rfl
theorem tDbt : (Tryz.prog.globals[3]?).map (·.type) = some 162 := by kernel_rfl
def dbZ : List Int := [0, 1, 56, 2, 57, 49, 28, 3, 61, 58, 42, 50, 38, 29, 17, 4, 62, 47, 59, 36, 45, 43, 51, 22, 53, 39, 33, 30, 24, 18, 12, 5, 63, 55, 48, 27, 60, 41, 37, 16, 46, 35, 44, 21, 52, 32, 23, 11, 54, 26, 40, 15, 34, 20, 31, 10, 25, 14, 19, 9, 13, 8, 7, 6]
theorem db_laid : (Rows.laid_math_bits_deBruijn64tab : DataW Unit) = .agg (dbZ.map fun z => .lit (.int .u8 z)) := by kernel_rfl
theorem cell_lt {W : World} {g i : Nat} {v : Value} (h : W.cell? ⟨g, i, none⟩ = some v) : g < W.heap.size := by
  rcases Nat.lt_or_ge g W.heap.size with h1 | h1
  · exact h1
  · simp only [World.cell?] at h; rw [Array.getElem?_eq_none h1] at h; cases h
set_option maxRecDepth 100000 in
theorem laid_of5 {W : World} (h : laidMetH Tryz.prog [("math/bits.deBruijn32tab", Rows.laid_math_bits_deBruijn32tab), ("math/bits.deBruijn64tab", Rows.laid_math_bits_deBruijn64tab), ("attestor/mle.one", Rows.laid_attestor_mle_one), ("attestor/sha256.constants", Rows.laid_attestor_sha256_constants), ("attestor/sha256.initial", Rows.laid_attestor_sha256_initial)] W) : Laid W ∧ Lsh W ∧ Ldb W := by
  rw [MakeChecks.laidMetH_plain _ _ _ (by kernel_rfl)] at h
  obtain ⟨ps, ⟨g8, t8, cs8, f8, p8, q8, hg8, ht8, hv8, hd8, ⟨g9, t9, cs9, f9, p9, q9, hg9, ht9, hv9, hd9, ⟨g0, t0, cs0, f0, p0, q0, hg0, ht0, hv0, hd0, ⟨g1, t1, cs1, f1, p1, q1, hg1, ht1, hv1, hd1, ⟨g2, t2, cs2, f2, p2, q2, hg2, ht2, hv2, hd2, _, _⟩, _⟩, _⟩, _⟩, _⟩, _, _⟩ := h
  obtain rfl := Option.some.inj (gCon.symm.trans hg1)
  obtain rfl := Option.some.inj (tCon.symm.trans ht1)
  obtain rfl := Option.some.inj (gIni.symm.trans hg2)
  obtain rfl := Option.some.inj (tIni.symm.trans ht2)
  obtain rfl := Option.some.inj (gDbt.symm.trans hg9)
  obtain rfl := Option.some.inj (tDbt.symm.trans ht9)
  have r2 := u32_laid conZ gCon Tryz.underlying188 hv1 hd1 con_laid (by kernel_rfl)
  have r1 := u32_laid [1779033703, 3144134277, 1013904242, 2773480762, 1359893119, 2600822924, 528734635, 1541459225] gIni Tryz.underlying172 hv2 hd2 rfl rfl
  have r9 := u8_laid dbZ gDbt Tryz.underlying162 hv9 hd9 db_laid rfl
  rw [← con_zs] at r2
  rw [← ini_zs] at r1
  have d0 := r9 0 _ rfl
  have d1 := r9 1 _ rfl
  have d3 := r9 3 _ rfl
  have d7 := r9 7 _ rfl
  exact ⟨laid_of1 hg0 ht0 hv0 hd0, ⟨r1, r2, cell_lt (r1 0 _ rfl), cell_lt (r2 0 _ rfl)⟩, ⟨d0, d1, d3, d7, cell_lt d0⟩⟩
end Go.Proofs.YtoiampgfnidfdaaGreatDoor
namespace Go.Proofs.YtoiampgfnidfdaaGreatDoor
open Go.RowKit

attribute [local irreducible] wpRg
end Go.Proofs.YtoiampgfnidfdaaGreatDoor
namespace Go.Proofs.YtoiampgfnidfdaaGreatDoor
open Go.RowKit

theorem en_attestor_attestorref12_Encode : ∀ args w, (callFunc 34 args).run Tryz.prog w = .ok (.enter 34 args) w := enters_of Tryz.func34 (by kernel_rfl) rfl
attribute [local irreducible] wpRg
set_option maxRecDepth 100000 in
set_option maxHeartbeats 4000000 in
theorem rEnc12 (r : Rdg) (hr : r.ok) (w : World) : Calls Tryz.prog 34 #[rdV r] w fun e w2 => ∃ g, e = .returned (.slice (some ⟨g, 0, none⟩) 3 3) ∧ w.heap.size ≤ g ∧ Blk w2 g 5 (byc r.enc).toArray ∧ Below w.heap.size w w2 := by
  obtain ⟨iu8, hu8, uz0, uz1, uz2⟩ := info_parts u8_info
  have he : ∃ x y z : Nat, r.enc = [x, y, z] ∧ (x : Int) = r.who + 16 * r.kind ∧ (y : Int) = r.when ∧ (z : Int) = r.value ∧ x < 256 ∧ y < 256 ∧ z < 256 := by
    obtain ⟨ha, hb, hc, hd⟩ := hr
    exact ⟨_, _, _, rfl, Int.toNat_of_nonneg (by omega), Int.toNat_of_nonneg (by omega), Int.toNat_of_nonneg (by omega), by omega, by omega, by omega⟩
  obtain ⟨x, y, z, he, ex, ey, ez, hx, hy, hz'⟩ := he
  rw [he]
  obtain ⟨a, b, c, d⟩ := r
  dsimp only at ex ey ez
  obtain ⟨ha, hb, hc, hd⟩ := hr
  dsimp only at ha hb hc hd
  unfold rdV rdc
  dsimp only
  clear he
  go_enter Tryz.func34, Tryz.ntmps34
  go_upto_region 1 with (fail)
  refine wp_stk1 fun W hB hz b1 => ?_
  have c0 := (b1.cell 0).trans rfl
  have e1 := b1.cell
  have l1 := b1.lt
  clear hz c0
  refine wp_region_lit ?_
  iterate 13 (refine wpList_plain rfl fun K hK => ?_; go_big_op; refine hK _ _ ?_; clear hK K)
  refine wpList_plain rfl fun K2 hK2 => wp_of_step (stepAt_mono (fun v16 w16 hh => ?_) (step_litF (len := 3) (vs := byc [x, y, z]) u8_slice hu8 uz0 uz1 rfl (by decide) (by decide) rfl (by simp [Act.eval, byc, ex, ey, ez]) (fun v hv => by obtain ⟨x, _, rfl⟩ := List.mem_map.1 hv; rfl)))
  obtain ⟨⟨rfl, hl16, b16⟩, B16⟩ := hh
  refine hK2 _ _ ?_
  clear hK2 K2
  try simp only [Act.put, List.setIfInBounds_toArray, List.set_cons_succ, List.set_cons_zero]
  have hBz := hB.trans (B16.mono hB.size)
  have hWs := hB.size
  clear e1 l1 b1 ex ey ez
  try simp only [Act.put, List.setIfInBounds_toArray, List.set_cons_succ, List.set_cons_zero]
  go_wp2_with fail
  exact bodyPost_ret (v := .slice (some ⟨W.heap.size, 0, none⟩) 3 3) (by simp [results, Tryz.results34, go_sem]) rfl ⟨_, rfl, hWs, b16, hBz⟩
end Go.Proofs.YtoiampgfnidfdaaGreatDoor
namespace Go.Proofs.YtoiampgfnidfdaaGreatDoor
open Go.RowKit

def LfB (N : Nat) (w : World) (v : Value) (bs : List (List Nat)) : Prop := ∃ vs : List Value, w.ownsRow N 56 1 v vs.length vs ∧ Al (fun u b => ∃ g, u = .slice (some ⟨g, 0, none⟩) 3 3 ∧ b.length = 3 ∧ Blk w g 5 (byc b).toArray) vs bs
theorem LfB.keep {N : Nat} {w X : World} {v : Value} {bs : List (List Nat)} (h : LfB N w v bs) (hb : Below w.heap.size w X) : LfB N X v bs := by
  obtain ⟨vs, h1, h2⟩ := h
  exact ⟨vs, own_below h1 (Nat.le_refl _) hb, h2.mono fun u b ⟨g, q1, q2, q3⟩ => ⟨g, q1, q2, q3.keep hb⟩⟩
theorem LfB.bs {N : Nat} {w : World} {v : Value} {bs : List (List Nat)} (h : LfB N w v bs) (hn : bs.length ≤ 1000000) : BsA w v bs := by
  obtain ⟨vs, h1, h2⟩ := h
  refine ⟨vs, RdA.of (Rd.of_own h1 (by rw [h2.1]; omega) (Nat.le_refl _)), h2.mono fun u b ⟨g, q1, q2, q3⟩ => ?_⟩
  rw [q1]
  have := bys_blk (lo := 0) (hi := w.heap.size) q3 (by omega) (Nat.zero_le _) q3.lt
  rw [q2] at this
  exact this
theorem LfB.snoc {N g : Nat} {w X : World} {v v' : Value} {vs : List Value} {bs : List (List Nat)} {b : List Nat} (h1 : w.ownsRow N 56 1 v vs.length vs) (h2 : Al (fun u b => ∃ g, u = .slice (some ⟨g, 0, none⟩) 3 3 ∧ b.length = 3 ∧ Blk w g 5 (byc b).toArray) vs bs) (hb : b.length = 3) (hg : Blk w g 5 (byc b).toArray)
    (ho : X.ownsRow N 56 1 v' (vs.length + 1) (vs ++ [.slice (some ⟨g, 0, none⟩) 3 3])) (hgr : w.grownBy X v.ownBlock) : LfB N X v' (bs ++ [b]) := by
  have hk : ∀ g b, Blk w g 5 (byc b).toArray → Blk X g 5 (byc b).toArray := fun g b hh => (hgr.block g hh.lt fun e => by
    rcases h1.2 with ⟨q, _⟩ | ⟨g', cap, cur, q, _, q3, _⟩
    · rw [q] at e; cases e
    · rw [q] at e
      cases e
      have hc := hh.symm.trans q3
      cases hc).trans hh
  refine ⟨_, by rw [List.length_append]; exact ho, ?_⟩
  exact Al.snoc (h2.mono fun u b ⟨g, q1, q2, q3⟩ => ⟨g, q1, q2, hk _ _ q3⟩) ⟨g, rfl, hb, hk _ _ hg⟩
theorem LfB.len {N : Nat} {w : World} {v : Value} {bs : List (List Nat)} (h : LfB N w v bs) : ∃ A cap, v = .slice A bs.length cap := by
  obtain ⟨vs, h1, h2⟩ := h
  rw [← h2.1]
  exact own_lenR h1
end Go.Proofs.YtoiampgfnidfdaaGreatDoor
namespace Go.Proofs.YtoiampgfnidfdaaGreatDoor
open Go.RowKit

attribute [local irreducible] wpRg keyD sha leafD pairD
set_option maxRecDepth 100000 in
set_option maxHeartbeats 8000000 in
theorem wkMeterTrees (seed : Dg) (hs : DgOk seed) (l : List Op26) (hl : l.length ≤ 140737488355327) (ho : ∀ o ∈ l, o.ok) (vO : Value) (w : World) (hO : RdA 6 w vO l.length (l.flatMap opc)) (hL : Laid w) (hSh : Lsh w) (hDb : Ldb w) : Calls Tryz.prog 4 #[qv26 seed vO] w (Ret (.bool true) w) := by
  obtain ⟨AO, cO, rfl⟩ := Rd.len hO
  have HO := Lib.hid hO
  have HL := Lib.hid hL
  have HS := Lib.hid hSh
  have HD := Lib.hid hDb
  have HS0 := Lib.hid hs
  have HOO := Lib.hid ho
  have HLL := Lib.hid hl
  have hsl : seed.length = 32 := hs.1
  obtain ⟨nl, hnl⟩ : ∃ n, n = l.length := ⟨_, rfl⟩
  rw [← hnl]
  have HNL := Lib.hid hnl
  obtain ⟨Qv, hQv⟩ : ∃ S, S = qv26 seed (.slice AO nl cO) := ⟨_, rfl⟩
  rw [← hQv]
  clear hnl hO hL hSh hDb hs ho hl
  go_enter Tryz.func4, Tryz.ntmps4
  go_upto_region 1 with (fail)
  refine wp_stk1 fun W hB hz b1 => ?_
  have b1' : Blk W w.heap.size 26 (qc26 seed (.slice AO nl cO)).toArray := by first | exact b1 | (rw [hQv] at b1; exact b1)
  obtain ⟨g1, hg1⟩ : ∃ g, g = w.heap.size := ⟨_, rfl⟩
  rw [← hg1] at b1' ⊢
  have HG1 := Lib.hid hg1
  clear b1 hz hQv hg1
  refine wp_region_lit ?_
  refine wpList_plain rfl fun K1 hK1 => wp_of_step (stepAt_mono (fun v14 w14 hh => ?_) (step_callv en_attestor_attestorlaw26_sanity (lSanity26 W (HL.out.keep hB) (HS.out.keep hB) (HD.out.keep hB)) rfl rfl))
  obtain ⟨rfl, B14⟩ := hh
  refine hK1 _ _ ?_
  clear hK1 K1
  try simp only [Act.put, List.setIfInBounds_toArray, List.set_cons_succ, List.set_cons_zero]
  replace b1' := b1'.keep B14
  replace hB := hB.trans (B14.mono hB.size)
  clear B14
  try simp only [Act.put, List.setIfInBounds_toArray, List.set_cons_succ, List.set_cons_zero]
  go_upto_region 2 with (fail)
  refine wp_region_lit ?_
  refine wpList_plain rfl fun K3 hK3 => wp_of_step (stepAt_mono (fun v15 w15 hh => ?_) (step_loadR0 (cs := qc26 seed (.slice AO nl cO)) q26_under rfl (by rw [q26_size, qc26_len _ _ hsl]) rfl rfl (blk_range b1')))
  obtain ⟨rfl, rfl⟩ := hh
  refine hK3 _ _ ?_
  clear hK3 K3
  try simp only [Act.put, List.setIfInBounds_toArray, List.set_cons_succ, List.set_cons_zero]
  obtain ⟨s, hs⟩ : ∃ s, s = playM seed l := ⟨_, rfl⟩
  have hP := gPlay seed HS0.out l HLL.out HOO.out (.slice AO nl cO) w15 (by rw [HNL.out]; exact RdA.keep HO.out hB) (HL.out.keep hB) (HS.out.keep hB) (HD.out.keep hB)
  rw [← hs] at hP
  refine wpList_plain rfl fun K4 hK4 => wp_of_step (stepAt_mono (fun v16 w16 hh => ?_) (step_call (R := fun v W2 => ∃ vE vL, v = stV s.1 vE vL ∧ EpsB ⟨W2, fun g => w15.heap.size ≤ g⟩ vE s.1.eps ∧ StmsB ⟨W2, fun g => w15.heap.size ≤ g⟩ vL s.2 ∧ Below w15.heap.size w15 W2) en_attestor_attestorlaw26_play (hP.mono fun r W2 ⟨vE, vL, h1, h2, h3, h4⟩ => ⟨_, h1, vE, vL, rfl, h2, h3, h4⟩) rfl rfl))
  obtain ⟨vE, vL, rfl, hE, hT, B16⟩ := hh
  refine hK4 _ _ ?_
  clear hK4 K4
  try simp only [Act.put, List.setIfInBounds_toArray, List.set_cons_succ, List.set_cons_zero]
  have hok : StOk26 25 s := by rw [hs]; exact play_ok26 seed HS0.out l
  replace hB := hB.trans (B16.mono hB.size)
  clear B16 hP b1' hs
  obtain ⟨iS, hiS, iS0, iS1, iS2⟩ := info_parts stt_info26
  obtain ⟨m, ss⟩ := s
  have hms : m.seed.length = 32 := hok.seed.1
  dsimp only at hE hT ⊢
  obtain ⟨A, cap, rfl⟩ := hE.len
  obtain ⟨n, hn⟩ : ∃ n, n = ss.length := ⟨_, rfl⟩
  obtain ⟨AL, cL, rfl⟩ := hT.len
  rw [← hn] at hT ⊢
  have HN := Lib.hid hn
  clear hn
  refine wpList_plain rfl fun K5 hK5 => wp_of_step (stepAt_mono (fun v4 w4 hh => ?_) (step_new0 hiS iS0 rfl))
  obtain ⟨rfl, rfl⟩ := hh
  refine hK5 _ _ ?_
  clear hK5 K5
  try simp only [Act.put, List.setIfInBounds_toArray, List.set_cons_succ, List.set_cons_zero]
  have b4 : Blk (w16.alloc (.cells (Value.agg (stC ⟨0, List.replicate 32 0, []⟩ (.slice none 0 0) (.slice none 0 0)).toArray).cells 38)) w16.heap.size 38 (stC ⟨0, List.replicate 32 0, []⟩ (.slice none 0 0) (.slice none 0 0)).toArray := World.alloc_heap_new w16 _
  have B4 := (Below.refl _ w16).alloc (Nat.le_refl _) (.cells (Value.agg (stC ⟨0, List.replicate 32 0, []⟩ (.slice none 0 0) (.slice none 0 0)).toArray).cells 38)
  generalize w16.alloc (.cells (Value.agg (stC ⟨0, List.replicate 32 0, []⟩ (.slice none 0 0) (.slice none 0 0)).toArray).cells 38) = w4 at *
  refine wpList_put rfl 38 (.tmp 4) (.tmp 16) rfl rfl (cells := stC m (.slice A m.eps.length cap) (.slice AL n cL)) rfl b4 (by rw [List.size_toArray, stC_len ⟨0, List.replicate 32 0, []⟩ _ _ rfl, stC_len m _ _ hms]; exact Nat.le_refl _) (by rw [stt_size26, stC_len m _ _ hms]) (stC_one _ _ _ rfl rfl) (spl_all _ _ (by rw [List.size_toArray, stC_len ⟨0, List.replicate 32 0, []⟩ _ _ rfl, stC_len m _ _ hms])) fun X hX bX => ?_
  have BX : Below w16.heap.size w16 X := below_put B4 hX (Nat.le_refl _)
  have HEA := Lib.hid (hE.fwd BX).now
  have HTA := Lib.hid (hT.fwd BX).now
  have HBX := Lib.hid (hB.trans (BX.mono hB.size))
  have HOK := Lib.hid hok
  obtain ⟨g4, hg4⟩ : ∃ g, g = w16.heap.size := ⟨_, rfl⟩
  rw [← hg4] at bX ⊢
  have HBL := Lib.hid bX
  have hn25 : n ≤ 25 := by have h1 := hok.len; have h2 := hok.eps; have := HN.out; dsimp only at h1 h2; omega
  clear hok hE hT hB b4 B4 hX BX hg4 bX
  try simp only [Act.put, List.setIfInBounds_toArray, List.set_cons_succ, List.set_cons_zero]
  go_upto_region 4 with (fail)
  go_loopw [5] (fun i wr => ∃ k : Nat, k ≤ n ∧ i = .int .i64 k ∧ Below X.heap.size X wr) (fun i _ => n - (intOf i).toNat)
  case atStart => exact ⟨0, Nat.zero_le _, rfl, Below.refl _ _⟩
  case round =>
    obtain ⟨k, hk, rfl, hBr⟩ := hrel
    have b4 := HBL.out.keep hBr
    have c34 := st_34 b4 hms
    have l4 := b4.lt
    have hBw := HBX.out.trans (hBr.mono HBX.out.size)
    by_cases hlt : k < n
    rotate_left 1
    · obtain rfl : k = n := by omega
      have hr : rootM m (k : Int) = (List.replicate 32 0, 4) := by
        unfold rootM
        rw [if_pos]
        have h1 := HOK.out.len
        have := HN.out
        dsimp only at h1
        omega
      have HR := Lib.hid hr
      have hEw := EpsA.keep HEA.out hBr
      have HEW := Lib.hid hEw
      have hsw := HS.out.keep hBw
      have HSW := Lib.hid hsw
      clear hr hEw hsw
      go_upto_region 15 with (fail)
      refine wp_region_lit ?_
      iterate 1 (refine wpList_plain rfl fun K hK => ?_; go_big_op; refine hK _ _ ?_; clear hK K)
      refine wpList_plain rfl fun K8 hK8 => wp_of_step (stepAt_mono (fun v70 w70 hh => ?_) (step_loadR0 (cs := mtc m (.slice A m.eps.length cap)) mt_under rfl (by rw [mt_size, mtc_len m _ hms]) rfl rfl (st_mt b4)))
      obtain ⟨rfl, rfl⟩ := hh
      refine hK8 _ _ ?_
      clear hK8 K8
      try simp only [Act.put, List.setIfInBounds_toArray, List.set_cons_succ, List.set_cons_zero]
      iterate 3 (refine wpList_plain rfl fun K hK => ?_; go_big_op; refine hK _ _ ?_; clear hK K)
      have hW := gRootM m (HOK.out.n (by omega)) (k : Int) (by omega) (.slice A m.eps.length cap) w70 HSW.out HEW.out
      rw [HR.out] at hW
      refine wpList_plain rfl fun K10 hK10 => wp_of_step (stepAt_mono (fun v74 w74 hh => ?_) (step_callv en_attestor_meter_Root hW rfl rfl))
      obtain ⟨rfl, B74⟩ := hh
      refine hK10 _ _ ?_
      clear hK10 K10
      try simp only [Act.put, List.setIfInBounds_toArray, List.set_cons_succ, List.set_cons_zero]
      have hBz := hBw.trans (B74.mono hBw.size)
      clear b4 c34 l4 hBr hBw B74 hW
      iterate 1 (refine wpList_plain rfl fun K hK => ?_; go_big_op; refine hK _ _ ?_; clear hK K)
      refine wpList_plain rfl fun K12 hK12 => wp_of_step (stepAt_mono (fun v75 w75 hh => ?_) (step_ext (v := dgv (List.replicate 32 0)) rfl rfl rfl))
      obtain ⟨rfl, rfl⟩ := hh
      refine hK12 _ _ ?_
      clear hK12 K12
      try simp only [Act.put, List.setIfInBounds_toArray, List.set_cons_succ, List.set_cons_zero]
      refine wpList_plain rfl fun K13 hK13 => wp_of_step (stepAt_mono (fun v76 w76 hh => ?_) (step_ext (v := .int .i64 4) rfl rfl rfl))
      obtain ⟨rfl, rfl⟩ := hh
      refine hK13 _ _ ?_
      clear hK13 K13
      try simp only [Act.put, List.setIfInBounds_toArray, List.set_cons_succ, List.set_cons_zero]
      obtain ⟨iD, hiD, iD0, iD1, iD2⟩ := info_parts b32_info
      refine wpList_plain rfl fun K14 hK14 => wp_of_step (stepAt_mono (fun v12 w12 hh => ?_) (step_new0 hiD iD0 rfl))
      obtain ⟨rfl, rfl⟩ := hh
      refine hK14 _ _ ?_
      clear hK14 K14
      try simp only [Act.put, List.setIfInBounds_toArray, List.set_cons_succ, List.set_cons_zero]
      have b12 : Blk (w76.alloc (.cells (Value.agg (zb 32).toArray).cells 23)) w76.heap.size 23 (zb 32).toArray := World.alloc_heap_new w76 _
      have B12 := (Below.refl _ w76).alloc (Nat.le_refl _) (.cells (Value.agg (zb 32).toArray).cells 23)
      generalize w76.alloc (.cells (Value.agg (zb 32).toArray).cells 23) = w12 at *
      refine wpList_put rfl 23 (.tmp 12) (.tmp 75) rfl rfl (cells := byc (List.replicate 32 0)) rfl b12 (by decide) (by rw [b32_size]; rfl) (byc_all _) (spl_all _ _ rfl) fun Z hZ bZ => ?_
      have hBz2 := hBz.trans ((below_put B12 hZ (Nat.le_refl _)).mono hBz.size)
      clear b12 B12 hZ bZ hBz
      try simp only [Act.put, List.setIfInBounds_toArray, List.set_cons_succ, List.set_cons_zero]
      go_wp2_with fail
      go_ret
      exact ⟨rfl, hBz2⟩
    have hst := HTA.out
    obtain ⟨us, hu1, hu2⟩ := hst
    obtain ⟨u, s1, hu, hs1, hin⟩ := hu2.get (k := k) (by rw [← HN.out]; exact hlt)
    obtain ⟨Al1, cl, hul⟩ := Rd.len hin.1
    obtain ⟨gv, ov, cv, hvv, hcv, hgv, hcs⟩ := RdA.at smc_len hu1 hu
    rw [hu2.1, ← HN.out] at hvv hcv
    cases hvv
    have cl0 : wr.cell? ⟨gv, ov + k * 2, none⟩ = some (.slice Al1 s1.length cl) := (hBr.cell (p := ⟨gv, ov + k * 2, none⟩) hgv).trans (by have := hcs 0 _ rfl; rw [hul] at this; exact this)
    obtain ⟨kk, hkk⟩ : ∃ kk, kk = s1.length := ⟨_, rfl⟩
    rw [← hkk] at cl0 hul
    have HKK := Lib.hid hkk
    have HIN := Lib.hid hin
    obtain ⟨e, he⟩ : ∃ e, m.eps[k]? = some e := ⟨_, List.getElem?_eq_getElem (by have h1 := HOK.out.len; have := HN.out; dsimp only at h1; omega)⟩
    have hEp := HOK.out.ep k e s1 he hs1
    have h8 : s1.length ≤ 8 := by
      have := hEp.le
      have := pow3 e.log hEp.log
      omega
    have HEP := Lib.hid hEp
    have hkk8 : kk ≤ 8 := by rw [hkk]; exact h8
    have hgvw : gv < wr.heap.size := Nat.lt_of_lt_of_le hgv hBr.size
    have HH8 := Lib.hid h8
    have HUL := Lib.hid hul
    have HHE := Lib.hid he
    clear hcs hu1 hu2 hu hs1 hin hkk hEp he h8 hul
    go_upto_region 7 with (fail)
    refine wp_stk1 fun Y hY hzY b6 => ?_
    have c34y := (hY.cell (p := ⟨g4, 34, none⟩) l4).trans c34
    have cl0y := (hY.cell (p := ⟨gv, ov + k * 2, none⟩) hgvw).trans cl0
    have HLF := Lib.hid (show LfB wr.heap.size Y (.slice (some ⟨wr.heap.size, 0, none⟩) 0 0) [] from ⟨[], ⟨rfl, .inr ⟨wr.heap.size, 0, #[], rfl, Nat.le_refl _, b6, Nat.le_refl _, Nat.zero_le _, rfl, rfl⟩⟩, Al.nil⟩)
    have hYs := hY.size
    have HBR := Lib.hid hBr
    have HBW := Lib.hid hBw
    have HB4 := Lib.hid b4
    have HYY := Lib.hid hY
    obtain ⟨N, hN⟩ : ∃ N, N = wr.heap.size := ⟨_, rfl⟩
    rw [← hN] at HLF l4 hgvw hYs ⊢
    have HNW := Lib.hid hN
    clear hzY b6 c34 cl0 hN hBr hBw b4 hY
    go_upto_region 8 with (fail)
    obtain ⟨wo, hwo⟩ : ∃ wo, wo = wr := ⟨_, rfl⟩
    subst hwo
    obtain ⟨iB, hiB, iB0, iB1, iB2⟩ := info_parts bsl_info
    go_loopw [6, 7] (fun q j wr => ∃ (i : Nat) (L : List (List Nat)), i ≤ kk ∧ j = .int .i64 i ∧ LfB N wr q L ∧ Hid (L.length = i) ∧ Hid (L = (s1.take i).map fun x => x.1.enc) ∧ Below N Y wr) (fun _ j _ => kk - (intOf j).toNat)
    case atStart => exact ⟨0, [], Nat.zero_le _, rfl, HLF.out, Lib.hid rfl, Lib.hid rfl, Below.refl _ _⟩
    case round =>
      obtain ⟨i, L, hi, rfl, hlf, HLI, HLE, hBq⟩ := hrel
      have c34q := (hBq.cell (p := ⟨g4, 34, none⟩) l4).trans c34y
      have cl0q := (hBq.cell (p := ⟨gv, ov + k * 2, none⟩) hgvw).trans cl0y
      have hqs := hBq.size
      have l4q : g4 < wr.heap.size := by omega
      have lvq : gv < wr.heap.size := by omega
      by_cases hik : i < kk
      rotate_left 1
      · obtain rfl : i = kk := by omega
        have hLs : L = s1.map fun x => x.1.enc := by
          rw [HLE.out, List.take_of_length_le (by rw [← HKK.out]; exact Nat.le_refl _)]
        have hL8 : L.length ≤ 8 := by rw [HLI.out]; exact hkk8
        obtain ⟨d, hd⟩ : ∃ d, d = rootT L := ⟨_, rfl⟩
        have hd2 : d = bagN pairD e.peaks := by
          rw [hd, rootT_bag L hL8, HEP.out.pk, hLs, List.map_map]
          rfl
        have hdok : DgOk d := by rw [hd]; exact rootT_ok L
        have hr : rootM m (k : Int) = (d, 0) := by
          unfold rootM
          have h1 := HOK.out.len
          have h2 := HN.out
          dsimp only at h1
          rw [if_neg (by omega), Int.toNat_natCast, hd2]
          have := at_get m k (by omega)
          rw [HHE.out] at this
          rw [← Option.some.inj this]
        have hbs : ∀ b ∈ L, b.length ≤ 900000 ∧ ∀ x ∈ b, x < 256 := by
          intro b hb
          rw [hLs] at hb
          obtain ⟨x, hx, rfl⟩ := List.mem_map.1 hb
          exact enc_lt x.1 (HEP.out.rd x hx)
        have hYq : Below wo.heap.size wo wr := HYY.out.trans (by rw [← HNW.out]; exact hBq)
        have hBt := HBW.out.trans (hYq.mono HBW.out.size)
        have b4 := HB4.out.keep hYq
        have hEw := EpsA.keep (EpsA.keep HEA.out HBR.out) hYq
        obtain ⟨A6, c6, rfl⟩ := hlf.len
        rw [HLI.out] at hlf ⊢
        have HLQ := Lib.hid hlf
        have HR := Lib.hid hr
        have HDK := Lib.hid hdok
        have HDT := Lib.hid hd
        have HBS := Lib.hid hbs
        have HBT := Lib.hid (HBR.out.trans (hYq.mono HBR.out.size))
        have HL8 := Lib.hid hL8
        have hsw := HS.out.keep hBt
        have hdl : d.length = 32 := hdok.1
        clear hr hd hd2 hdok hbs hYq hLs hL8 hlf hBq
        go_upto_region 11 with (fail)
        clear c34q cl0q
        refine wp_region_lit ?_
        obtain ⟨iD, hiD, iD0, iD1, iD2⟩ := info_parts b32_info
        iterate 1 (refine wpList_plain rfl fun K hK => ?_; go_big_op; refine hK _ _ ?_; clear hK K)
        refine wpList_plain rfl fun K17 hK17 => wp_of_step (stepAt_mono (fun v51 w51 hh => ?_) (step_loadR0 (cs := mtc m (.slice A m.eps.length cap)) mt_under rfl (by rw [mt_size, mtc_len m _ hms]) rfl rfl (st_mt b4)))
        obtain ⟨rfl, rfl⟩ := hh
        refine hK17 _ _ ?_
        clear hK17 K17
        try simp only [Act.put, List.setIfInBounds_toArray, List.set_cons_succ, List.set_cons_zero]
        iterate 1 (refine wpList_plain rfl fun K hK => ?_; go_big_op; refine hK _ _ ?_; clear hK K)
        have hW := gRootM m (HOK.out.n (by omega)) (k : Int) (by omega) (.slice A m.eps.length cap) w51 hsw hEw
        rw [HR.out] at hW
        refine wpList_plain rfl fun K19 hK19 => wp_of_step (stepAt_mono (fun v53 w53 hh => ?_) (step_callv en_attestor_meter_Root hW rfl rfl))
        obtain ⟨rfl, B53⟩ := hh
        refine hK19 _ _ ?_
        clear hK19 K19
        try simp only [Act.put, List.setIfInBounds_toArray, List.set_cons_succ, List.set_cons_zero]
        iterate 1 (refine wpList_plain rfl fun K hK => ?_; go_big_op; refine hK _ _ ?_; clear hK K)
        refine wpList_plain rfl fun K21 hK21 => wp_of_step (stepAt_mono (fun v54 w54 hh => ?_) (step_ext (v := dgv d) rfl rfl rfl))
        obtain ⟨rfl, rfl⟩ := hh
        refine hK21 _ _ ?_
        clear hK21 K21
        try simp only [Act.put, List.setIfInBounds_toArray, List.set_cons_succ, List.set_cons_zero]
        refine wpList_plain rfl fun K22 hK22 => wp_of_step (stepAt_mono (fun v55 w55 hh => ?_) (step_ext (v := .int .i64 0) rfl rfl rfl))
        obtain ⟨rfl, rfl⟩ := hh
        refine hK22 _ _ ?_
        clear hK22 K22
        try simp only [Act.put, List.setIfInBounds_toArray, List.set_cons_succ, List.set_cons_zero]
        refine wpList_plain rfl fun K23 hK23 => wp_of_step (stepAt_mono (fun v8 w8 hh => ?_) (step_new0 hiD iD0 rfl))
        obtain ⟨rfl, rfl⟩ := hh
        refine hK23 _ _ ?_
        clear hK23 K23
        try simp only [Act.put, List.setIfInBounds_toArray, List.set_cons_succ, List.set_cons_zero]
        have b8 : Blk (w55.alloc (.cells (Value.agg (zb 32).toArray).cells 23)) w55.heap.size 23 (zb 32).toArray := World.alloc_heap_new w55 _
        have B8 := (Below.refl _ w55).alloc (Nat.le_refl _) (.cells (Value.agg (zb 32).toArray).cells 23)
        generalize w55.alloc (.cells (Value.agg (zb 32).toArray).cells 23) = w8 at *
        refine wpList_put rfl 23 (.tmp 8) (.tmp 54) rfl rfl (cells := byc d) rfl b8 (by rw [byc_length, hdl]; decide) (by rw [b32_size, byc_length, hdl]) (byc_all _) (spl_all _ _ (by rw [byc_length, hdl]; rfl)) fun Z hZ bZ => ?_
        have BZ : Below w51.heap.size w51 Z := B53.trans ((below_put B8 hZ (Nat.le_refl _)).mono B53.size)
        obtain ⟨g8, hg8⟩ : ∃ g, g = w55.heap.size := ⟨_, rfl⟩
        rw [← hg8] at bZ ⊢
        have hBtZ := hBt.trans (BZ.mono hBt.size)
        have HBT2 := Lib.hid (HBT.out.trans (BZ.mono HBT.out.size))
        have hW2 := gTree L HL8.out HBS.out (.slice A6 i c6) Z (HS.out.keep hBtZ) ((HLQ.out.keep BZ).bs (by have := HL8.out; omega))
        rw [← HDT.out] at hW2
        generalize rootE L = re at *
        clear b8 B8 hZ hg8 hW b4 hEw hsw B53
        try simp only [Act.put, List.setIfInBounds_toArray, List.set_cons_succ, List.set_cons_zero]
        go_upto_region 12 with (fail)
        refine wp_region_lit ?_
        iterate 1 (refine wpList_plain rfl fun K hK => ?_; go_big_op; refine hK _ _ ?_; clear hK K)
        refine wpList_plain rfl fun K26 hK26 => wp_of_step (stepAt_mono (fun v58 w58 hh => ?_) (step_callv en_attestor_merkle_Root hW2 rfl rfl))
        obtain ⟨rfl, B58⟩ := hh
        refine hK26 _ _ ?_
        clear hK26 K26
        try simp only [Act.put, List.setIfInBounds_toArray, List.set_cons_succ, List.set_cons_zero]
        iterate 1 (refine wpList_plain rfl fun K hK => ?_; go_big_op; refine hK _ _ ?_; clear hK K)
        refine wpList_plain rfl fun K28 hK28 => wp_of_step (stepAt_mono (fun v59 w59 hh => ?_) (step_ext (v := dgv d) rfl rfl rfl))
        obtain ⟨rfl, rfl⟩ := hh
        refine hK28 _ _ ?_
        clear hK28 K28
        try simp only [Act.put, List.setIfInBounds_toArray, List.set_cons_succ, List.set_cons_zero]
        refine wpList_plain rfl fun K29 hK29 => wp_of_step (stepAt_mono (fun v60 w60 hh => ?_) (step_ext (v := .int .i64 (re : Nat)) rfl rfl rfl))
        obtain ⟨rfl, rfl⟩ := hh
        refine hK29 _ _ ?_
        clear hK29 K29
        try simp only [Act.put, List.setIfInBounds_toArray, List.set_cons_succ, List.set_cons_zero]
        refine wpList_plain rfl fun K30 hK30 => wp_of_step (stepAt_mono (fun v10 w10 hh => ?_) (step_new0 hiD iD0 rfl))
        obtain ⟨rfl, rfl⟩ := hh
        refine hK30 _ _ ?_
        clear hK30 K30
        try simp only [Act.put, List.setIfInBounds_toArray, List.set_cons_succ, List.set_cons_zero]
        have b10 : Blk (w60.alloc (.cells (Value.agg (zb 32).toArray).cells 23)) w60.heap.size 23 (zb 32).toArray := World.alloc_heap_new w60 _
        have B10 := (Below.refl _ w60).alloc (Nat.le_refl _) (.cells (Value.agg (zb 32).toArray).cells 23)
        generalize w60.alloc (.cells (Value.agg (zb 32).toArray).cells 23) = w10 at *
        refine wpList_put rfl 23 (.tmp 10) (.tmp 59) rfl rfl (cells := byc d) rfl b10 (by rw [byc_length, hdl]; decide) (by rw [b32_size, byc_length, hdl]) (byc_all _) (spl_all _ _ (by rw [byc_length, hdl]; rfl)) fun V hV bV => ?_
        have BV : Below Z.heap.size Z V := B58.trans ((below_put B10 hV (Nat.le_refl _)).mono B58.size)
        have bZ2 := bZ.keep BV
        have HBT3 := Lib.hid (HBT2.out.trans (BV.mono HBT2.out.size))
        clear b10 B10 hV hW2 B58 BV bZ hBtZ BZ hBt
        try simp only [Act.put, List.setIfInBounds_toArray, List.set_cons_succ, List.set_cons_zero]
        go_upto_region 13 with (fail)
        refine wp_region_lit ?_
        refine wpList_step fun K32 hK32 => ?_
        rw [if_pos (by rfl)]
        go_big_op
        refine hK32 _ _ ?_
        clear hK32 K32
        try simp only [Act.put, List.setIfInBounds_toArray, List.set_cons_succ, List.set_cons_zero]
        refine wpList_step fun K33 hK33 => ?_
        rw [if_pos (by rfl)]
        go_big_op
        refine hK33 _ _ ?_
        clear hK33 K33
        try simp only [Act.put, List.setIfInBounds_toArray, List.set_cons_succ, List.set_cons_zero]
        refine wpList_step fun K34 hK34 => ?_
        rw [if_pos (by rfl)]
        go_big_op
        refine hK34 _ _ ?_
        clear hK34 K34
        try simp only [Act.put, List.setIfInBounds_toArray, List.set_cons_succ, List.set_cons_zero]
        refine wpList_step fun K35 hK35 => ?_
        rw [if_pos (by rfl)]
        refine wp_of_step (stepAt_mono (fun v64 w64 hh => ?_) (step_loadR0 (cs := byc d) b32_under rfl (by rw [b32_size, byc_length, hdl]) rfl rfl (blk_range bZ2)))
        obtain ⟨rfl, rfl⟩ := hh
        refine hK35 _ _ ?_
        clear hK35 K35
        try simp only [Act.put, List.setIfInBounds_toArray, List.set_cons_succ, List.set_cons_zero]
        refine wpList_step fun K36 hK36 => ?_
        rw [if_pos (by rfl)]
        refine wp_of_step (stepAt_mono (fun v65 w65 hh => ?_) (step_loadR0 (cs := byc d) b32_under rfl (by rw [b32_size, byc_length, hdl]) rfl rfl (blk_range bV)))
        obtain ⟨rfl, rfl⟩ := hh
        refine hK36 _ _ ?_
        clear hK36 K36
        try simp only [Act.put, List.setIfInBounds_toArray, List.set_cons_succ, List.set_cons_zero]
        refine wpList_step fun K37 hK37 => ?_
        rw [if_pos (by rfl)]
        refine wp_of_step (stepAt_mono (fun v66 w66 hh => ?_) (step_neD (d := d) rfl rfl rfl hdl))
        obtain ⟨rfl, rfl⟩ := hh
        refine hK37 _ _ ?_
        clear hK37 K37
        try simp only [Act.put, List.setIfInBounds_toArray, List.set_cons_succ, List.set_cons_zero]
        clear bZ2 bV
        try simp only [Act.put, List.setIfInBounds_toArray, List.set_cons_succ, List.set_cons_zero]
        go_wp2_with fail
        exact ⟨⟨k + 1, by omega, by go_num, HBT3.out⟩, by simp [intOf]; omega⟩
      obtain ⟨⟨r, b⟩, hrb⟩ : ∃ x, s1[i]? = some x := ⟨_, List.getElem?_eq_getElem (by rw [← HKK.out]; exact hik)⟩
      have hYq : Below wo.heap.size wo wr := HYY.out.trans (by rw [← HNW.out]; exact hBq)
      have hbx : Below X.heap.size X wr := HBR.out.trans (hYq.mono HBR.out.size)
      have hin := (HIN.out.1.keep hbx)
      obtain ⟨gl, ol, cl', hvl, hcl, hgl, hkl⟩ := hin.form (by rw [← HKK.out]; omega)
      rw [HUL.out, ← HKK.out] at hvl
      cases hvl
      have hrr : wr.rangeAt gl (ol + i * 4) (rdc r) := fun j v hj => by
        rw [Nat.add_assoc]
        exact hkl _ v (rdsc_rng hrb j v hj)
      have hrok : r.ok := HEP.out.rd _ (List.mem_of_getElem? hrb)
      obtain ⟨vs, o1, o2⟩ := hlf
      have hvi : vs.length = i := o2.1.trans HLI.out
      rw [hvi] at o1
      obtain ⟨A6, c6, rfl⟩ := own_lenR o1
      have HO1 := Lib.hid o1
      have HO2 := Lib.hid o2
      have HVI := Lib.hid hvi
      have HRB := Lib.hid hrb
      have HBQ := Lib.hid hBq
      clear hkl hin hrb hBq hYq hbx o1 o2 hvi
      go_upto_region 10 with (fail)
      refine wp_region_lit ?_
      iterate 9 (refine wpList_plain rfl fun K hK => ?_; go_big_op; refine hK _ _ ?_; clear hK K)
      refine wpList_plain rfl fun K40 hK40 => wp_of_step (stepAt_mono (fun v45 w45 hh => ?_) (step_loadR0 (cs := rdc r) rd_under rfl rd_size rfl rfl hrr))
      obtain ⟨rfl, rfl⟩ := hh
      refine hK40 _ _ ?_
      clear hK40 K40
      try simp only [Act.put, List.setIfInBounds_toArray, List.set_cons_succ, List.set_cons_zero]
      refine wpList_plain rfl fun K41 hK41 => wp_of_step (stepAt_mono (fun v46 w46 hh => ?_) (step_call (R := fun v W2 => ∃ g, v = .slice (some ⟨g, 0, none⟩) 3 3 ∧ w45.heap.size ≤ g ∧ Blk W2 g 5 (byc r.enc).toArray ∧ Below w45.heap.size w45 W2) en_attestor_attestorref12_Encode ((rEnc12 r hrok w45).mono fun e W2 ⟨g, h1, h2, h3, h4⟩ => ⟨_, h1, g, rfl, h2, h3, h4⟩) rfl rfl))
      obtain ⟨ge, rfl, hge, be, B46⟩ := hh
      refine hK41 _ _ ?_
      clear hK41 K41
      try simp only [Act.put, List.setIfInBounds_toArray, List.set_cons_succ, List.set_cons_zero]
      refine wpList_plain rfl fun K42 hK42 => wp_of_step (stepAt_mono (fun v47 w47 hh => ?_) (step_lit1 (cs := #[.slice (some ⟨ge, 0, none⟩) 3 3]) bss_slice hiB iB0 iB1 (by decide) (by decide) rfl rfl rfl))
      obtain ⟨⟨rfl, hl47, b47⟩, B47⟩ := hh
      refine hK42 _ _ ?_
      clear hK42 K42
      try simp only [Act.put, List.setIfInBounds_toArray, List.set_cons_succ, List.set_cons_zero]
      have o1 := own_below (own_below HO1.out (Nat.le_refl _) B46) (Nat.le_refl _) B47
      have o2 := HO2.out.mono fun u b ⟨g, q1, q2, q3⟩ => (⟨g, q1, q2, (q3.keep B46).keep B47⟩ : ∃ g, u = Value.slice (some ⟨g, 0, none⟩) 3 3 ∧ b.length = 3 ∧ Blk w47 g 5 (byc b).toArray)
      have be2 := be.keep B47
      have h46 := B46.size
      have h47 := B47.size
      have hBq2 := (HBQ.out.trans (B46.mono (by omega))).trans (B47.mono (by omega))
      refine wpList_app3 (u := .slice A6 i c6) (base := N) (n := w46.heap.size) (cl := [.slice (some ⟨ge, 0, none⟩) 3 3]) (cs := vs) rfl (.tmp 36) (.tmp 47) rfl bss_slice hiB iB0 iB1 iB2 rfl (by decide) rfl (fun v hv => by rw [List.mem_singleton.1 hv]; rfl) rfl rfl o1 b47 (by unfold maxLen; omega) (by omega) (by omega) fun v48 w48 own48 gr48 B48 hat48 => ?_
      have hlf2 := LfB.snoc (b := r.enc) (by rw [HVI.out]; exact o1) o2 rfl be2 (by rw [HVI.out]; exact own48) gr48
      have hBq3 := hBq2.trans B48
      have HLF2 := Lib.hid hlf2
      have HBQ3 := Lib.hid hBq3
      clear o1 o2 be be2 b47 hl47 B46 B47 hat48 own48 gr48 B48 hlf2 hBq2 hBq3 HO1 HO2 hge
      try simp only [Act.put, List.setIfInBounds_toArray, List.set_cons_succ, List.set_cons_zero]
      go_wp2_with fail
      exact ⟨⟨i + 1, _, by omega, by go_num, HLF2.out, Lib.hid (by rw [List.length_append, HLI.out]; rfl), Lib.hid (by rw [HLE.out, List.take_add_one, HRB.out]; simp), HBQ3.out⟩, by simp [intOf]; omega⟩
end Go.Proofs.YtoiampgfnidfdaaGreatDoor
