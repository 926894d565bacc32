/-
  The law's play (chapter 26).
  A question of chapter 26 as the reading of the arguments gives it; what the listed variables hold.
  MeterSmall: the walk.
-/
import Derived.Test.YtoiampgfnidfdaaGreatDoorStq26
import Derived.Test.YtoiampgfnidfdaaGreatDoorClm
import Derived.Test.YtoiampgfnidfdaaGreatDoorRo26
namespace Go.Proofs.YtoiampgfnidfdaaGreatDoor
open Go.RowKit

def qc26 (seed : Dg) (v : Value) : List Value := byc seed ++ [v]
def qv26 (seed : Dg) (v : Value) : Value := .agg (qc26 seed v).toArray
theorem qc26_len (seed : Dg) (v : Value) (h : seed.length = 32) : (qc26 seed v).length = 33 := by simp [qc26, byc_length, h]
theorem q26_seed {W : World} {g : Nat} {t : TypeId} {seed : Dg} {v : Value} (b : Blk W g t (qc26 seed v).toArray) : W.rangeAt g 0 (byc seed) := fun j u hu => by
  rw [b.cell, Nat.zero_add]
  simp only [List.getElem?_toArray]
  unfold qc26
  rw [List.getElem?_append_left (List.getElem?_eq_some_iff.1 hu).1]
  exact hu
theorem q26_l {W : World} {g : Nat} {t : TypeId} {seed : Dg} {v : Value} (b : Blk W g t (qc26 seed v).toArray) (h : seed.length = 32) : W.cell? ⟨g, 32, none⟩ = some v := by
  rw [b.cell]
  simp only [List.getElem?_toArray]
  unfold qc26
  rw [List.getElem?_append_right (by rw [byc_length, h]; exact Nat.le_refl _), byc_length, h]
  rfl
theorem opc_len (o : Op26) : (opc o).length = 6 := rfl
def plK (seed : Dg) (l : List Op26) (k : Nat) : St26 := (l.take k).foldl stepM (⟨0, seed, []⟩, [])
theorem plK_ok (seed : Dg) (hs : DgOk seed) (l : List Op26) (k : Nat) : StOk26 k (plK seed l k) :=
  (fold_ok26 (l.take k) 0 (⟨0, seed, []⟩, []) ⟨hs, Nat.le_refl _, rfl, Nat.le_refl _, fun i e l h => (by cases h), fun i e h => (by cases h)⟩).mono (by simp; omega)
theorem plK_succ (seed : Dg) (l : List Op26) (k : Nat) (o : Op26) (h : l[k]? = some o) : plK seed l (k + 1) = stepM (plK seed l k) o := by
  unfold plK
  rw [List.take_add_one, h, Option.toList_some, List.foldl_append]
  rfl
theorem plK_end (seed : Dg) (l : List Op26) (k : Nat) (h : k = l.length ∧ k ≤ 25 ∨ k = 25) : plK seed l k = playM seed l := by
  unfold plK playM
  rcases h with ⟨rfl, h⟩ | rfl
  · rw [List.take_of_length_le (Nat.le_refl _), List.take_of_length_le h]
  · rfl
theorem stt_info26 : (Tryz.prog.info? 38).map (fun i => (i.zero, i.size, i.bytes)) = some (some (.agg (stC ⟨0, List.replicate 32 0, []⟩ (.slice none 0 0) (.slice none 0 0)).toArray), 35, 88) := by kernel_rfl
theorem built_st0 : ∀ (cs : List Value), cs.length = 34 → Tryz.prog.built 38 [(0, .agg cs.toArray)] = some (cs ++ [Value.slice none 0 0]).toArray
  | a0 :: a1 :: a2 :: a3 :: [a4, a5, a6, a7, a8, a9, a10, a11, a12, a13, a14, a15, a16, a17, a18, a19, a20, a21, a22, a23, a24, a25, a26, a27, a28, a29, a30, a31, a32, a33], _ => by kernel_rfl
theorem step_buildS0 {o : Oper} {a : Act} {w : World} {x : Operand} {m : Mt} {vE : Value} (hs : m.seed.length = 32) (ho : o.op = .build 38 #[(0, x)]) (hx : a.eval x = mtV m vE) : stepAt Tryz.prog o a w fun v w' => v = .agg (stC m vE (.slice none 0 0)).toArray ∧ w' = w := by
  have hr := run_build (P := Tryz.prog) w 38 #[(0, mtV m vE)] _ (built_st0 (mtc m vE) (mtc_len m vE hs))
  unfold stepAt execOp
  simp only [ho, Sem.run_bind, List.map_toArray, List.map_cons, List.map_nil, hx, hr, Result.andThen_ok]
  exact ⟨rfl, rfl⟩
def PSt (S : Nat → Prop) (s : St26) (v : Value) (w : World) : Prop := ∃ vE vL, v = stV s.1 vE vL ∧ EpsB ⟨w, S⟩ vE s.1.eps ∧ StmsB ⟨w, S⟩ vL s.2
def StF (m : Mt) (n : Nat) (_ : Nat) (v : Value) : Prop := ∃ (x : Option Addr × Nat) (y : Option Addr × Nat), v = stV m (.slice x.1 m.eps.length x.2) (.slice y.1 n y.2)
theorem fit_pst {S : Nat → Prop} {s : St26} : Fit (Was (PSt S s)) (StF s.1 s.2.length) := ⟨was_st, fun _ => ⟨_, (none, 0), (none, 0), rfl⟩, fun n m v w h => by
  obtain ⟨w0, _, ⟨vE, vL, rfl, hE, hL⟩, _⟩ := h
  obtain ⟨A, cap, rfl⟩ := hE.len
  obtain ⟨B, cb, rfl⟩ := hL.len
  exact ⟨(A, cap), (B, cb), rfl⟩⟩
theorem pst_of {S : Nat → Prop} {s : St26} {n m : Nat} {vE vL : Value} {w : World} (h : Was (PSt S s) n m (stV s.1 vE vL) w) : EpsB ⟨w, S⟩ vE s.1.eps ∧ StmsB ⟨w, S⟩ vL s.2 := by
  obtain ⟨w0, h1, ⟨vE2, vL2, h2, h3, h5⟩, h4⟩ := h
  have hv : vE2 = vE ∧ vL2 = vL := by
    simp only [stV, stC, Value.agg.injEq, List.toArray_inj, Array.mk.injEq] at h2
    have h6 := List.append_inj' h2 rfl
    obtain ⟨h6, h7⟩ := h6
    unfold mtc at h6
    simp only [List.cons.injEq, List.append_cancel_left_eq, and_true, true_and] at h6 h7
    exact ⟨h6.symm, h7.symm⟩
  obtain ⟨rfl, rfl⟩ := hv
  subst h1
  exact ⟨h3.fwd h4, h5.fwd h4⟩
theorem pst_res {S : Nat → Prop} {s : St26} {w : World} (hS : ∀ g, w.heap.size ≤ g → S g) : ∀ r W2, (∃ vE' vL', r = .returned (stV s.1 vE' vL') ∧ EpsB (Bse.new ⟨w, S⟩ w W2) vE' s.1.eps ∧ StmsB (Bse.new ⟨w, S⟩ w W2) vL' s.2 ∧ Below w.heap.size w W2) → RetR (Was (PSt S s)) w r W2 := fun r W2 ⟨vE, vL, h1, h2, h3, h4⟩ =>
  ⟨_, h1, ⟨W2, rfl, ⟨vE, vL, rfl, eps_to h2 fun g hg _ => hS g hg, h3.le (Bse.le_of (Nat.le_refl _) fun g hg => ⟨hg.1.elim (fun h => h.1) (fun h => hS g h), rfl⟩)⟩, Below.refl _ _⟩, h4⟩
theorem stms_nil (b : Bse) : StmsB b (.slice none 0 0) [] := ⟨[], fun X _ => nil_rd X 2, Al.nil⟩
theorem q26_under : Tryz.prog.underlying 26 = some (.struct (Tryz.prog.fieldsOf 26)) := by kernel_rfl
theorem q26_size : (Tryz.prog.info? 26).map (·.size) = some 33 := by kernel_rfl
theorem en_attestor_attestorlaw26_play : ∀ args w, (callFunc 33 args).run Tryz.prog w = .ok (.enter 33 args) w := enters_of Tryz.func33 (by kernel_rfl) rfl
def PlS (g1 g3 g : Nat) : Prop := g1 ≤ g ∧ g ≠ g3 ∧ g ≠ g1 + 1
attribute [local irreducible] wpRg
set_option maxRecDepth 100000 in
set_option maxHeartbeats 8000000 in
theorem gPlay (seed : Dg) (hs : DgOk seed) (l : List Op26) (hl : l.length ≤ 140737488355327) (ho : ∀ o ∈ l, o.ok) (vO : Value) (w : World) (hO : RdA 6 w vO l.length (l.flatMap opc)) (hL : Laid w) (hSh : Lsh w) (hDb : Ldb w) : Calls Tryz.prog 33 #[qv26 seed vO] w fun e W2 => ∃ vE vL, e = .returned (stV (playM seed l).1 vE vL) ∧ EpsB ⟨W2, fun g => w.heap.size ≤ g⟩ vE (playM seed l).1.eps ∧ StmsB ⟨W2, fun g => w.heap.size ≤ g⟩ vL (playM seed l).2 ∧ Below w.heap.size w W2 := by
  obtain ⟨AO, cO, rfl⟩ := Rd.len hO
  obtain ⟨n, hn⟩ : ∃ n, n = l.length := ⟨_, rfl⟩
  rw [← hn] at hO hl ⊢
  have HN := Lib.hid hn
  have HO := Lib.hid hO
  have HL := Lib.hid hL
  have HS := Lib.hid hSh
  have HD := Lib.hid hDb
  have HS0 := Lib.hid hs
  have HOO := Lib.hid ho
  have hsl : seed.length = 32 := hs.1
  obtain ⟨Qv, hQv⟩ : ∃ S, S = qv26 seed (.slice AO n cO) := ⟨_, rfl⟩
  rw [← hQv]
  clear hn hO hL hSh hDb hs ho
  go_enter Tryz.func33, Tryz.ntmps33
  go_upto_region 1 with (fail)
  refine wp_stk2 fun W hB hz b1 b2 => ?_
  have b1' : Blk W w.heap.size 26 (qc26 seed (.slice AO n cO)).toArray := by first | exact b1 | (rw [hQv] at b1; exact b1)
  obtain ⟨z2, hz2, b2'⟩ : ∃ z : Array Value, z.size = 35 ∧ Blk W (w.heap.size + 1) 38 z := ⟨_, rfl, b2⟩
  obtain ⟨g1, hg1⟩ : ∃ g, g = w.heap.size := ⟨_, rfl⟩
  have HZ := Lib.hid hz.out
  rw [← hg1] at b1' b2' HZ ⊢
  have HG1 := Lib.hid hg1
  clear b1 b2 hz hQv hg1
  obtain ⟨iS, hiS, iS0, iS1, iS2⟩ := info_parts stt_info26
  refine wp_region_lit ?_
  iterate 1 (refine wpList_plain rfl fun K hK => ?_; go_big_op; refine hK _ _ ?_; clear hK K)
  refine wpList_plain rfl fun K2 hK2 => wp_of_step (stepAt_mono (fun v6 w6 hh => ?_) (step_loadR0 (cs := byc seed) b32_under rfl (by rw [b32_size, byc_length, hsl]) rfl rfl (q26_seed b1')))
  obtain ⟨rfl, rfl⟩ := hh
  refine hK2 _ _ ?_
  clear hK2 K2
  try simp only [Act.put, List.setIfInBounds_toArray, List.set_cons_succ, List.set_cons_zero]
  refine wpList_plain rfl fun K3 hK3 => wp_of_step (stepAt_mono (fun v7 w7 hh => ?_) (step_callv en_attestor_meter_New (gNew seed HS0.out w6) rfl rfl))
  obtain ⟨rfl, B7⟩ := hh
  refine hK3 _ _ ?_
  clear hK3 K3
  try simp only [Act.put, List.setIfInBounds_toArray, List.set_cons_succ, List.set_cons_zero]
  refine wpList_plain rfl fun K4 hK4 => wp_of_step (stepAt_mono (fun v8 w8 hh => ?_) (step_buildS0 (m := ⟨0, seed, []⟩) hsl rfl rfl))
  obtain ⟨rfl, rfl⟩ := hh
  refine hK4 _ _ ?_
  clear hK4 K4
  try simp only [Act.put, List.setIfInBounds_toArray, List.set_cons_succ, List.set_cons_zero]
  refine wpList_plain rfl fun K5 hK5 => wp_of_step (stepAt_mono (fun v3 w3 hh => ?_) (step_new0 hiS iS0 rfl))
  obtain ⟨rfl, rfl⟩ := hh
  refine hK5 _ _ ?_
  clear hK5 K5
  try simp only [Act.put, List.setIfInBounds_toArray, List.set_cons_succ, List.set_cons_zero]
  have hg1w := HG1.out
  have hzw := HZ.out
  have hW7 := B7.size
  obtain ⟨m0, hm0⟩ : ∃ m0 : Mt, m0 = ⟨0, seed, []⟩ := ⟨_, rfl⟩
  rw [← hm0]
  have hm0s : m0.seed.length = 32 := by rw [hm0]; exact hsl
  have b3 : Blk (w8.alloc (.cells (Value.agg (stC ⟨0, List.replicate 32 0, []⟩ (.slice none 0 0) (.slice none 0 0)).toArray).cells 38)) w8.heap.size 38 (stC ⟨0, List.replicate 32 0, []⟩ (.slice none 0 0) (.slice none 0 0)).toArray := World.alloc_heap_new w8 _
  have B3 := (Below.refl _ w8).alloc (Nat.le_refl _) (.cells (Value.agg (stC ⟨0, List.replicate 32 0, []⟩ (.slice none 0 0) (.slice none 0 0)).toArray).cells 38)
  generalize w8.alloc (.cells (Value.agg (stC ⟨0, List.replicate 32 0, []⟩ (.slice none 0 0) (.slice none 0 0)).toArray).cells 38) = w3 at *
  refine wpList_put rfl 38 (.tmp 3) (.tmp 8) rfl rfl (cells := stC m0 (.slice none 0 0) (.slice none 0 0)) rfl b3 (by rw [List.size_toArray, stC_len ⟨0, List.replicate 32 0, []⟩ _ _ rfl, stC_len m0 _ _ hm0s]; exact Nat.le_refl _) (by rw [stt_size26, stC_len m0 _ _ hm0s]) (stC_one _ _ _ rfl rfl) (spl_all _ _ (by rw [List.size_toArray, stC_len ⟨0, List.replicate 32 0, []⟩ _ _ rfl, stC_len m0 _ _ hm0s])) fun X hX bX => ?_
  have BX : Below w8.heap.size w8 X := below_put B3 hX (Nat.le_refl _)
  have BWX := B7.trans (BX.mono hW7)
  have b1X := b1'.keep BWX
  have b2X := b2'.keep BWX
  have hBX := hB.trans (BWX.mono hB.size)
  obtain ⟨g3, hg3⟩ : ∃ g, g = w8.heap.size := ⟨_, rfl⟩
  have hg13 : g1 + 2 ≤ g3 := by omega
  have HG3 := Lib.hid hg13
  have H1X := Lib.hid b1X
  have H2X := Lib.hid b2X
  have HBX := Lib.hid hBX
  rw [← hg3] at bX ⊢
  rw [hm0] at bX
  clear b1' b2' hB hg1w hzw hW7 hm0 hm0s b3 B3 hX BX BWX b1X b2X hBX hg3 hg13 B7 HZ
  try simp only [Act.put, List.setIfInBounds_toArray, List.set_cons_succ, List.set_cons_zero]
  go_upto_region 3 with (fail)
  go_loopw [4] (fun q wr => ∃ (k : Nat) (vE vL : Value), k ≤ n ∧ k ≤ 25 ∧ q = .int .i64 k ∧ Blk wr g3 38 (stC (plK seed l k).1 vE vL).toArray ∧ EpsB ⟨wr, PlS g1 g3⟩ vE (plK seed l k).1.eps ∧ StmsB ⟨wr, PlS g1 g3⟩ vL (plK seed l k).2 ∧ Below g3 X wr) (fun q _ => 25 - (intOf q).toNat)
  case atStart => exact ⟨0, _, _, Nat.zero_le _, by omega, rfl, bX, eps_nil _, stms_nil _, Below.refl _ _⟩
  case round =>
    clear bX
    obtain ⟨k, vE, vL, hkn, hk25, rfl, b3, hE, hT, hBr⟩ := hrel
    obtain ⟨s, hs⟩ : ∃ s, s = plK seed l k := ⟨_, rfl⟩
    rw [← hs] at b3 hE hT
    have hok : StOk26 k s := by rw [hs]; exact plK_ok seed HS0.out l k
    have b1 := H1X.out.below hBr (by have := HG3.out; omega)
    have b2 := H2X.out.below hBr (by have := HG3.out; omega)
    have hBw : Below w.heap.size w wr := HBX.out.trans (hBr.mono (by have := HG3.out; have := HG1.out; omega))
    have c32 := q26_l b1 hsl
    have l1 := b1.lt
    have HSK := Lib.hid hs
    have HOK := Lib.hid hok
    have HE := Lib.hid hE
    have HT := Lib.hid hT
    have HBR := Lib.hid hBr
    have HB2 := Lib.hid b2
    have HBW := Lib.hid hBw
    clear hs hok hE hT hBr b2 hBw
    by_cases hlt : k < n
    rotate_left 1
    · have HFN := Lib.hid (show s = playM seed l by rw [HSK.out]; exact plK_end seed l k (.inl ⟨by have := HN.out; omega, hk25⟩))
      have hsn : s.1.seed.length = 32 := HOK.out.seed.1
      obtain ⟨A, cap, rfl⟩ := HE.out.len
      obtain ⟨B, cb, rfl⟩ := HT.out.len
      have b2 := HB2.out
      have hBw := HBW.out
      go_upto_region 6 with (fail)
      clear c32 l1 b1
      refine wp_region_lit ?_
      refine wpList_plain rfl fun K8 hK8 => wp_of_step (stepAt_mono (fun v27 w27 hh => ?_) (step_loadR0 (cs := stC s.1 (.slice A s.1.eps.length cap) (.slice B s.2.length cb)) stt_under26 rfl (by rw [stt_size26, stC_len _ _ _ hsn]) rfl rfl (blk_range b3)))
      obtain ⟨rfl, rfl⟩ := hh
      refine hK8 _ _ ?_
      clear hK8 K8
      try simp only [Act.put, List.setIfInBounds_toArray, List.set_cons_succ, List.set_cons_zero]
      refine wpList_put rfl 38 (.tmp 2) (.tmp 27) rfl rfl (cells := stC s.1 (.slice A s.1.eps.length cap) (.slice B s.2.length cb)) rfl b2 (by rw [hz2, stC_len _ _ _ hsn]; exact Nat.le_refl _) (by rw [stt_size26, stC_len _ _ _ hsn]) (stC_one _ _ _ rfl rfl) (spl_all _ _ (by rw [hz2, stC_len _ _ _ hsn])) fun Z hZ bZ => ?_
      have hBZ := below_put hBw hZ (by have := HG1.out; omega)
      try simp only [Act.put, List.setIfInBounds_toArray, List.set_cons_succ, List.set_cons_zero]
      go_wp2_with fail
      refine bodyPost_ret (v := stV s.1 (.slice A s.1.eps.length cap) (.slice B s.2.length cb)) (res_row (cs := stC s.1 (.slice A s.1.eps.length cap) (.slice B s.2.length cb)) (g := g1 + 1) rfl rfl stt_under26 rfl (by rw [stt_size26, stC_len _ _ _ hsn]) bZ) rfl ?_
      rw [← HFN.out]
      exact ⟨_, _, rfl, (HE.out.pt hZ (fun h => h.2.2 rfl)).sub (fun g hg hl => by rw [← HG1.out]; exact hg.1), stms_sub (StmsB.pt HT.out hZ (fun h => h.2.2 rfl)) (fun g hg => by rw [← HG1.out]; exact hg.1), hBZ⟩
    by_cases hlt2 : k < 25
    rotate_left 1
    · have HFN := Lib.hid (show s = playM seed l by rw [HSK.out]; exact plK_end seed l k (.inr (by omega)))
      have hsn : s.1.seed.length = 32 := HOK.out.seed.1
      obtain ⟨A, cap, rfl⟩ := HE.out.len
      obtain ⟨B, cb, rfl⟩ := HT.out.len
      have b2 := HB2.out
      have hBw := HBW.out
      go_upto_region 6 with (fail)
      clear c32 l1 b1
      refine wp_region_lit ?_
      refine wpList_plain rfl fun K11 hK11 => wp_of_step (stepAt_mono (fun v27 w27 hh => ?_) (step_loadR0 (cs := stC s.1 (.slice A s.1.eps.length cap) (.slice B s.2.length cb)) stt_under26 rfl (by rw [stt_size26, stC_len _ _ _ hsn]) rfl rfl (blk_range b3)))
      obtain ⟨rfl, rfl⟩ := hh
      refine hK11 _ _ ?_
      clear hK11 K11
      try simp only [Act.put, List.setIfInBounds_toArray, List.set_cons_succ, List.set_cons_zero]
      refine wpList_put rfl 38 (.tmp 2) (.tmp 27) rfl rfl (cells := stC s.1 (.slice A s.1.eps.length cap) (.slice B s.2.length cb)) rfl b2 (by rw [hz2, stC_len _ _ _ hsn]; exact Nat.le_refl _) (by rw [stt_size26, stC_len _ _ _ hsn]) (stC_one _ _ _ rfl rfl) (spl_all _ _ (by rw [hz2, stC_len _ _ _ hsn])) fun Z hZ bZ => ?_
      have hBZ := below_put hBw hZ (by have := HG1.out; omega)
      try simp only [Act.put, List.setIfInBounds_toArray, List.set_cons_succ, List.set_cons_zero]
      go_wp2_with fail
      refine bodyPost_ret (v := stV s.1 (.slice A s.1.eps.length cap) (.slice B s.2.length cb)) (res_row (cs := stC s.1 (.slice A s.1.eps.length cap) (.slice B s.2.length cb)) (g := g1 + 1) rfl rfl stt_under26 rfl (by rw [stt_size26, stC_len _ _ _ hsn]) bZ) rfl ?_
      rw [← HFN.out]
      exact ⟨_, _, rfl, (HE.out.pt hZ (fun h => h.2.2 rfl)).sub (fun g hg hl => by rw [← HG1.out]; exact hg.1), stms_sub (StmsB.pt HT.out hZ (fun h => h.2.2 rfl)) (fun g hg => by rw [← HG1.out]; exact hg.1), hBZ⟩
    go_upto_region 5 with (fail)
    have hkl : k < l.length := by rw [← HN.out]; exact hlt
    obtain ⟨o, ho⟩ : ∃ o, l[k]? = some o := ⟨l[k], List.getElem?_eq_getElem hkl⟩
    have hoo := HOO.out o (List.mem_of_getElem? ho)
    have hsn : s.1.seed.length = 32 := HOK.out.seed.1
    have hs2n : (stepM s o).1.seed.length = 32 := (step_ok26 HOK.out o).seed.1
    have hrd : RdA 6 wr (.slice AO n cO) n (l.flatMap opc) := RdA.keep HO.out HBW.out
    obtain ⟨g, off, cap', hv, hcp, hg, hcs⟩ := RdA.at opc_len (by rw [← HN.out]; exact hrd) ho
    rw [← HN.out] at hv hcp
    cases hv
    have hrg : wr.rangeAt g (off + k * 6) (opc o) := fun j x hj => by rw [Nat.add_assoc]; exact hcs j x hj
    obtain ⟨A, cap, rfl⟩ := HE.out.len
    obtain ⟨B, cb, rfl⟩ := HT.out.len
    have k32 := gw_cell l1 c32
    have hg3w : g3 < wr.heap.size := b3.lt
    clear hrd hcs c32 hkl
    refine wp_region_rg 7 [(0, Spec.val (stV s.1 (.slice A s.1.eps.length cap) (.slice B s.2.length cb))), (5, Spec.val (.agg (opc o).toArray)), (6, Spec.rel (Was (PSt (PlS g1 g3) (stepM s o))) (StF (stepM s o).1 (stepM s o).2.length))] (by kernel_rfl) (by kernel_rfl) (by kernel_rfl) ⟨fit_pst, trivial⟩ ?_
    refine rg_val rfl rfl (fun W1 hW1 hF => step_loadR (cs := stC s.1 (.slice A s.1.eps.length cap) (.slice B s.2.length cb)) stt_under26 rfl (by rw [stt_size26, stC_len _ _ _ hsn]) rfl rfl (blk_range (b3.keep (grw_below hW1)))) ?_
    intro a' ha
    simp only [Act.put, List.setIfInBounds_toArray, List.set_cons_succ, List.set_cons_zero] at ha
    subst ha
    iterate 4 (refine rg_det rfl rfl rfl (fun K hK => ?_); go_big_quiet_op; refine hK _ ?_; clear hK K)
    refine rg_val rfl rfl (fun W1 hW1 hF => step_loadR (cs := opc o) opp_under26 rfl opp_size26 rfl rfl (range_keep hrg hg (grw_below hW1))) ?_
    intro a' ha
    simp only [Act.put, List.setIfInBounds_toArray, List.set_cons_succ, List.set_cons_zero] at ha
    subst ha
    refine rg_rel rfl rfl (fun W1 hW1 hF => step_callr en_attestor_attestorlaw26_step (((gStep k (by omega) s HOK.out o hoo (.slice A s.1.eps.length cap) (.slice B s.2.length cb) ⟨W1, PlS g1 g3⟩ W1 (Bse.ok_self _) (HL.out.keep (HBW.out.trans ((grw_below hW1).mono HBW.out.size))) (HS.out.keep (HBW.out.trans ((grw_below hW1).mono HBW.out.size))) (HD.out.keep (HBW.out.trans ((grw_below hW1).mono HBW.out.size))) (HE.out.fwd (grw_below hW1)) (HT.out.fwd (grw_below hW1))).mono (pst_res (fun g hg => by have := (grw_below hW1).size; have := HG3.out; exact ⟨by omega, by omega, by omega⟩)))) rfl rfl) ?_
    intro n6 m6 v6 hn6 hm6 hd6 hf6 a' ha
    simp only [Act.put, List.setIfInBounds_toArray, List.set_cons_succ, List.set_cons_zero] at ha
    subst ha
    obtain ⟨A6, cap6, rfl⟩ := hf6
    refine rg_nil (fun w' hw' hF => ?_)
    obtain ⟨z, rfl⟩ := hw'
    simp only [List.drop_succ_cons, List.drop_zero]
    obtain ⟨qE, qL⟩ := pst_of (end_last hF).2
    clear hF
    have b3z := b3.keep z.h
    refine wpList_put rfl 38 (.tmp 3) (.tmp 26) rfl rfl (cells := stC (stepM s o).1 (.slice A6.1 (stepM s o).1.eps.length A6.2) (.slice cap6.1 (stepM s o).2.length cap6.2)) rfl b3z (by rw [List.size_toArray, stC_len _ _ _ hsn, stC_len _ _ _ hs2n]; exact Nat.le_refl _) (by rw [stt_size26, stC_len _ _ _ hs2n]) (stC_one _ _ _ rfl rfl) (spl_all _ _ (by rw [List.size_toArray, stC_len _ _ _ hsn, stC_len _ _ _ hs2n])) fun Y hY bY => ?_
    have hBY : Below g3 X Y := below_put (HBR.out.trans (z.h.mono (by omega))) hY (Nat.le_refl _)
    have HE2 := Lib.hid (qE.pt hY (fun h => h.2.1 rfl))
    have HT2 := Lib.hid (qL.pt hY (fun h => h.2.1 rfl))
    have hps : stepM s o = plK seed l (k + 1) := by rw [plK_succ seed l k o ho, ← HSK.out]
    have HPS := Lib.hid hps
    clear hps qE qL b3z b3 hY k32
    try simp only [Act.put, List.setIfInBounds_toArray, List.set_cons_succ, List.set_cons_zero]
    go_wp2_with fail
    exact ⟨⟨k + 1, _, _, by omega, by omega, by go_num, by rw [← HPS.out]; exact bY, by rw [← HPS.out]; exact HE2.out, by rw [← HPS.out]; exact HT2.out, hBY⟩, by simp [intOf]; omega⟩
end Go.Proofs.YtoiampgfnidfdaaGreatDoor
namespace Go.Proofs.YtoiampgfnidfdaaGreatDoor
open Go.ChangeShapes Go.WideShapes Go.RowKit

def natU (v : Value) : Nat := match v with | .int _ z => z.toNat | _ => 0
theorem okd_u8 {W : World} {n : Nat} {cs : List Value} (h : Okd Tryz.prog W n 5 cs) : ∃ x : Nat, x < 256 ∧ cs = [.int .u8 (x : Int)] := by
  obtain ⟨z, e, o⟩ := okd_int Tryz.underlying5 h
  have hz := wf_u8 o
  exact ⟨z.toNat, by omega, by rw [e, Int.toNat_of_nonneg hz.1]⟩
theorem okd_bytes {W : World} {n m : Nat} {t : TypeId} {cs : List Value} (ht : Tryz.prog.underlying t = some (.array m 5)) (hc : Tryz.prog.cellsOf t = m) (h : Okd Tryz.prog W n t cs) : ∃ l : List Nat, l.length = m ∧ (∀ x ∈ l, x < 256) ∧ cs = byc l := by
  obtain ⟨h1, q, h2⟩ := okd_array ht h
  have c6 : Tryz.prog.cellsOf 5 = 1 := by kernel_rfl
  rw [hc] at h1
  have key : ∀ i, i < m → ∃ x : Nat, x < 256 ∧ cs[i]? = some (.int .u8 (x : Int)) := fun i hi => by
    have h3 := h2 i hi
    rw [c6, Nat.mul_one] at h3
    obtain ⟨x, hx, e⟩ := okd_u8 h3
    refine ⟨x, hx, ?_⟩
    have : ((cs.drop i).take 1)[0]? = some (.int .u8 (x : Int)) := by rw [e]; rfl
    simpa using this
  refine ⟨cs.map natU, by rw [List.length_map, h1], fun x hx => ?_, List.ext_getElem? fun i => ?_⟩
  · obtain ⟨v, hv, rfl⟩ := List.mem_map.1 hx
    obtain ⟨i, hi⟩ := List.getElem?_of_mem hv
    obtain ⟨x, hx, e⟩ := key i (by rw [← h1]; exact (List.getElem?_eq_some_iff.1 hi).1)
    rw [hi] at e
    rw [Option.some.inj e]
    show ((x : Int)).toNat < 256
    omega
  · rcases Nat.lt_or_ge i m with hi | hi
    · obtain ⟨x, hx, e⟩ := key i hi
      rw [e]
      unfold byc
      rw [List.getElem?_map, List.getElem?_map, e]
      rfl
    · rw [List.getElem?_eq_none (by omega), List.getElem?_eq_none (by rw [byc_length, List.length_map]; omega)]
set_option maxRecDepth 100000 in
theorem okd_op26 {W : World} {n : Nat} {cs : List Value} (h : Okd Tryz.prog W n 70 cs) : ∃ o : Op26, o.ok ∧ cs = opc o := by
  obtain ⟨h1, m, h2⟩ := okd_struct Tryz.underlying70 h
  have c1 : Tryz.prog.cellsOf 70 = 6 := by kernel_rfl
  have c6 : Tryz.prog.cellsOf 5 = 1 := by kernel_rfl
  have c3 : Tryz.prog.cellsOf 68 = 3 := by kernel_rfl
  rw [c1] at h1
  obtain ⟨a, b, c, d, e, f, rfl⟩ : ∃ a b c d e f, cs = [a, b, c, d, e, f] := by
    match cs, h1 with
    | [a, b, c, d, e, f], _ => exact ⟨a, b, c, d, e, f, rfl⟩
  obtain ⟨k0, k1, k2, k3, -⟩ := h2
  simp only [c6, c3, List.drop_zero, List.take_succ_cons, List.take_zero, List.drop_succ_cons] at k0 k1 k2 k3
  obtain ⟨x0, hx0, e0⟩ := okd_u8 k0
  obtain ⟨l, hl, hl2, e1⟩ := okd_bytes Tryz.underlying68 c3 k1
  obtain ⟨x2, hx2, e2⟩ := okd_u8 k2
  obtain ⟨x3, hx3, e3⟩ := okd_u8 k3
  obtain ⟨y0, y1, y2, rfl⟩ : ∃ y0 y1 y2, l = [y0, y1, y2] := by
    match l, hl with
    | [a, b, c], _ => exact ⟨a, b, c, rfl⟩
  simp only [byc, List.map_cons, List.map_nil, List.cons.injEq, and_true] at e0 e1 e2 e3
  obtain ⟨e1a, e1b, e1c⟩ := e1
  subst e0; subst e1a; subst e1b; subst e1c; subst e2; subst e3
  exact ⟨⟨x0, y0, y1, y2, x2, x3⟩, ⟨hx0, hl2 _ (by simp), hl2 _ (by simp), hl2 _ (by simp), hx2, hx3⟩, rfl⟩
theorem okd_ops26 {W : World} {n : Nat} {cs : List Value} (h : Okd Tryz.prog W n 24 cs) : ∃ v, cs = [v] ∧ ∃ l : List Op26, Rd 0 W.heap.size 6 W v l.length (l.flatMap opc) ∧ ∀ o ∈ l, o.ok :=
  okd_slice opc Op26.ok (by decide) opc_len Tryz.underlying24 (by kernel_rfl) (Nat.le_of_ble_eq_true (by kernel_rfl)) (fun n cs h => okd_op26 h) h
set_option maxRecDepth 100000 in
theorem okd_q26 {W : World} {n : Nat} {cs : List Value} (h : Okd Tryz.prog W n 26 cs) : ∃ (seed : Dg) (l : List Op26) (vO : Value), cs = qc26 seed vO ∧ DgOk seed ∧ l.length ≤ 140737488355327 ∧ (∀ o ∈ l, o.ok) ∧ RdA 6 W vO l.length (l.flatMap opc) := by
  obtain ⟨h1, m, h2⟩ := okd_struct Tryz.underlying26 h
  have c1 : Tryz.prog.cellsOf 26 = 33 := by kernel_rfl
  have c2 : Tryz.prog.cellsOf 23 = 32 := by kernel_rfl
  have c3 : Tryz.prog.cellsOf 24 = 1 := by kernel_rfl
  rw [c1] at h1
  obtain ⟨k0, k1, -⟩ := h2
  dsimp only at k0 k1
  rw [c2] at k0
  rw [c3] at k1
  obtain ⟨seed, hs1, hs2, e0⟩ := okd_bytes Tryz.underlying23 c2 k0
  obtain ⟨v, e1, l, hl1, hl2⟩ := okd_ops26 k1
  refine ⟨seed, l, v, ?_, ⟨hs1, hs2⟩, hl1.2.1, hl2, hl1⟩
  rw [List.drop_zero] at e0
  unfold qc26
  rw [← e0, ← e1, List.take_of_length_le (l := cs.drop 32) (by rw [List.length_drop]; omega), List.take_append_drop]
theorem u8_laid {W : World} {nm : String} {g : Nat} {t : TypeId} {cs : Array Value} {fuel n : Nat} {d : DataW Unit} {p : List MemPlace} (zs : List Int) (hg : Tryz.prog.globalNamed nm = some g) (ht : Tryz.prog.underlying t = some (.array n 5)) (hv : W.var? Tryz.prog nm = some cs)
    (hd : DataW.trod (fun _ => ()) Tryz.prog W 0 (fun _ => true) false fuel t cs.toList = some (d, p)) (hz : d = .agg (zs.map fun z => .lit (.int .u8 z))) (hn : zs.length = n) : W.rangeAt g 0 (zs.map fun z => Value.int .u8 z) := by
  obtain ⟨xs, m, _, ex, _, hl, hel⟩ := DataW.trod_array ht hd
  have c5 : Tryz.prog.cellsOf 5 = 1 := by kernel_rfl
  intro r v hr
  have hr' : r < n := by
    rw [← hn]
    have := (List.getElem?_eq_some_iff.1 hr).1
    rwa [List.length_map] at this
  have hE := hel r hr'
  rw [c5, Nat.mul_one, List.getElem?_eq_getElem (by omega)] at hE
  obtain ⟨z, e1, e2, _⟩ := DataW.trod_int Tryz.underlying5 hE
  have e3 : (xs.map (·.1)) = zs.map fun n => .lit (.int .u8 n) := (DataW.agg.inj ((Prod.mk.inj ex).1.symm.trans hz))
  have e4 : (xs.map (·.1))[r]? = (zs.map fun n => (DataW.lit (.int .u8 n) : DataW Unit))[r]? := by rw [e3]
  rw [List.getElem?_map, List.getElem?_map, List.getElem?_eq_getElem (by omega : r < xs.length), List.getElem?_eq_getElem (by omega : r < zs.length), e2] at e4
  rw [List.getElem?_map, List.getElem?_eq_getElem (by omega : r < zs.length)] at hr
  simp only [Option.map_some, Option.some.injEq, DataW.lit.injEq, Lit.int.injEq, true_and] at e4 hr
  rw [← e4] at hr
  rw [Nat.zero_add, World.var?_cell hg hv r, ← hr]
  have : cs.toList[r]? = some (.int .u8 z) := by
    have h0 : ((cs.toList.drop r).take 1)[0]? = some (.int .u8 z) := by rw [e1]; rfl
    simpa using h0
  simpa using this
theorem gDbt : Tryz.prog.globalNamed "math/bits.deBruijn64tab" = some 3 := by kernel_rfl
theorem tDbt : (Tryz.prog.globals[3]?).map (·.type) = some 162 := by kernel_rfl
def dbZ : List Int := [0, 1, 56, 2, 57, 49, 28, 3, 61, 58, 42, 50, 38, 29, 17, 4, 62, 47, 59, 36, 45, 43, 51, 22, 53, 39, 33, 30, 24, 18, 12, 5, 63, 55, 48, 27, 60, 41, 37, 16, 46, 35, 44, 21, 52, 32, 23, 11, 54, 26, 40, 15, 34, 20, 31, 10, 25, 14, 19, 9, 13, 8, 7, 6]
theorem db_laid : (Rows.laid_math_bits_deBruijn64tab : DataW Unit) = .agg (dbZ.map fun z => .lit (.int .u8 z)) := by kernel_rfl
theorem cell_lt {W : World} {g i : Nat} {v : Value} (h : W.cell? ⟨g, i, none⟩ = some v) : g < W.heap.size := by
  rcases Nat.lt_or_ge g W.heap.size with h1 | h1
  · exact h1
  · simp only [World.cell?] at h; rw [Array.getElem?_eq_none h1] at h; cases h
set_option maxRecDepth 100000 in
theorem laid_of5 {W : World} (h : laidMetH Tryz.prog [("math/bits.deBruijn32tab", Rows.laid_math_bits_deBruijn32tab), ("math/bits.deBruijn64tab", Rows.laid_math_bits_deBruijn64tab), ("attestor/mle.one", Rows.laid_attestor_mle_one), ("attestor/sha256.constants", Rows.laid_attestor_sha256_constants), ("attestor/sha256.initial", Rows.laid_attestor_sha256_initial)] W) : Laid W ∧ Lsh W ∧ Ldb W := by
  rw [MakeChecks.laidMetH_plain _ _ _ (by kernel_rfl)] at h
  obtain ⟨ps, ⟨g8, t8, cs8, f8, p8, q8, hg8, ht8, hv8, hd8, ⟨g9, t9, cs9, f9, p9, q9, hg9, ht9, hv9, hd9, ⟨g0, t0, cs0, f0, p0, q0, hg0, ht0, hv0, hd0, ⟨g1, t1, cs1, f1, p1, q1, hg1, ht1, hv1, hd1, ⟨g2, t2, cs2, f2, p2, q2, hg2, ht2, hv2, hd2, _, _⟩, _⟩, _⟩, _⟩, _⟩, _, _⟩ := h
  obtain rfl := Option.some.inj (gCon.symm.trans hg1)
  obtain rfl := Option.some.inj (tCon.symm.trans ht1)
  obtain rfl := Option.some.inj (gIni.symm.trans hg2)
  obtain rfl := Option.some.inj (tIni.symm.trans ht2)
  obtain rfl := Option.some.inj (gDbt.symm.trans hg9)
  obtain rfl := Option.some.inj (tDbt.symm.trans ht9)
  have r2 := u32_laid conZ gCon Tryz.underlying188 hv1 hd1 con_laid (by kernel_rfl)
  have r1 := u32_laid [1779033703, 3144134277, 1013904242, 2773480762, 1359893119, 2600822924, 528734635, 1541459225] gIni Tryz.underlying172 hv2 hd2 rfl rfl
  have r9 := u8_laid dbZ gDbt Tryz.underlying162 hv9 hd9 db_laid rfl
  rw [← con_zs] at r2
  rw [← ini_zs] at r1
  have d0 := r9 0 _ rfl
  have d1 := r9 1 _ rfl
  have d3 := r9 3 _ rfl
  have d7 := r9 7 _ rfl
  exact ⟨laid_of1 hg0 ht0 hv0 hd0, ⟨r1, r2, cell_lt (r1 0 _ rfl), cell_lt (r2 0 _ rfl)⟩, ⟨d0, d1, d3, d7, cell_lt d0⟩⟩
end Go.Proofs.YtoiampgfnidfdaaGreatDoor
namespace Go.Proofs.YtoiampgfnidfdaaGreatDoor
open Go.RowKit

theorem run_field_st : ∀ (cs : List Value) (v : Value) (w : World), cs.length = 34 → (Instr.field 38 (.agg (cs ++ [v]).toArray) 0).run Tryz.prog w = .ok (.agg cs.toArray) w
  | a0 :: a1 :: a2 :: a3 :: [a4, a5, a6, a7, a8, a9, a10, a11, a12, a13, a14, a15, a16, a17, a18, a19, a20, a21, a22, a23, a24, a25, a26, a27, a28, a29, a30, a31, a32, a33], v, w, _ => by kernel_rfl
theorem step_fieldS {o : Oper} {a : Act} {w : World} {x : Operand} {m : Mt} {vE vL : Value} (hs : m.seed.length = 32) (ho : o.op = .field 38 x 0) (hx : a.eval x = stV m vE vL) : stepAt Tryz.prog o a w fun v w' => v = mtV m vE ∧ w' = w := by
  have hr := run_field_st (mtc m vE) vL w (mtc_len m vE hs)
  unfold stepAt execOp
  simp only [ho, hx]
  unfold stV stC
  simp only [Sem.run_bind, hr, Result.andThen_ok]
  exact ⟨rfl, rfl⟩
theorem onesN_step (n : Nat) (h : 0 < n) : onesN n = n % 2 + onesN (n / 2) := by
  conv => lhs; unfold onesN
  rw [dif_neg (by omega)]
def costM (e : Ep) : Nat := 3 + 4 * onesN e.count + 11 * e.pts.length
theorem words_cost {k : Nat} {s : St26} (h : StOk26 k s) : wordsM s.1 = 5 + (s.1.eps.map costM).sum := by
  unfold wordsM
  congr 2
  refine List.map_congr_left fun e he => ?_
  obtain ⟨i, hi⟩ := List.getElem?_of_mem he
  obtain ⟨l, _, hE⟩ := h.epk hi
  unfold costM
  rw [hE.pkl.1]
theorem cost_le {k : Nat} {s : St26} (h : StOk26 k s) (e : Ep) (he : e ∈ s.1.eps) : e.count ≤ 8 ∧ onesN e.count ≤ 8 ∧ e.pts.length ≤ 4 := by
  obtain ⟨i, hi⟩ := List.getElem?_of_mem he
  obtain ⟨l, _, hE⟩ := h.epk hi
  have h8 := hE.pkl.2
  exact ⟨h8, (ones8 ⟨e.count, by omega⟩).1, hE.p4⟩
theorem sum_take {l : List Nat} {k : Nat} {x : Nat} (h : l[k]? = some x) : (l.take (k + 1)).sum = (l.take k).sum + x := by
  rw [List.take_add_one, h]
  simp
theorem ep_info26 : (Tryz.prog.info? 75).map (fun i => (i.zero, i.size, i.bytes)) = some (some (.agg #[.int .i64 0, .int .i64 0, .bool false, .slice none 0 0, .slice none 0 0]), 5, 72) := by kernel_rfl
attribute [local irreducible] wpRg
set_option maxRecDepth 100000 in
set_option maxHeartbeats 8000000 in
theorem wkMeterSmall (seed : Dg) (hs : DgOk seed) (l : List Op26) (hl : l.length ≤ 140737488355327) (ho : ∀ o ∈ l, o.ok) (vO : Value) (w : World) (hO : RdA 6 w vO l.length (l.flatMap opc)) (hL : Laid w) (hSh : Lsh w) (hDb : Ldb w) : Calls Tryz.prog 6 #[qv26 seed vO] w (Ret (.bool true) w) := by
  obtain ⟨AO, cO, rfl⟩ := Rd.len hO
  have HO := Lib.hid hO
  have HL := Lib.hid hL
  have HS := Lib.hid hSh
  have HD := Lib.hid hDb
  have HS0 := Lib.hid hs
  have HOO := Lib.hid ho
  have HLL := Lib.hid hl
  have hsl : seed.length = 32 := hs.1
  obtain ⟨nl, hnl⟩ : ∃ n, n = l.length := ⟨_, rfl⟩
  rw [← hnl]
  have HNL := Lib.hid hnl
  obtain ⟨Qv, hQv⟩ : ∃ S, S = qv26 seed (.slice AO nl cO) := ⟨_, rfl⟩
  rw [← hQv]
  clear hnl hO hL hSh hDb hs ho hl
  go_enter Tryz.func6, Tryz.ntmps6
  go_upto_region 1 with (fail)
  refine wp_stk1 fun W hB hz b1 => ?_
  have b1' : Blk W w.heap.size 26 (qc26 seed (.slice AO nl cO)).toArray := by first | exact b1 | (rw [hQv] at b1; exact b1)
  obtain ⟨g1, hg1⟩ : ∃ g, g = w.heap.size := ⟨_, rfl⟩
  rw [← hg1] at b1' ⊢
  have HG1 := Lib.hid hg1
  clear b1 hz hQv hg1
  refine wp_region_lit ?_
  refine wpList_plain rfl fun K1 hK1 => wp_of_step (stepAt_mono (fun v11 w11 hh => ?_) (step_callv en_attestor_attestorlaw26_sanity (lSanity26 W (HL.out.keep hB) (HS.out.keep hB) (HD.out.keep hB)) rfl rfl))
  obtain ⟨rfl, B11⟩ := hh
  refine hK1 _ _ ?_
  clear hK1 K1
  try simp only [Act.put, List.setIfInBounds_toArray, List.set_cons_succ, List.set_cons_zero]
  replace b1' := b1'.keep B11
  replace hB := hB.trans (B11.mono hB.size)
  clear B11
  try simp only [Act.put, List.setIfInBounds_toArray, List.set_cons_succ, List.set_cons_zero]
  go_upto_region 2 with (fail)
  refine wp_region_lit ?_
  refine wpList_plain rfl fun K3 hK3 => wp_of_step (stepAt_mono (fun v12 w12 hh => ?_) (step_loadR0 (cs := qc26 seed (.slice AO nl cO)) q26_under rfl (by rw [q26_size, qc26_len _ _ hsl]) rfl rfl (blk_range b1')))
  obtain ⟨rfl, rfl⟩ := hh
  refine hK3 _ _ ?_
  clear hK3 K3
  try simp only [Act.put, List.setIfInBounds_toArray, List.set_cons_succ, List.set_cons_zero]
  obtain ⟨s, hs⟩ : ∃ s, s = playM seed l := ⟨_, rfl⟩
  have hP := gPlay seed HS0.out l HLL.out HOO.out (.slice AO nl cO) w12 (by rw [HNL.out]; exact RdA.keep HO.out hB) (HL.out.keep hB) (HS.out.keep hB) (HD.out.keep hB)
  rw [← hs] at hP
  refine wpList_plain rfl fun K4 hK4 => wp_of_step (stepAt_mono (fun v13 w13 hh => ?_) (step_call (R := fun v W2 => ∃ vE vL, v = stV s.1 vE vL ∧ EpsB ⟨W2, fun g => w12.heap.size ≤ g⟩ vE s.1.eps ∧ Below w12.heap.size w12 W2) en_attestor_attestorlaw26_play (hP.mono fun r W2 ⟨vE, vL, h1, h2, h3, h4⟩ => ⟨_, h1, vE, vL, rfl, h2, h4⟩) rfl rfl))
  obtain ⟨vE, vL, rfl, hE, B13⟩ := hh
  refine hK4 _ _ ?_
  clear hK4 K4
  try simp only [Act.put, List.setIfInBounds_toArray, List.set_cons_succ, List.set_cons_zero]
  have hok : StOk26 25 s := by rw [hs]; exact play_ok26 seed HS0.out l
  have hms : s.1.seed.length = 32 := hok.seed.1
  replace b1' := b1'.keep B13
  replace hB := hB.trans (B13.mono hB.size)
  clear B13 hP
  refine wpList_plain rfl fun K5 hK5 => wp_of_step (stepAt_mono (fun v14 w14 hh => ?_) (step_fieldS hms rfl rfl))
  obtain ⟨rfl, rfl⟩ := hh
  refine hK5 _ _ ?_
  clear hK5 K5
  try simp only [Act.put, List.setIfInBounds_toArray, List.set_cons_succ, List.set_cons_zero]
  obtain ⟨iM, hiM, iM0, iM1, iM2⟩ := info_parts mt_info
  obtain ⟨iE, hiE, iE0, iE1, iE2⟩ := info_parts ep_info26
  obtain ⟨m, hm⟩ : ∃ m, m = s.1 := ⟨_, rfl⟩
  have hms : m.seed.length = 32 := by rw [hm]; exact hok.seed.1
  have hN : MtN m := by rw [hm]; exact hok.n (by omega)
  have hwd := words_cost hok
  have hce := cost_le hok
  have h25 : m.eps.length ≤ 25 := by rw [hm]; exact hok.eps
  rw [← hm] at hE hwd hce ⊢
  obtain ⟨A, cap, rfl⟩ := hE.len
  refine wpList_plain rfl fun K6 hK6 => wp_of_step (stepAt_mono (fun v4 w4 hh => ?_) (step_new0 hiM iM0 rfl))
  obtain ⟨rfl, rfl⟩ := hh
  refine hK6 _ _ ?_
  clear hK6 K6
  try simp only [Act.put, List.setIfInBounds_toArray, List.set_cons_succ, List.set_cons_zero]
  have b4 : Blk (w14.alloc (.cells (Value.agg (mtc ⟨0, List.replicate 32 0, []⟩ (.slice none 0 0)).toArray).cells 35)) w14.heap.size 35 (mtc ⟨0, List.replicate 32 0, []⟩ (.slice none 0 0)).toArray := World.alloc_heap_new w14 _
  have B4 := (Below.refl _ w14).alloc (Nat.le_refl _) (.cells (Value.agg (mtc ⟨0, List.replicate 32 0, []⟩ (.slice none 0 0)).toArray).cells 35)
  generalize w14.alloc (.cells (Value.agg (mtc ⟨0, List.replicate 32 0, []⟩ (.slice none 0 0)).toArray).cells 35) = w4 at *
  refine wpList_put rfl 35 (.tmp 4) (.tmp 14) rfl rfl (cells := mtc m (.slice A m.eps.length cap)) rfl b4 (by rw [List.size_toArray, mtc_len ⟨0, List.replicate 32 0, []⟩ _ rfl, mtc_len m _ hms]; exact Nat.le_refl _) (by rw [mt_size, mtc_len m _ hms]) (mtc_one _ _ rfl) (spl_all _ _ (by rw [List.size_toArray, mtc_len ⟨0, List.replicate 32 0, []⟩ _ rfl, mtc_len m _ hms])) fun X hX bX => ?_
  have BX : Below w14.heap.size w14 X := below_put B4 hX (Nat.le_refl _)
  have hE2 := hE.fwd BX
  have hBX := hB.trans (BX.mono hB.size)
  obtain ⟨g4, hg4⟩ : ∃ g, g = w14.heap.size := ⟨_, rfl⟩
  rw [← hg4] at bX ⊢
  have hEA := hE2.now
  have HEA := Lib.hid hEA
  have HBX := Lib.hid hBX
  have HBL := Lib.hid bX
  have HWD := Lib.hid hwd
  have HCE := Lib.hid hce
  have HNN := Lib.hid hN
  obtain ⟨cs, hcs⟩ : ∃ cs, cs = m.eps.map costM := ⟨_, rfl⟩
  have HCS := Lib.hid hcs
  clear hm hok hs hE hB b1' b4 B4 hX BX hE2 hBX hg4 hEA hwd hce hN bX hcs
  try simp only [Act.put, List.setIfInBounds_toArray, List.set_cons_succ, List.set_cons_zero]
  go_upto_region 5 with (fail)
  go_loopw [5, 6] (fun q i wr => ∃ k T : Nat, k ≤ m.eps.length ∧ i = .int .i64 k ∧ q = .int .i64 T ∧ Hid (T = 5 + (cs.take k).sum) ∧ T ≤ 5 + 79 * k ∧ Below X.heap.size X wr) (fun _ i _ => m.eps.length - (intOf i).toNat)
  case atStart => exact ⟨0, 5, Nat.zero_le _, rfl, rfl, Lib.hid (by simp), by omega, Below.refl _ _⟩
  case round =>
    obtain ⟨k, T, hk, rfl, rfl, HT, hT, hBr⟩ := hrel
    have b4 := HBL.out.keep hBr
    have c33 := mt_cell b4 hms
    have l4 := b4.lt
    have hBw := HBX.out.trans (hBr.mono HBX.out.size)
    by_cases hlt : k < m.eps.length
    rotate_left 1
    · have hw : wordsM m = T := by
        rw [HWD.out, ← HCS.out, HT.out, List.take_of_length_le (by rw [HCS.out, List.length_map]; omega)]
      have hEw := EpsA.keep HEA.out hBr
      have HEW := Lib.hid hEw
      have HWT := Lib.hid hw
      clear hw hEw
      go_upto_region 16 with (fail)
      refine wp_region_lit ?_
      refine wpList_plain rfl fun K8 hK8 => wp_of_step (stepAt_mono (fun v50 w50 hh => ?_) (step_loadR0 (cs := mtc m (.slice A m.eps.length cap)) mt_under rfl (by rw [mt_size, mtc_len _ _ hms]) rfl rfl (blk_range b4)))
      obtain ⟨rfl, rfl⟩ := hh
      refine hK8 _ _ ?_
      clear hK8 K8
      try simp only [Act.put, List.setIfInBounds_toArray, List.set_cons_succ, List.set_cons_zero]
      have hW := gWords m HNN.out (.slice A m.eps.length cap) w50 HEW.out
      rw [HWT.out] at hW
      refine wpList_plain rfl fun K9 hK9 => wp_of_step (stepAt_mono (fun v51 w51 hh => ?_) (step_callv en_attestor_meter_Words hW rfl rfl))
      obtain ⟨rfl, B51⟩ := hh
      refine hK9 _ _ ?_
      clear hK9 K9
      try simp only [Act.put, List.setIfInBounds_toArray, List.set_cons_succ, List.set_cons_zero]
      have hBz := hBw.trans (B51.mono hBw.size)
      clear b4 c33 l4 hBr hBw B51
      iterate 2 (refine wpList_plain rfl fun K hK => ?_; go_big_op; refine hK _ _ ?_; clear hK K)
      try simp only [Act.put, List.setIfInBounds_toArray, List.set_cons_succ, List.set_cons_zero]
      go_wp2_with fail
      go_ret
      exact ⟨rfl, hBz⟩
    go_upto_region 7 with (fail)
    obtain ⟨us, hr, ha⟩ := EpsA.keep HEA.out hBr
    obtain ⟨u, e, hu, he, hin⟩ := ha.get hlt
    obtain ⟨g, off, cap', hv, hcp, hg, hcs⟩ := RdA.at epc_len hr hu
    rw [ha.1] at hv hcp
    cases hv
    have hrg : wr.rangeAt g (off + k * 5) (epc u) := fun j x hj => by rw [Nat.add_assoc]; exact hcs j x hj
    obtain ⟨q1, q2, q3⟩ := HCE.out e (List.mem_of_getElem? he)
    obtain ⟨Ap, cp, hup⟩ := hin.2.1.len
    have hcnt := hin.1.2.1
    have hck : cs[k]? = some (costM e) := by rw [HCS.out, List.getElem?_map, he]; rfl
    have HCK := Lib.hid hck
    have hone := hin.one
    clear hr ha hcs hin hck
    refine wp_region_lit ?_
    iterate 4 (refine wpList_plain rfl fun K hK => ?_; go_big_op; refine hK _ _ ?_; clear hK K)
    refine wpList_plain rfl fun K13 hK13 => wp_of_step (stepAt_mono (fun v26 w26 hh => ?_) (step_loadR0 (cs := epc u) ep_under rfl ep_size rfl rfl hrg))
    obtain ⟨rfl, rfl⟩ := hh
    refine hK13 _ _ ?_
    clear hK13 K13
    try simp only [Act.put, List.setIfInBounds_toArray, List.set_cons_succ, List.set_cons_zero]
    refine wpList_plain rfl fun K14 hK14 => wp_of_step (stepAt_mono (fun v7 w7 hh => ?_) (step_new0 hiE iE0 rfl))
    obtain ⟨rfl, rfl⟩ := hh
    refine hK14 _ _ ?_
    clear hK14 K14
    try simp only [Act.put, List.setIfInBounds_toArray, List.set_cons_succ, List.set_cons_zero]
    have b7 : Blk (w26.alloc (.cells (Value.agg #[Value.int .i64 0, .int .i64 0, .bool false, .slice none 0 0, .slice none 0 0]).cells 75)) w26.heap.size 75 #[Value.int .i64 0, .int .i64 0, .bool false, .slice none 0 0, .slice none 0 0] := World.alloc_heap_new w26 _
    have B7 := (Below.refl _ w26).alloc (Nat.le_refl _) (.cells (Value.agg #[Value.int .i64 0, .int .i64 0, .bool false, .slice none 0 0, .slice none 0 0]).cells 75)
    generalize w26.alloc (.cells (Value.agg #[Value.int .i64 0, .int .i64 0, .bool false, .slice none 0 0, .slice none 0 0]).cells 75) = w7 at *
    refine wpList_put rfl 75 (.tmp 7) (.tmp 26) rfl rfl (cells := epc u) rfl b7 (by rw [epc_len]; exact Nat.le_refl _) ep_size (List.all_eq_true.2 hone) rfl fun Y hY bY => ?_
    have BY : Below w26.heap.size w26 Y := below_put B7 hY (Nat.le_refl _)
    have bY' : Blk Y w26.heap.size 75 (epc u).toArray := bY
    have hBY := hBr.trans (BY.mono hBr.size)
    obtain ⟨g7, hg7⟩ : ∃ g, g = w26.heap.size := ⟨_, rfl⟩
    rw [← hg7] at bY' ⊢
    have cy1 : Y.cell? ⟨g7, 1, none⟩ = some (.int .i64 (u.count : Int)) := (bY'.cell 1).trans rfl
    have cy3 : Y.cell? ⟨g7, 3, none⟩ = some (.slice Ap e.pts.length cp) := by
      rw [← hup]
      exact (bY'.cell 3).trans rfl
    rw [hcnt] at cy1
    have ly := bY'.lt
    have HC33 := Lib.hid c33
    obtain ⟨cn, hcn⟩ : ∃ c, c = e.count := ⟨_, rfl⟩
    obtain ⟨pn, hpn⟩ : ∃ c, c = e.pts.length := ⟨_, rfl⟩
    rw [← hcn] at cy1 q1 q2
    rw [← hpn] at cy3 q3
    have hco : costM e = 3 + 4 * onesN cn + 11 * pn := by rw [hcn, hpn]; rfl
    have HCO := Lib.hid hco
    obtain ⟨on, hon⟩ : ∃ c, c = onesN cn := ⟨_, rfl⟩
    rw [← hon] at q2 hco
    have HON := Lib.hid hon
    have HBY := Lib.hid hBY
    clear b7 B7 hY bY BY hBY hg7 hcn hpn hcnt hup hco hon hone hrg c33 l4 b4 hBw bY' hBr hu he hg
    try simp only [Act.put, List.setIfInBounds_toArray, List.set_cons_succ, List.set_cons_zero]
    go_upto_region 9 with (fail)
    go_loopw [8, 9] (fun b c wq => ∃ bn c9 : Nat, b = .int .i64 bn ∧ c = .int .i64 c9 ∧ bn + onesN c9 = on ∧ c9 ≤ 8 ∧ wq = Y) (fun _ c _ => (intOf c).toNat)
    case atStart => exact ⟨0, cn, rfl, rfl, by rw [HON.out]; omega, q1, rfl⟩
    case round =>
      obtain ⟨bn, c9, rfl, rfl, hb, hc8, rfl⟩ := hrel
      by_cases hc0 : 0 < c9
      · have hst := onesN_step c9 hc0
        have hbn : bn ≤ 8 := by omega
        have HB := Lib.hid hb
        have HST := Lib.hid hst
        clear hb hst
        go_wp2_with fail
        have hs2 := HST.out
        have hb2 := HB.out
        exact ⟨⟨bn + c9 % 2, c9 / 2, congrArg (Value.int .i64) (by omega), congrArg (Value.int .i64) (by omega), by omega, by omega, trivial⟩, by simp [intOf]; omega⟩
      · obtain rfl : c9 = 0 := by omega
        obtain rfl : bn = on := by
          have h0 : onesN 0 = 0 := by unfold onesN; rfl
          omega
        clear hb hc8 hc0
        have hsum : T + (3 + 4 * bn + 11 * pn) = 5 + (cs.take (k + 1)).sum := by
          rw [HT.out, sum_take HCK.out, HCO.out, ← HON.out]
          omega
        have HSM := Lib.hid hsum
        clear hsum
        have h247 : ¬ (247 < 3 + 4 * (bn : Int) + 11 * (pn : Int)) := by omega
        go_wp2_with fail
        exact ⟨⟨k + 1, T + (3 + 4 * bn + 11 * pn), by omega, by go_num, congrArg (Value.int .i64) (by omega), HSM, by omega, HBY.out⟩, by simp [intOf]; omega⟩
end Go.Proofs.YtoiampgfnidfdaaGreatDoor
