/-
  The reference's number, by contract.
-/
import Derived.Test.YtoiampgfnidfdaaGreatDoorRun26
import Derived.Test.YtoiampgfnidfdaaGreatDoorRc26
import Derived.Test.YtoiampgfnidfdaaGreatDoorLen
set_option maxRecDepth 100000
set_option maxHeartbeats 8000000
namespace Go.Proofs.YtoiampgfnidfdaaGreatDoor
open Go.RowKit
section
open Go.RowKit

theorem J41 : En Tryz.prog 32 := enters_of Tryz.func32 (by kernel_rfl) rfl
theorem J6c : En Tryz.prog 49 := enters_of Tryz.func49 (by kernel_rfl) rfl
attribute [local irreducible] wpRg
theorem rMade26 (seed : Dg) (hs : DgOk seed) (l : List Op26) (hl : l.length ≤ 140737488355327) (ho : ∀ o ∈ l, o.ok) (vO : Value) (w : World) (hO : RdA 6 w vO l.length (l.flatMap opc)) : Calls Tryz.prog 49 #[dgv seed, vO, .int .i64 25] w fun e W2 => ∃ vE vL, e = .returned (stV (playM seed l).1 vE vL) ∧ EpsB ⟨W2, fun g => w.heap.size ≤ g⟩ vE (playM seed l).1.eps ∧ StmsB ⟨W2, fun g => w.heap.size ≤ g⟩ vL (playM seed l).2 ∧ Below w.heap.size w W2 := by
 obtain ⟨AO, cO, rfl⟩ := Rd.len hO
 obtain ⟨n, hn⟩ : ∃ n, n = l.length := ⟨_, rfl⟩
 rw [← hn] at hO hl ⊢
 have HN := Lib.hid hn
 have HO := Lib.hid hO
 have HS0 := Lib.hid hs
 have HOO := Lib.hid ho
 have hsl : seed.length = 32 := hs.1
 obtain ⟨Qv, hQv⟩ : ∃ S, S = dgv seed := ⟨_, rfl⟩
 rw [← hQv]
 clear hn hO hs ho
 go_enter Tryz.func49, Tryz.ntmps49
 go_upto_region 1 with (fail)
 refine J1h fun W hB hz b1 b2 => ?_
 have b1' : Blk W w.heap.size 23 (byc seed).toArray := by first | exact b1 | (rw [hQv] at b1; exact b1)
 obtain ⟨z2, hz2, b2'⟩ : ∃ z : Array Value, z.size = 35 ∧ Blk W (w.heap.size + 1) 38 z := ⟨_, rfl, b2⟩
 obtain ⟨g1, hg1⟩ : ∃ g, g = w.heap.size := ⟨_, rfl⟩
 have HZ := Lib.hid hz.out
 rw [← hg1] at b1' b2' HZ ⊢
 have HG1 := Lib.hid hg1
 clear b1 b2 hz hQv hg1
 obtain ⟨iS, hiS, iS0, iS1, iS2⟩ := info_parts Jhg
 refine wp_region_lit ?_
 refine wpSk rfl (J1 (cs := byc seed) Jg rfl (by rw [Jc, J3, hsl]) rfl rfl (J4 b1')) fun v6 w6 hh => ?_
 obtain ⟨rfl, rfl⟩ := hh
 try simp only [PutS]
 refine wpSk rfl (J7 J41 (rNew26 seed HS0.out w6) rfl rfl) fun v7 w7 hh => ?_
 obtain ⟨rfl, B7⟩ := hh
 try simp only [PutS]
 refine wpSk rfl (Jew (m := ⟨0, seed, []⟩) hsl rfl rfl) fun v8 w8 hh => ?_
 obtain ⟨rfl, rfl⟩ := hh
 try simp only [PutS]
 refine wpSk rfl (Jl hiS iS0 rfl) fun v3 w3 hh => ?_
 obtain ⟨rfl, rfl⟩ := hh
 try simp only [PutS]
 have hg1w := HG1.out
 have hzw := HZ.out
 have hW7 := B7.size
 obtain ⟨m0, hm0⟩ : ∃ m0 : Mt, m0 = ⟨0, seed, []⟩ := ⟨_, rfl⟩
 rw [← hm0]
 have hm0s : m0.seed.length = 32 := by rw [hm0]; exact hsl
 have b3 : Blk (w8.alloc (.cells (Value.agg (stC ⟨0, List.replicate 32 0, []⟩ (.slice none 0 0) (.slice none 0 0)).toArray).cells 38)) w8.heap.size 38 (stC ⟨0, List.replicate 32 0, []⟩ (.slice none 0 0) (.slice none 0 0)).toArray := World.alloc_heap_new w8 _
 have B3 := (Below.refl _ w8).alloc (Nat.le_refl _) (.cells (Value.agg (stC ⟨0, List.replicate 32 0, []⟩ (.slice none 0 0) (.slice none 0 0)).toArray).cells 38)
 generalize w8.alloc (.cells (Value.agg (stC ⟨0, List.replicate 32 0, []⟩ (.slice none 0 0) (.slice none 0 0)).toArray).cells 38) = w3 at *
 refine J6 rfl 38 (.tmp 7) (.tmp 11) rfl rfl (cells := stC m0 (.slice none 0 0) (.slice none 0 0)) rfl b3 (by rw [List.size_toArray, Jj ⟨0, List.replicate 32 0, []⟩ _ _ rfl, Jj m0 _ _ hm0s]; exact Nat.le_refl _) (by rw [Jo, Jj m0 _ _ hm0s]) (J28 _ _ _ rfl rfl) (Ja _ _ (by rw [List.size_toArray, Jj ⟨0, List.replicate 32 0, []⟩ _ _ rfl, Jj m0 _ _ hm0s])) fun X hX bX => ?_
 have BX : Below w8.heap.size w8 X := J2 B3 hX (Nat.le_refl _)
 have BWX := B7.trans (BX.mono hW7)
 have b1X := b1'.keep BWX
 have b2X := b2'.keep BWX
 have hBX := hB.trans (BWX.mono hB.size)
 obtain ⟨g3, hg3⟩ : ∃ g, g = w8.heap.size := ⟨_, rfl⟩
 have hg13 : g1 + 2 ≤ g3 := by omega
 have HG3 := Lib.hid hg13
 have H1X := Lib.hid b1X
 have H2X := Lib.hid b2X
 have HBX := Lib.hid hBX
 rw [← hg3] at bX ⊢
 rw [hm0] at bX
 clear b1' b2' hB hg1w hzw hW7 hm0 hm0s b3 B3 hX BX BWX b1X b2X hBX hg3 hg13 B7 HZ
 try simp only [PutS]
 go_upto_region 3 with (fail)
 go_loopw [8] (fun q wr => ∃ (k : Nat) (vE vL : Value), k ≤ n ∧ k ≤ 25 ∧ q = .int .i64 k ∧ Blk wr g3 38 (stC (plK seed l k).1 vE vL).toArray ∧ EpsB ⟨wr, PlS g1 g3⟩ vE (plK seed l k).1.eps ∧ StmsB ⟨wr, PlS g1 g3⟩ vL (plK seed l k).2 ∧ Below g3 X wr) (fun q _ => 25 - (intOf q).toNat)
 case atStart => exact ⟨0, _, _, Nat.zero_le _, by omega, rfl, bX, J7o _, Jko _, Below.refl _ _⟩
 case round =>
  clear bX
  obtain ⟨k, vE, vL, hkn, hk25, rfl, b3, hE, hT, hBr⟩ := hrel
  obtain ⟨s, hs⟩ : ∃ s, s = plK seed l k := ⟨_, rfl⟩
  rw [← hs] at b3 hE hT
  have hok : StOk26 k s := by rw [hs]; exact plK_ok seed HS0.out l k
  have b2 := H2X.out.below hBr (by have := HG3.out; omega)
  have hBw : Below w.heap.size w wr := HBX.out.trans (hBr.mono (by have := HG3.out; have := HG1.out; omega))
  have HSK := Lib.hid hs
  have HOK := Lib.hid hok
  have HE := Lib.hid hE
  have HT := Lib.hid hT
  have HBR := Lib.hid hBr
  have HB2 := Lib.hid b2
  have HBW := Lib.hid hBw
  clear hs hok hE hT hBr b2 hBw
  by_cases hlt : k < n
  rotate_left 1
  ·
   have HFN := Lib.hid (show s = playM seed l by rw [HSK.out]; exact Jc9 seed l k (.inl ⟨by have := HN.out; omega, hk25⟩))
   have hsn : s.1.seed.length = 32 := HOK.out.seed.1
   obtain ⟨A, cap, rfl⟩ := HE.out.len
   obtain ⟨B, cb, rfl⟩ := HT.out.len
   have b2 := HB2.out
   have hBw := HBW.out
   go_upto_region 6 with (fail)
   refine wp_region_lit ?_
   refine wpSk rfl (J1 (cs := stC s.1 (.slice A s.1.eps.length cap) (.slice B s.2.length cb)) Ju rfl (by rw [Jo, Jj _ _ _ hsn]) rfl rfl (J4 b3)) fun v27 w27 hh => ?_
   obtain ⟨rfl, rfl⟩ := hh
   try simp only [PutS]
   refine J6 rfl 38 (.tmp 6) (.tmp 29) rfl rfl (cells := stC s.1 (.slice A s.1.eps.length cap) (.slice B s.2.length cb)) rfl b2 (by rw [hz2, Jj _ _ _ hsn]; exact Nat.le_refl _) (by rw [Jo, Jj _ _ _ hsn]) (J28 _ _ _ rfl rfl) (Ja _ _ (by rw [hz2, Jj _ _ _ hsn])) fun Z hZ bZ => ?_
   have hBZ := J2 hBw hZ (by have := HG1.out; omega)
   try simp only [PutS]
   go_wp2_with fail
   refine bodyPost_ret (v := stV s.1 (.slice A s.1.eps.length cap) (.slice B s.2.length cb)) (Jv (cs := stC s.1 (.slice A s.1.eps.length cap) (.slice B s.2.length cb)) (g := g1 + 1) rfl rfl Ju rfl (by rw [Jo, Jj _ _ _ hsn]) bZ) rfl ?_
   rw [← HFN.out]
   exact ⟨_, _, rfl, (HE.out.pt hZ (fun h => h.2.2 rfl)).sub (fun g hg hl => by rw [← HG1.out]; exact hg.1), Jbg (StmsB.pt HT.out hZ (fun h => h.2.2 rfl)) (fun g hg => by rw [← HG1.out]; exact hg.1), hBZ⟩
  by_cases hlt2 : k < 25
  rotate_left 1
  ·
   have HFN := Lib.hid (show s = playM seed l by rw [HSK.out]; exact Jc9 seed l k (.inr (by omega)))
   have hsn : s.1.seed.length = 32 := HOK.out.seed.1
   obtain ⟨A, cap, rfl⟩ := HE.out.len
   obtain ⟨B, cb, rfl⟩ := HT.out.len
   have b2 := HB2.out
   have hBw := HBW.out
   go_upto_region 6 with (fail)
   refine wp_region_lit ?_
   refine wpSk rfl (J1 (cs := stC s.1 (.slice A s.1.eps.length cap) (.slice B s.2.length cb)) Ju rfl (by rw [Jo, Jj _ _ _ hsn]) rfl rfl (J4 b3)) fun v27 w27 hh => ?_
   obtain ⟨rfl, rfl⟩ := hh
   try simp only [PutS]
   refine J6 rfl 38 (.tmp 6) (.tmp 29) rfl rfl (cells := stC s.1 (.slice A s.1.eps.length cap) (.slice B s.2.length cb)) rfl b2 (by rw [hz2, Jj _ _ _ hsn]; exact Nat.le_refl _) (by rw [Jo, Jj _ _ _ hsn]) (J28 _ _ _ rfl rfl) (Ja _ _ (by rw [hz2, Jj _ _ _ hsn])) fun Z hZ bZ => ?_
   have hBZ := J2 hBw hZ (by have := HG1.out; omega)
   try simp only [PutS]
   go_wp2_with fail
   refine bodyPost_ret (v := stV s.1 (.slice A s.1.eps.length cap) (.slice B s.2.length cb)) (Jv (cs := stC s.1 (.slice A s.1.eps.length cap) (.slice B s.2.length cb)) (g := g1 + 1) rfl rfl Ju rfl (by rw [Jo, Jj _ _ _ hsn]) bZ) rfl ?_
   rw [← HFN.out]
   exact ⟨_, _, rfl, (HE.out.pt hZ (fun h => h.2.2 rfl)).sub (fun g hg hl => by rw [← HG1.out]; exact hg.1), Jbg (StmsB.pt HT.out hZ (fun h => h.2.2 rfl)) (fun g hg => by rw [← HG1.out]; exact hg.1), hBZ⟩
  go_upto_region 5 with (fail)
  have hkl : k < l.length := by rw [← HN.out]; exact hlt
  obtain ⟨o, ho⟩ : ∃ o, l[k]? = some o := ⟨l[k], List.getElem?_eq_getElem hkl⟩
  have hoo := HOO.out o (List.mem_of_getElem? ho)
  have hsn : s.1.seed.length = 32 := HOK.out.seed.1
  have hs2n : (stepM s o).1.seed.length = 32 := (Jcv HOK.out o).seed.1
  have hrd : RdA 6 wr (.slice AO n cO) n (l.flatMap opc) := RdA.keep HO.out HBW.out
  obtain ⟨g, off, cap', hv, hcp, hg, hcs⟩ := RdA.at Jgo (by rw [← HN.out]; exact hrd) ho
  rw [← HN.out] at hv hcp
  cases hv
  have hrg : wr.rangeAt g (off + k * 6) (opc o) := fun j x hj => by rw [Nat.add_assoc]; exact hcs j x hj
  obtain ⟨A, cap, rfl⟩ := HE.out.len
  obtain ⟨B, cb, rfl⟩ := HT.out.len
  have hg3w : g3 < wr.heap.size := b3.lt
  clear hrd hcs hkl
  refine Jd 6 [(0, Spec.val (stV s.1 (.slice A s.1.eps.length cap) (.slice B s.2.length cb))), (4, Spec.val (.agg (opc o).toArray)), (5, Spec.rel (Was (PSt (PlS g1 g3) (stepM s o))) (StF (stepM s o).1 (stepM s o).2.length))] (by kernel_rfl) (by kernel_rfl) (by kernel_rfl) ⟨Jmq, trivial⟩ ?_
  refine rg_val rfl rfl (fun W1 hW1 hF => Jf (cs := stC s.1 (.slice A s.1.eps.length cap) (.slice B s.2.length cb)) Ju rfl (by rw [Jo, Jj _ _ _ hsn]) rfl rfl (J4 (b3.keep (J8 hW1)))) ?_
  intro a' ha
  simp only [PutS] at ha
  subst ha
  iterate 3 (refine rg_det rfl rfl rfl (fun K hK => ?_); go_big_quiet_op; refine hK _ ?_; clear hK K)
  refine rg_val rfl rfl (fun W1 hW1 hF => Jf (cs := opc o) J5h rfl J68 rfl rfl (Jr hrg hg (J8 hW1))) ?_
  intro a' ha
  simp only [PutS] at ha
  subst ha
  refine rg_rel rfl rfl (fun W1 hW1 hF => Jp J6i (((rRun26 k (by omega) s HOK.out o hoo (.slice A s.1.eps.length cap) (.slice B s.2.length cb) ⟨W1, PlS g1 g3⟩ W1 (Bse.ok_self _) (HE.out.fwd (J8 hW1)) (HT.out.fwd (J8 hW1))).mono (Jmr (fun g hg => by have := (J8 hW1).size; have := HG3.out; exact ⟨by omega, by omega, by omega⟩)))) rfl rfl) ?_
  intro n5 m5 v5 hn5 hm5 hd5 hf5 a' ha
  simp only [PutS] at ha
  subst ha
  obtain ⟨A5, cap5, rfl⟩ := hf5
  refine rg_nil (fun w' hw' hF => ?_)
  obtain ⟨z, rfl⟩ := hw'
  simp only [List.drop_succ_cons, List.drop_zero]
  obtain ⟨qE, qL⟩ := pst_of (J30 hF).2
  clear hF
  have b3z := b3.keep z.h
  refine J6 rfl 38 (.tmp 7) (.tmp 28) rfl rfl (cells := stC (stepM s o).1 (.slice A5.1 (stepM s o).1.eps.length A5.2) (.slice cap5.1 (stepM s o).2.length cap5.2)) rfl b3z (by rw [List.size_toArray, Jj _ _ _ hsn, Jj _ _ _ hs2n]; exact Nat.le_refl _) (by rw [Jo, Jj _ _ _ hs2n]) (J28 _ _ _ rfl rfl) (Ja _ _ (by rw [List.size_toArray, Jj _ _ _ hsn, Jj _ _ _ hs2n])) fun Y hY bY => ?_
  have hBY : Below g3 X Y := J2 (HBR.out.trans (z.h.mono (by omega))) hY (Nat.le_refl _)
  have HE2 := Lib.hid (qE.pt hY (fun h => h.2.1 rfl))
  have HT2 := Lib.hid (qL.pt hY (fun h => h.2.1 rfl))
  have hps : stepM s o = plK seed l (k + 1) := by rw [Jkn seed l k o ho, ← HSK.out]
  have HPS := Lib.hid hps
  clear hps qE qL b3z b3 hY
  try simp only [PutS]
  go_wp2_with fail
  exact ⟨⟨k + 1, _, _, by omega, by omega, by go_num, by rw [← HPS.out]; exact bY, by rw [← HPS.out]; exact HE2.out, by rw [← HPS.out]; exact HT2.out, hBY⟩, by simp [intOf]; omega⟩
theorem J6d : En Tryz.prog 9 := enters_of Tryz.func9 (by kernel_rfl) rfl
theorem lMade26 (seed : Dg) (hs : DgOk seed) (l : List Op26) (hl : l.length ≤ 140737488355327) (ho : ∀ o ∈ l, o.ok) (vO : Value) (w : World) (hO : RdA 6 w vO l.length (l.flatMap opc)) : Calls Tryz.prog 9 #[qv26 seed vO] w fun e W2 => ∃ vE vL, e = .returned (stV (playM seed l).1 vE vL) ∧ EpsB ⟨W2, fun g => w.heap.size ≤ g⟩ vE (playM seed l).1.eps ∧ StmsB ⟨W2, fun g => w.heap.size ≤ g⟩ vL (playM seed l).2 ∧ Below w.heap.size w W2 := by
 obtain ⟨AO, cO, rfl⟩ := Rd.len hO
 obtain ⟨n, hn⟩ : ∃ n, n = l.length := ⟨_, rfl⟩
 rw [← hn] at hO
 have HN := Lib.hid hn
 have HO := Lib.hid hO
 have HS0 := Lib.hid hs
 have HOO := Lib.hid ho
 have HL := Lib.hid hl
 have hsl : seed.length = 32 := hs.1
 obtain ⟨Qv, hQv⟩ : ∃ S, S = qv26 seed (.slice AO n cO) := ⟨_, rfl⟩
 rw [← hn, ← hQv]
 clear hn hO hs ho hl
 go_enter Tryz.func9, Tryz.ntmps9
 go_upto_region 1 with (fail)
 refine J1h fun W hB hz b1 b2 => ?_
 have b1' : Blk W w.heap.size 26 (qc26 seed (.slice AO n cO)).toArray := by first | exact b1 | (rw [hQv] at b1; exact b1)
 obtain ⟨z2, hz2, b2'⟩ : ∃ z : Array Value, z.size = 35 ∧ Blk W (w.heap.size + 1) 38 z := ⟨_, rfl, b2⟩
 have hzw := hz.out
 have c32 := q26_l b1' hsl
 have l1 := b1'.lt
 clear b1 b2 hz hQv
 refine wp_region_lit ?_
 refine wpList_plain rfl fun K hK => ?_; go_big_op; refine hK _ _ ?_; clear hK K
 refine wpSk rfl (J1 (cs := byc seed) Jg rfl (by rw [Jc, J3, hsl]) rfl rfl (Jbi b1')) fun v4 w4 hh => ?_
 obtain ⟨rfl, rfl⟩ := hh
 try simp only [PutS]
 iterate 2 (refine wpList_plain rfl fun K hK => ?_; go_big_op; refine hK _ _ ?_; clear hK K)
 refine wpSk rfl (Jm (R := fun v W2 => ∃ vE vL, v = stV (playM seed l).1 vE vL ∧ EpsB ⟨W2, fun g => w4.heap.size ≤ g⟩ vE (playM seed l).1.eps ∧ StmsB ⟨W2, fun g => w4.heap.size ≤ g⟩ vL (playM seed l).2 ∧ Below w4.heap.size w4 W2) J6c ((rMade26 seed HS0.out l HL.out HOO.out (.slice AO n cO) w4 (by rw [← HN.out]; exact RdA.keep HO.out hB)).mono fun r W2 ⟨vE, vL, h1, h2⟩ => ⟨_, h1, vE, vL, rfl, h2⟩) rfl rfl) fun v7 w7 hh => ?_
 obtain ⟨vE, vL, rfl, hE, hT, B7⟩ := hh
 try simp only [PutS]
 have hsn : (playM seed l).1.seed.length = 32 := by
  have := (plK_ok seed HS0.out l 25).seed.1
  rwa [Jc9 seed l 25 (.inr rfl)] at this
 obtain ⟨A, cap, rfl⟩ := hE.len
 obtain ⟨B, cb, rfl⟩ := hT.len
 have b2z := b2'.keep B7
 refine J6 rfl 38 (.tmp 2) (.tmp 7) rfl rfl (cells := stC (playM seed l).1 (.slice A (playM seed l).1.eps.length cap) (.slice B (playM seed l).2.length cb)) rfl b2z (by rw [hz2, Jj _ _ _ hsn]; exact Nat.le_refl _) (by rw [Jo, Jj _ _ _ hsn]) (J28 _ _ _ rfl rfl) (Ja _ _ (by rw [hz2, Jj _ _ _ hsn])) fun Z hZ bZ => ?_
 have hBZ := J2 (hB.trans (B7.mono hB.size)) hZ (by omega)
 try simp only [PutS]
 go_wp2_with fail
 refine bodyPost_ret (v := stV (playM seed l).1 (.slice A (playM seed l).1.eps.length cap) (.slice B (playM seed l).2.length cb)) (Jv (cs := stC (playM seed l).1 (.slice A (playM seed l).1.eps.length cap) (.slice B (playM seed l).2.length cb)) (g := w.heap.size + 1) rfl rfl Ju rfl (by rw [Jo, Jj _ _ _ hsn]) bZ) rfl ?_
 exact ⟨_, _, rfl, (hE.pt hZ (by omega)).sub (fun g hg hl => by omega), Jbg (StmsB.pt hT hZ (by omega)) (fun g hg => by omega), hBZ⟩
end
section
open Go.RowKit

theorem J1s : En Tryz.prog 74 := enters_of Tryz.func74 (by kernel_rfl) rfl
theorem Jn4 (x j : Nat) : leB x (j + 1) = leB x j ++ [x / 2 ^ (8 * j) % 256] := by simp [leB, List.range_succ]
attribute [local irreducible] wpRg keyD sha leafD pairD
theorem rNum26 (l : List Nat) (x n : Nat) (hx : x < 18446744073709551616) (hn : n ≤ 8) (hl : l.length ≤ 1000000) (u : Value) (base : Nat) (w : World) (h : OwB base w u l) (hb : base ≤ w.heap.size) :
  Calls Tryz.prog 74 #[u, .int .u64 (x : Int), .int .i64 (n : Int)] w fun e w' => ∃ v', e = .returned v' ∧ OwB base w' v' (l ++ leB x n) ∧ KX w w' u v' ∧ Below base w w' := by
 have HH := Lib.hid h
 obtain ⟨A, cap, rfl⟩ := h.len
 obtain ⟨U, hU⟩ : ∃ U, U = Value.slice A l.length cap := ⟨_, rfl⟩
 rw [← hU] at HH ⊢
 obtain ⟨iu8, hu8, uz0, uz1, uz2⟩ := info_parts J22
 clear h hU
 go_enter Tryz.func74, Tryz.ntmps74
 go_upto_region 2 with (fail)
 go_loopw [0, 7] (fun q i wr => ∃ j : Nat, j ≤ n ∧ i = .int .i64 j ∧ OwB base wr q (l ++ leB x j) ∧ KX w wr U q ∧ Below base w wr) (fun _ i _ => n - (intOf i).toNat)
 case atStart => exact ⟨0, Nat.zero_le _, rfl, by rw [show leB x 0 = [] from rfl, List.append_nil]; exact HH.out, fun g t cs hb hu => ⟨hb, hu⟩, Below.refl _ _⟩
 case round =>
  obtain ⟨j, hj, rfl, ho, hk, hB⟩ := hrel
  obtain ⟨Aq, cq, rfl⟩ := ho.len
  have hlen : (l ++ leB x j).length ≤ 1000010 := by rw [List.length_append, J2k]; omega
  obtain ⟨L, hL⟩ : ∃ L, L = l ++ leB x j := ⟨_, rfl⟩
  rw [← hL] at ho hk hlen ⊢
  have HL := Lib.hid hL
  obtain ⟨ln, hln⟩ : ∃ n, n = L.length := ⟨_, rfl⟩
  rw [← hln] at ho hk hlen ⊢
  have HLN := Lib.hid hln
  have HO := Lib.hid ho
  have HK := Lib.hid hk
  have HB := Lib.hid hB
  have hbs := hB.size
  clear hL hln
  by_cases hlt : j < n
  rotate_left 1
  ·
   obtain rfl : n = j := by omega
   clear ho hk hB
   go_wp2_with fail
   go_ret
   exact ⟨_, rfl, by rw [← HL.out]; exact HO.out, HK.out, HB.out⟩
  clear ho hk hB
  go_upto_region 4 with (fail)
  refine wp_region_lit ?_
  iterate 6 (refine wpList_plain rfl fun K hK => ?_; go_big_op; refine hK _ _ ?_; clear hK K)
  obtain ⟨y, hy⟩ : ∃ y : Nat, y = x / 2 ^ (8 * j) % 256 := ⟨_, rfl⟩
  have hyi : (x : Int) / 2 ^ (8 * j) % 256 = (y : Int) := by rw [hy]; simp
  rw [hyi]
  have HY := Lib.hid hy
  have hown : OwB base wr (.slice Aq ln cq) L := HO.out
  clear hy hyi
  refine wpSk rfl (J15 (cs := (byc [y]).toArray) J10 hu8 uz0 uz1 (by decide) (by decide) rfl rfl rfl) fun v19 w19 hh => ?_
  obtain ⟨⟨rfl, hl19, b19⟩, B19⟩ := hh
  try simp only [PutS]
  refine wpSk rfl (J20 (base := base) (l := L) (m := [y]) (ad := ⟨wr.heap.size, 0, none⟩) (mc := 1) rfl rfl rfl (hown.keep B19) (J3m b19) (by rw [← HLN.out]; omega) (by simp) (Nat.le_trans (by omega) B19.size)) fun v20 w20 hh => ?_
  obtain ⟨o20, k20, B20⟩ := hh
  try simp only [PutS]
  have hnx : L ++ [y] = l ++ leB x (j + 1) := by rw [Jn4, HL.out, HY.out, List.append_assoc]
  rw [hnx] at o20
  have hKz := (HK.out.trans (KX.of_below B19)).trans k20
  have hBz := (HB.out.trans (B19.mono (Nat.le_trans hb hbs))).trans B20
  have HO20 := Lib.hid o20
  have HKZ := Lib.hid hKz
  have HBZ := Lib.hid hBz
  clear o20 k20 B20 b19 hl19 B19 hnx hKz hBz hown
  try simp only [PutS]
  go_wp2_with fail
  exact ⟨⟨j + 1, by omega, by go_num, HO20.out, HKZ.out, HBZ.out⟩, by simp [intOf]; omega⟩
end
end Go.Proofs.YtoiampgfnidfdaaGreatDoor
