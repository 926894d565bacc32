/-
  Transcripts of the reference: absorbing.
-/
import Derived.Test.YtoiampgfnidfdaaGreatDoorSs
import Derived.Lib.ConvBytes
import Derived.Lib.AppendStr
set_option maxRecDepth 100000
set_option maxHeartbeats 8000000
namespace Go.Proofs.YtoiampgfnidfdaaGreatDoor
open Go.RowKit
section
open Go.RowKit

theorem J4a {P : Program} {o : Oper} {a : Act} {w : World} {x : Operand} {u : Value} (h : o.op = .move x) (hx : a.eval x = u) : stepAt P o a w fun v w' => v = u ∧ w' = w := by
 unfold stepAt execOp
 rw [h]
 exact ⟨hx, rfl⟩
theorem Jj4 (h e f g kk ww : B32) : ((bv h + bits .xor .u32 (bits .xor .u32 (bv (rotr e 6)) (bv (rotr e 11))) (bv (rotr e 25)) + bits .xor .u32 (bits .and .u32 (bv e) (bv f)) (bits .and .u32 ((4294967295 - bv e) % 4294967296) (bv g)) + bv kk) % 4294967296 + bv ww) % 4294967296 = bv (h + bs1 e + chE e f g + kk + ww) := by
 rw [Jlk, bv_and, bv_and, bv_xor, bv_xor, bv_xor, Jc0, J7n]
 rfl
theorem Jlo (T a b c : B32) : (bv T + (bits .xor .u32 (bits .xor .u32 (bv (rotr a 2)) (bv (rotr a 13))) (bv (rotr a 22)) + bits .or .u32 (bits .or .u32 (bits .and .u32 (bv a) (bv b)) (bits .and .u32 (bv a) (bv c))) (bits .and .u32 (bv b) (bv c))) % 4294967296) % 4294967296 = bv (T + (bs0 a + maj a b c)) := by
 rw [bv_and, bv_and, bv_and, bv_or, bv_or, bv_xor, bv_xor, J7n, J7n]
 rfl
theorem J56 : En Tryz.prog 141 := enters_of Tryz.func141 (by kernel_rfl) rfl
theorem Ja5 {w : World} {g : Nat} {t : TypeId} {l : List B32} (b : Blk w g t (u32c l).toArray) (k : Nat) (h : k < l.length) : w.cell? ⟨g, k, none⟩ = some (.int .u32 (bv (l.getD k 0))) := by
 rw [b.cell, List.getElem?_toArray]
 unfold u32c
 rw [List.getElem?_map, List.getElem?_eq_getElem h, List.getD_eq_getElem?_getD, List.getElem?_eq_getElem h]
 rfl
attribute [local irreducible] wpRg
theorem rComp (s : S8) (b : List Nat) (hb : b.length = 64) (hb8 : ∀ x ∈ b, x < 256) (v : Value) (lo hi : Nat) (w : World) (h : ByS lo hi w v b) : Calls Tryz.prog 141 #[s8v s, v] w (Ret (s8v (comp s b)) w) := by
 have HV := Lib.hid h
 have HB := Lib.hid hb
 have H8 := Lib.hid hb8
 clear h hb hb8
 obtain ⟨S, hS⟩ : ∃ S, S = s8v s := ⟨_, rfl⟩
 rw [← hS]
 go_enter Tryz.func141, Tryz.ntmps141
 obtain ⟨i64', hi64, iz0, iz1, iz2⟩ := info_parts Jba
 go_upto_region 1 with (fail)
 refine J1h fun W hB hz b1 b2 => ?_
 have b1' : Blk W w.heap.size 172 s.cells.toArray := by first | exact b1 | (rw [hS] at b1; exact b1)
 obtain ⟨cs0, hcs0, b2'⟩ : ∃ cs : Array Value, cs.size = 8 ∧ Blk W (w.heap.size + 1) 172 cs := ⟨_, rfl, b2⟩
 have hWs : W.heap.size = w.heap.size + 1 + 1 := hz.out
 clear b1 b2 hz
 refine Jln (u1 := v) 188 i64' (zl 64) (u32c (sched b)) (u32c kTabB) _ _ _ _ rfl rfl rfl rfl rfl rfl rfl (J4a rfl rfl) (J7 J55 (rSched b HB.out H8.out v lo hi W (HV.out.keep hB)) rfl rfl) (fun W1 hW1 => J7 J4x (rConst W1) rfl rfl) rfl rfl rfl rfl hi64 iz0 (by rw [iz1, zl_len]) (by rw [J2h, J1i, zl_len]) (by rw [J2h, J46, zl_len]) (J6q _) (J6q _) (fun _ _ => rfl) (fun _ _ => rfl) (fun _ _ => rfl) (fun _ _ => rfl) fun X n hX hn b5 b6 => ?_
 have b1X := b1'.keep hX
 have b2X := b2'.keep hX
 have hBX := hB.trans (hX.mono hB.size)
 have hn1 : w.heap.size + 1 < n := by omega
 obtain ⟨n6, hn6⟩ : ∃ m, m = n + 1 := ⟨_, rfl⟩
 rw [← hn6] at b6 ⊢
 have hn7 : w.heap.size + 1 < n6 := by omega
 clear b1' b2' hWs hX hn hB hn6
 generalize Value.agg (u32c (sched b)).toArray = V1
 generalize Value.agg (u32c kTabB).toArray = V2
 have l1 := b1X.lt
 have c0 := Je l1 (show X.cell? ⟨w.heap.size, 0, none⟩ = some (.int .u32 (bv s.a)) from (b1X.cell 0).trans rfl)
 have c1 := Je l1 (show X.cell? ⟨w.heap.size, 1, none⟩ = some (.int .u32 (bv s.b)) from (b1X.cell 1).trans rfl)
 have c2 := Je l1 (show X.cell? ⟨w.heap.size, 2, none⟩ = some (.int .u32 (bv s.c)) from (b1X.cell 2).trans rfl)
 have c3 := Je l1 (show X.cell? ⟨w.heap.size, 3, none⟩ = some (.int .u32 (bv s.d)) from (b1X.cell 3).trans rfl)
 go_upto_region 2 with (fail)
 simp only [PutS]
 refine Jd 11 [] (by kernel_rfl) (by kernel_rfl) (by kernel_rfl) trivial ?_
 iterate 11 (refine rg_det rfl rfl rfl (fun K hK => ?_); go_big_quiet_op; refine hK _ ?_; clear hK K)
 refine rg_nil (fun w' hw' hF => ?_)
 obtain ⟨z, rfl⟩ := hw'
 simp only [List.drop_succ_cons, List.drop_zero]
 clear hF c0 c1 c2 c3
 have b1z := b1X.gw z
 have b2z := b2X.gw z
 have b5z := b5.gw z
 have b6z := b6.gw z
 have hBz := hBX.trans (z.h.mono hBX.size)
 have l1 := b1z.lt
 have c0 := Je l1 (show z.w.cell? ⟨w.heap.size, 4, none⟩ = some (.int .u32 (bv s.e)) from (b1z.cell 4).trans rfl)
 have c1 := Je l1 (show z.w.cell? ⟨w.heap.size, 5, none⟩ = some (.int .u32 (bv s.f)) from (b1z.cell 5).trans rfl)
 have c2 := Je l1 (show z.w.cell? ⟨w.heap.size, 6, none⟩ = some (.int .u32 (bv s.g)) from (b1z.cell 6).trans rfl)
 have c3 := Je l1 (show z.w.cell? ⟨w.heap.size, 7, none⟩ = some (.int .u32 (bv s.h)) from (b1z.cell 7).trans rfl)
 clear b1X b2X b5 b6 hBX
 go_wp2_with fail
 refine Jd 11 [] (by kernel_rfl) (by kernel_rfl) (by kernel_rfl) trivial ?_
 iterate 11 (refine rg_det rfl rfl rfl (fun K hK => ?_); go_big_quiet_op; refine hK _ ?_; clear hK K)
 refine rg_nil (fun w' hw' hF => ?_)
 obtain ⟨y, rfl⟩ := hw'
 simp only [List.drop_succ_cons, List.drop_zero]
 clear hF c0 c1 c2 c3
 have b1y := b1z.gw y
 have b2y := b2z.gw y
 have b5y := b5z.gw y
 have b6y := b6z.gw y
 have hBy := hBz.trans (y.h.mono hBz.size)
 clear b1z b2z b5z b6z hBz
 go_wp2_with fail
 go_loopw [7, 8, 9, 10, 11, 12, 13, 14, 15] (fun va vb vc vd ve vf vg vh i wr => ∃ k : Nat, k ≤ 64 ∧ i = .int .i64 k ∧ va = .int .u32 (bv (rndK b s k).a) ∧ vb = .int .u32 (bv (rndK b s k).b) ∧ vc = .int .u32 (bv (rndK b s k).c) ∧ vd = .int .u32 (bv (rndK b s k).d) ∧ ve = .int .u32 (bv (rndK b s k).e) ∧ vf = .int .u32 (bv (rndK b s k).f) ∧ vg = .int .u32 (bv (rndK b s k).g) ∧ vh = .int .u32 (bv (rndK b s k).h) ∧ Blk wr w.heap.size 172 s.cells.toArray ∧ Blk wr (w.heap.size + 1) 172 cs0 ∧ Blk wr n 188 (u32c (sched b)).toArray ∧ Blk wr n6 188 (u32c kTabB).toArray ∧ Below w.heap.size w wr) (fun _ _ _ _ _ _ _ _ i _ => 64 - (intOf i).toNat)
 case atStart => exact ⟨0, Nat.zero_le _, rfl, rfl, rfl, rfl, rfl, rfl, rfl, rfl, rfl, b1y, b2y, b5y, b6y, hBy⟩
 case round =>
  obtain ⟨k, hk, rfl, rfl, rfl, rfl, rfl, rfl, rfl, rfl, rfl, b1, b2, b5, b6, hBr⟩ := hrel
  generalize hR : rndK b s k = r at *
  by_cases hlt : k < 64
  ·
   have f5 := Je b5.lt (Ja5 b5 k (by rw [J1i]; exact hlt))
   have f6 := Je b6.lt (Ja5 b6 k (by rw [J46]; exact hlt))
   have hN : rndK b s (k + 1) = rnd (kTabB.getD k 0) ((sched b).getD k 0) r := by rw [rndK, hR]
   have HN := Lib.hid hN
   clear hN hR
   generalize kTabB.getD k 0 = kk at *
   generalize (sched b).getD k 0 = ww at *
   go_wp2_with fail
   refine Jd 27 [(2, Spec.val (.int .u32 (bv (rotr r.e 6)))), (4, Spec.val (.int .u32 (bv (rotr r.e 11)))), (7, Spec.val (.int .u32 (bv (rotr r.e 25))))] (by kernel_rfl) (by kernel_rfl) (by kernel_rfl) trivial ?_
   iterate 2 (refine rg_det rfl rfl rfl (fun K hK => ?_); go_big_quiet_op; refine hK _ ?_; clear hK K)
   refine rg_val rfl rfl (fun W1 hW1 hF => J7 J14 (rRot r.e 6 (by decide) (by decide) W1) rfl rfl) ?_
   intro a' ha
   simp only [PutS] at ha
   subst ha
   refine rg_det rfl rfl rfl (fun K hK => ?_)
   go_big_quiet_op
   refine hK _ ?_; clear hK K
   refine rg_val rfl rfl (fun W1 hW1 hF => J7 J14 (rRot r.e 11 (by decide) (by decide) W1) rfl rfl) ?_
   intro a' ha
   simp only [PutS] at ha
   subst ha
   iterate 2 (refine rg_det rfl rfl rfl (fun K hK => ?_); go_big_quiet_op; refine hK _ ?_; clear hK K)
   refine rg_val rfl rfl (fun W1 hW1 hF => J7 J14 (rRot r.e 25 (by decide) (by decide) W1) rfl rfl) ?_
   intro a' ha
   simp only [PutS] at ha
   subst ha
   iterate 19 (refine rg_det rfl rfl rfl (fun K hK => ?_); go_big_quiet_op; refine hK _ ?_; clear hK K)
   refine rg_nil (fun w' hw' hF => ?_)
   obtain ⟨z1, rfl⟩ := hw'
   simp only [List.drop_succ_cons, List.drop_zero]
   clear hF f5 f6
   have b1z := b1.gw z1
   have b2z := b2.gw z1
   have b5z := b5.gw z1
   have b6z := b6.gw z1
   have hBz := hBr.trans (z1.h.mono hBr.size)
   clear b1 b2 b5 b6 hBr
   rw [Jj4]
   generalize hT : r.h + bs1 r.e + chE r.e r.f r.g + kk + ww = T
   have HT := Lib.hid hT
   clear hT
   go_wp2_with fail
   refine (rRot r.a 2 (by decide) (by decide) z1.w).mono ?_
   rintro e w1 ⟨rfl, hb1⟩
   simp only []
   go_wp2_with fail
   refine (rRot r.a 13 (by decide) (by decide) w1).mono ?_
   rintro e w2 ⟨rfl, hb2⟩
   simp only []
   go_wp2_with fail
   refine (rRot r.a 22 (by decide) (by decide) w2).mono ?_
   rintro e w3 ⟨rfl, hb3⟩
   simp only []
   have B2 := hb1.trans (hb2.mono hb1.size)
   have B3 := B2.trans (hb3.mono B2.size)
   have c1 := b1z.keep B3
   have c2 := b2z.keep B3
   have c5 := b5z.keep B3
   have c6 := b6z.keep B3
   have hBy := hBz.trans (B3.mono hBz.size)
   clear hb1 hb2 hb3 B2 B3 b1z b2z b5z b6z hBz
   go_wp2_with fail
   have hTo : tOne kk ww r = T := HT.out
   refine ⟨⟨k + 1, by omega, by go_num, ?_, ?_, ?_, ?_, ?_, ?_, ?_, ?_, c1, c2, c5, c6, hBy⟩, by simp [intOf]; omega⟩
   all_goals rw [HN.out]
   ·
    rw [Jlo, ← hTo]
    rfl
   · rfl
   · rfl
   · rfl
   ·
    rw [J7n, ← hTo]
    rfl
   · rfl
   · rfl
   · rfl
  ·
   obtain rfl : k = 64 := by omega
   have l1 := b1.lt
   have d0 := (show wr.cell? ⟨w.heap.size, 0, none⟩ = some (.int .u32 (bv s.a)) from (b1.cell 0).trans rfl)
   have d1 := (show wr.cell? ⟨w.heap.size, 1, none⟩ = some (.int .u32 (bv s.b)) from (b1.cell 1).trans rfl)
   have d2 := (show wr.cell? ⟨w.heap.size, 2, none⟩ = some (.int .u32 (bv s.c)) from (b1.cell 2).trans rfl)
   have d3 := (show wr.cell? ⟨w.heap.size, 3, none⟩ = some (.int .u32 (bv s.d)) from (b1.cell 3).trans rfl)
   have d4 := (show wr.cell? ⟨w.heap.size, 4, none⟩ = some (.int .u32 (bv s.e)) from (b1.cell 4).trans rfl)
   have d5 := (show wr.cell? ⟨w.heap.size, 5, none⟩ = some (.int .u32 (bv s.f)) from (b1.cell 5).trans rfl)
   have d6 := (show wr.cell? ⟨w.heap.size, 6, none⟩ = some (.int .u32 (bv s.g)) from (b1.cell 6).trans rfl)
   have d7 := (show wr.cell? ⟨w.heap.size, 7, none⟩ = some (.int .u32 (bv s.h)) from (b1.cell 7).trans rfl)
   clear b5 b6
   go_upto_region 17 with (fail)
   refine wp_region_lit ?_
   iterate 33 (refine wpList_plain rfl fun K hK => ?_; go_big_op; refine hK _ _ ?_; clear hK K)
   simp only [J7n]
   refine J6 rfl 172 (.tmp 4) (.tmp 132) rfl rfl (cells := (comp s b).cells) (by unfold comp; rw [hR]; rfl) b2 (by rw [hcs0]; exact Nat.le_refl _) J4y (s8_one _) (Ja _ _ hcs0) fun X hX bX => ?_
   have hBX := J2 hBr hX (Nat.le_succ _)
   refine Eq.mp rfl (?_ : Exit.then _ _ .normal _ X)
   go_wp2_with fail
   exact bodyPost_ret (v := s8v (comp s b)) (Jv (g := w.heap.size + 1) rfl rfl J7x rfl J4y bX) rfl ⟨rfl, hBX⟩
end
section
open Go.RowKit

def zb (n : Nat) : List Value := List.replicate n (.int .u8 0)
theorem J8k (n : Nat) : arrB n [] = zb n := by
 unfold arrB byc zb
 rw [List.length_nil, List.nil_append, Nat.sub_zero, List.map_replicate]
 rfl
theorem zb_len (n : Nat) : (zb n).length = n := by simp [zb]
theorem zb_one (n : Nat) : (zb n).all (·.oneCell') = true := by simp [zb]; exact .inr rfl
theorem J2b : (Tryz.prog.info? 23).map (fun i => (i.zero, i.size, i.bytes)) = some (some (.agg (zb 32).toArray), 32, 32) := by kernel_rfl
theorem Jhq : Tryz.prog.built 23 [] = some (zb 32).toArray := by kernel_rfl
theorem Jc : (Tryz.prog.info? 23).map (·.size) = some 32 := by kernel_rfl
theorem Jg : Tryz.prog.underlying 23 = some (.array 32 5) := by kernel_rfl
theorem Jw (l : List Nat) : (byc l).all (·.oneCell') = true := List.all_eq_true.2 (J4e l)
theorem Jcp (s : S8) (k : Nat) (h : k < 32) : (digL s).take (k + 1) = (digL s).take k ++ [digK s k] := by
 rw [List.take_add_one]
 congr 1
 unfold digL
 rw [List.getElem?_map, List.getElem?_range h]
 rfl
theorem Jfu (x : B32) (n : Nat) : bv x / 2 ^ n % 256 = ((x.toNat / 2 ^ n % 256 : Nat) : Int) := by
 unfold bv
 simp
theorem J5k : En Tryz.prog 142 := enters_of Tryz.func142 (by kernel_rfl) rfl
attribute [local irreducible] wpRg
theorem rDig (s : S8) (w : World) : Calls Tryz.prog 142 #[s8v s] w (Ret (dgv (digL s)) w) := by
 obtain ⟨S, hS⟩ : ∃ S, S = s8v s := ⟨_, rfl⟩
 rw [← hS]
 go_enter Tryz.func142, Tryz.ntmps142
 obtain ⟨i32', hi32, iz0, iz1, iz2⟩ := info_parts J2b
 go_upto_region 1 with (fail)
 refine J1h fun W hB hz b1 b2 => ?_
 have b1' : Blk W w.heap.size 172 s.cells.toArray := by first | exact b1 | (rw [hS] at b1; exact b1)
 obtain ⟨cs0, hcs0, b2'⟩ : ∃ cs : Array Value, cs.size = 32 ∧ Blk W (w.heap.size + 1) 23 cs := ⟨_, rfl, b2⟩
 have hWs : W.heap.size = w.heap.size + 1 + 1 := hz.out
 clear b1 b2 hz
 refine Jfs 23 i32' (zb 32) _ _ rfl rfl rfl rfl rfl rfl hi32 iz0 (by rw [iz1, zb_len]) (zb_one 32) Jhq (fun _ _ => rfl) (fun _ _ => rfl) fun X v7 hX hXs b3 => ?_
 have hB3 := hB.trans (hX.mono hB.size)
 have b3' : Blk X W.heap.size 23 (arrB 32 ((digL s).take 0)).toArray := by rw [List.take_zero, J8k]; exact b3
 have b1X := b1'.keep hX
 have b2X := b2'.keep hX
 obtain ⟨g3, hg3⟩ : ∃ g, g = W.heap.size := ⟨_, rfl⟩
 rw [← hg3] at b3' ⊢
 have hg3a : w.heap.size + 1 < g3 := by omega
 clear b3 b2' b1' hg3 hWs hXs hB hX
 go_wp2_with fail
 go_loopw [4] (fun i wr => ∃ k : Nat, k ≤ 32 ∧ i = .int .i64 k ∧ Blk wr g3 23 (arrB 32 ((digL s).take k)).toArray ∧ Blk wr w.heap.size 172 s.cells.toArray ∧ Blk wr (w.heap.size + 1) 23 cs0 ∧ Below w.heap.size w wr) (fun i _ => 32 - (intOf i).toNat)
 case atStart => exact ⟨0, Nat.zero_le _, rfl, b3', b1X, b2X, hB3⟩
 case round =>
  obtain ⟨k, hk, rfl, b3, b1, b2, hBr⟩ := hrel
  by_cases hlt : k < 32
  ·
   have l1 := b1.lt
   obtain ⟨x, hx⟩ : ∃ x : B32, x = [s.a, s.b, s.c, s.d, s.e, s.f, s.g, s.h].getD (k / 4) 0 := ⟨_, rfl⟩
   have c1 : wr.cell? ⟨w.heap.size, k / 4, none⟩ = some (.int .u32 (bv x)) := by
    have h8 : k / 4 < 8 := by omega
    rw [b1.cell, hx]
    generalize k / 4 = j at h8
    rcases j with _ | _ | _ | _ | _ | _ | _ | _ | j
    all_goals first | rfl | omega
   have e1 := b3.frozen
   have hl : ((digL s).take k).length = k := by rw [List.length_take, J1q]; omega
   have e2 : wr.cell? ⟨g3, k, none⟩ = some (.int .u8 0) := (b3.cell k).trans (by have := J8i 32 ((digL s).take k) (by omega); rw [hl] at this; simpa using this)
   have HX := Lib.hid hx
   clear hx
   go_upto_region 4 with (fail)
   rw [Jfu]
   refine set1 (M := fun W => Code.wp _ _ _ _ W) b3 fun X hX bX => ?_
   have b3X : Blk X g3 23 (arrB 32 ((digL s).take (k + 1))).toArray := by
    have hd : digK s k = x.toNat / 2 ^ (24 - 8 * (k % 4)) % 256 := by rw [HX.out]; rfl
    rw [Jcp s k hlt, ← J9b 32 ((digL s).take k) (digK s k) (by omega), hl, hd, ← List.setIfInBounds_toArray]
    exact bX
   have b1X := hX.blk b1 (by omega)
   have b2X := hX.blk b2 (by omega)
   have hBX := J2 hBr hX (by omega)
   clear e1 e2 bX
   go_wp2_with fail
   exact ⟨⟨k + 1, by omega, by go_num, b3X, b1X, b2X, hBX⟩, by simp [intOf]; omega⟩
  ·
   obtain rfl : k = 32 := by omega
   rw [show (digL s).take 32 = digL s from List.take_of_length_le (by rw [J1q]; exact Nat.le_refl _), J8j 32 _ (J1q s)] at b3
   go_upto_region 6 with (fail)
   refine J9e 23 (byc (digL s)) _ _ _ _ rfl rfl rfl rfl Jg rfl (by rw [Jc, J3, J1q]) (Jw _) rfl (fun _ => rfl) (fun _ => rfl) b3 b2 (by rw [hcs0, J3, J1q]) fun X v hX bX => ?_
   have hBX : Below w.heap.size w X := J2 hBr hX (by omega)
   go_wp2_with fail
   exact bodyPost_ret (v := dgv (digL s)) (Jv (g := w.heap.size + 1) rfl rfl Jg rfl (by rw [Jc, J3, J1q]) bX) rfl ⟨rfl, hBX⟩
end
section
open Go.RowKit

theorem J22 : (Tryz.prog.info? 5).map (fun i => (i.zero, i.size, i.bytes)) = some (some (.int .u8 0), 1, 1) := by kernel_rfl
theorem J10 : Tryz.prog.underlying 56 = some (.slice 5) := by kernel_rfl
def slen : Value → Nat
 | .slice _ n _ => n
 | _ => 0
theorem J7y {w : World} {base n size : Nat} {e : TypeId} {v : Value} {xs : List Value} (h : w.ownsRow base e size v n xs) : ∃ A cap, v = .slice A n cap := by
 rcases h.2 with ⟨rfl, rfl⟩ | ⟨g, cap, cur, rfl, _⟩
 · exact ⟨none, 0, rfl⟩
 · exact ⟨_, cap, rfl⟩
def padJ (b : List Nat) (j : Nat) : List Nat := b ++ 128 :: List.replicate j 0
theorem J4o (b : List Nat) (j : Nat) : (padJ b j).length = b.length + 1 + j := by unfold padJ; simp; omega
theorem Jcq (b : List Nat) (j : Nat) : padJ b j ++ [0] = padJ b (j + 1) := by unfold padJ; simp [List.replicate_succ']
def padM (b : List Nat) (m : Nat) : List Nat := padJ b (padZ b.length) ++ (lenB b.length).take m
theorem Je3 (b : List Nat) : padM b 8 = pad b := by
 unfold padM padJ pad
 rw [List.take_of_length_le (by simp [lenB])]
theorem Jhr (b : List Nat) (m : Nat) (h : m < 8) : padM b m ++ [b.length * 8 / 2 ^ (56 - 8 * m) % 256] = padM b (m + 1) := by
 unfold padM lenB
 rw [List.take_add_one, List.getElem?_map, List.getElem?_range h, List.append_assoc]
 rfl
theorem Jbb (b : List Nat) (m : Nat) : (padM b m).length ≤ b.length + 1 + padZ b.length + 8 := by
 unfold padM lenB
 rw [List.length_append, J4o, List.length_take]
 simp
 omega
theorem J4f {ops : Array Oper} {rest : List Oper} {o1 o2 : Oper} {a : Act} {Q : Exit → Act → World → Prop} {X : World} {base : Nat} {l : List Nat} {u : Value} {c : Nat} (g1 : o1.guard = none) (g2 : o2.guard = none) (s p x : Operand)
  (h1 : o1.op = .buildSlice 56 1 #[(0, x)]) (h2 : o2.op = .call { callee := .builtin .append, args := #[s, p], argTypes := #[56, 56] })
  (hx : a.eval x = .int .u8 (c : Int)) (hs : ∀ v, (a.put o1.dst v).eval s = u) (hp : ∀ v, (a.put o1.dst v).eval p = v) (hown : X.ownsRow base 5 1 u l.length (byc l)) (hk : l.length ≤ 10000000) (hbase : base ≤ X.heap.size)
  (h : ∀ v v' w', w'.ownsRow base 5 1 v' (l ++ [c]).length (byc (l ++ [c])) → Below base X w' → wpList Tryz.prog ops Q rest ((a.put o1.dst v).put o2.dst v') w') : wpList Tryz.prog ops Q (o1 :: o2 :: rest) a X := by
 obtain ⟨iu8, hu8, uz0, uz1, uz2⟩ := info_parts J22
 refine wpList_plain g1 fun K hK => Jn (Jb (fun v0 w1 hh => ?_) (J15 (cs := #[.int .u8 (c : Int)]) J10 hu8 uz0 uz1 (by decide) (by decide) h1 (by rw [hx]; rfl) rfl))
 obtain ⟨⟨rfl, hl1, b1⟩, hB1⟩ := hh
 refine hK _ _ ?_
 refine J29 g2 s p h2 J10 hu8 uz0 uz1 uz2 rfl (by decide) (cl := [.int .u8 (c : Int)]) rfl (fun v hv => by rw [List.mem_singleton.1 hv]; rfl) (hs _) (hp _) (Jq hown (Nat.le_refl _) hB1) b1 (by unfold maxLen; omega) (by omega) (Nat.le_trans hbase hB1.size) fun v' w' hown' _ hB' _ => ?_
 refine h _ v' w' ?_ ((hB1.mono hbase).trans hB')
 rw [J8z, List.length_append]
 exact hown'
theorem J6f : En Tryz.prog 140 := enters_of Tryz.func140 (by kernel_rfl) rfl
attribute [local irreducible] wpRg
theorem rPad (b : List Nat) (hn : b.length ≤ 1000000) (v : Value) (lo hi : Nat) (w : World) (h : ByS lo hi w v b) : Calls Tryz.prog 140 #[v] w (RetR (fun lo hi v w => ByS lo hi w v (pad b)) w) := by
 obtain ⟨A, cap, rfl⟩ := h.len
 have HV := Lib.hid h
 have HN := Lib.hid hn
 clear h hn
 go_enter Tryz.func140, Tryz.ntmps140
 obtain ⟨iu8, hu8, uz0, uz1, uz2⟩ := info_parts J22
 go_upto_region 1 with (fail)
 refine wp_region_lit ?_
 refine wpList_plain rfl fun K hK => Jn (Jb (fun v0 w1 hh => ?_) (J2w J10 hu8 uz0 rfl))
 obtain ⟨⟨rfl, hl1, b1⟩, hB1⟩ := hh
 refine hK _ _ (wpList_plain rfl fun K2 hK2 => Jn (Jb (fun v1 w1' hh => ?_) (J4a (u := .slice A b.length cap) rfl rfl)))
 obtain ⟨rfl, hw1⟩ := hh
 rw [hw1]
 refine hK2 _ _ ?_
 clear hw1 hl1
 have hown0 : w1.ownsRow w.heap.size 5 1 (.slice (some ⟨w.heap.size, 0, none⟩) 0 0) 0 (byc []) := ⟨rfl, .inr ⟨w.heap.size, 0, #[], rfl, Nat.le_refl _, b1, Nat.le_refl _, by simp, by simp [byc]⟩⟩
 have hNn := HN.out
 refine J21 rfl _ _ rfl J10 hu8 uz0 uz1 uz2 rfl (by decide) (J4e b) rfl rfl (HV.out.keep hB1) hown0 (by unfold maxLen; omega) (by omega) hB1.size fun v2 w2 hown1 _ hB2 => ?_
 have hown : w2.ownsRow w.heap.size 5 1 v2 b.length (byc b) := by simpa [byc] using hown1
 have HB := hB1.trans hB2
 clear hown0 hown1 hB1 hB2 b1
 go_upto_region 2 with (fail)
 refine wp_region_lit ?_
 refine wpList_plain rfl fun K hK => Jn (Jb (fun v1 w1' hh => ?_) (J4a (u := v2) rfl rfl))
 obtain ⟨rfl, hw1⟩ := hh
 rw [hw1]
 refine hK _ _ ?_
 refine J4f (c := 128) rfl rfl _ _ _ rfl rfl rfl (fun _ => rfl) (fun _ => rfl) hown (by omega) HB.size fun v3 v4 w4 hown4 hB4 => ?_
 have hBw := HB.trans (hB4.mono (Nat.le_refl _))
 clear hown hB4 HB hw1
 rw [show b ++ [128] = padJ b 0 from rfl] at hown4
 go_wp2_with fail
 go_loopw [3] (fun u wr => ∃ j : Nat, j ≤ padZ b.length ∧ wr.ownsRow w.heap.size 5 1 u (padJ b j).length (byc (padJ b j)) ∧ Below w.heap.size w wr) (fun u _ => 100000000 - slen u)
 case atStart => exact ⟨0, Nat.zero_le _, hown4, hBw⟩
 case round =>
  obtain ⟨j, hj, hown, hBr⟩ := hrel
  obtain ⟨A3, c3, rfl⟩ := J7y hown
  have hlen := J4o b j
  have hz := Jdu b.length j hj
  rw [← hlen] at hz
  have hsm : (padJ b j).length ≤ 1000100 := by have := J6p b.length; omega
  by_cases hlt : j < padZ b.length
  ·
   have hmod : (padJ b j).length % 64 ≠ 56 := fun h => by have := hz.1 h; omega
   obtain ⟨D, hD⟩ : ∃ D, D = (padJ b j).length := ⟨_, rfl⟩
   rw [← hD] at hmod hsm ⊢
   clear hz hlen
   go_upto_region 4 with (fail)
   refine wp_region_lit ?_
   refine wpList_plain rfl fun K hK => Jn (Jb (fun v1 w1' hh => ?_) (J4a (u := .slice A3 D c3) rfl rfl))
   obtain ⟨rfl, hw1⟩ := hh
   rw [hw1]
   refine hK _ _ ?_
   rw [hD]
   rw [hD] at hsm
   refine J4f (c := 0) rfl rfl _ _ _ rfl rfl rfl (fun _ => rfl) (fun _ => rfl) hown (by omega) hBr.size fun v5 v6 w6 hown6 hB6 => ?_
   rw [Jcq] at hown6
   have hBw6 := hBr.trans (hB6.mono (Nat.le_refl _))
   clear hown hB6 hw1
   obtain ⟨A6, c6, rfl⟩ := J7y hown6
   go_wp2_with fail
   have hl6 := J4o b (j + 1)
   have hl5 := J4o b j
   exact ⟨⟨j + 1, by omega, hown6, hBw6⟩, by simp [slen]; omega⟩
  ·
   have hmod : (padJ b j).length % 64 = 56 := hz.2 (by omega)
   obtain rfl : j = padZ b.length := by omega
   have hp0 : padJ b (padZ b.length) = padM b 0 := by unfold padM; simp
   rw [hp0] at hown hsm hmod ⊢
   clear hz hlen hlt hj hp0
   obtain ⟨L0, hL0⟩ : ∃ L, L = (padM b 0).length := ⟨_, rfl⟩
   rw [← hL0] at hmod hsm ⊢
   have HL := Lib.hid hL0
   clear hL0
   go_wp2_with fail
   have hbn : ((L0 : Int) % 64 != 56) = false := by
    rw [show (L0 : Int) % 64 = 56 by omega]
    rfl
   rw [hbn]
   clear hbn
   go_loopw [3, 5] (fun u i wr => ∃ m : Nat, m ≤ 8 ∧ i = .int .i64 m ∧ wr.ownsRow w.heap.size 5 1 u (padM b m).length (byc (padM b m)) ∧ Below w.heap.size w wr) (fun _ i _ => 8 - (intOf i).toNat)
   case atStart => exact ⟨0, Nat.zero_le _, rfl, by rw [HL.out]; exact hown, hBr⟩
   case round =>
    obtain ⟨m, hm, rfl, hown, hBr⟩ := hrel
    obtain ⟨A5, c5, rfl⟩ := J7y hown
    by_cases hlt : m < 8
    ·
     go_upto_region 9 with (fail)
     refine wp_region_lit ?_
     iterate 7 (refine wpList_plain rfl fun K hK => ?_; go_big_op; refine hK _ _ ?_; clear hK K)
     have hml := Jbb b m
     have hzl := J6p b.length
     have hNn := HN.out
     refine J4f (c := b.length * 8 / 2 ^ (56 - 8 * m) % 256) rfl rfl _ _ _ rfl rfl (by simp [Act.eval]) (fun _ => rfl) (fun _ => rfl) hown (by omega) hBr.size fun v5 v6 w6 hown6 hB6 => ?_
     rw [Jhr b m hlt] at hown6
     have hBw6 := hBr.trans (hB6.mono (Nat.le_refl _))
     clear hown hB6
     obtain ⟨A6, c6, rfl⟩ := J7y hown6
     have hG := Jbb b (m + 1)
     go_wp2_with fail
     exact ⟨⟨m + 1, by omega, by go_num, hown6, hBw6⟩, by simp [intOf]; omega⟩
    ·
     obtain rfl : m = 8 := by omega
     rw [Je3] at hown ⊢
     go_wp2_with fail
     refine bodyPost_ret (v := .slice A5 (pad b).length c5) (by simp [results, Tryz.results140, go_sem]) rfl ⟨_, rfl, ?_, hBr⟩
     exact Rd.of_own hown (by rw [← Je3]; have := Jbb b 8; have := J6p b.length; have := HN.out; omega) (Nat.le_refl _)
end
section
open Go.RowKit

theorem Jlp : (Tryz.prog.info? 172).map (fun i => (i.zero, i.size, i.bytes)) = some (some (.agg (List.replicate 8 (Value.int .u32 0)).toArray), 8, 32) := by kernel_rfl
theorem Jcr (p : List Nat) (k : Nat) (h : 64 * k + 64 ≤ p.length) : (blk64 p k).length = 64 := by
 unfold blk64
 rw [List.length_take, List.length_drop]
 omega
theorem J1y : En Tryz.prog 116 := enters_of Tryz.func116 (by kernel_rfl) rfl
attribute [local irreducible] wpRg
theorem rSum (b : List Nat) (hn : b.length ≤ 1000000) (hb8 : ∀ x ∈ b, x < 256) (v : Value) (lo hi : Nat) (w : World) (h : ByS lo hi w v b) : Calls Tryz.prog 116 #[v] w (Ret (dgv (sha b)) w) := by
 have HV := Lib.hid h
 have HN := Lib.hid hn
 have H8 := Lib.hid (pad_lt b hb8)
 clear h hn hb8
 go_enter Tryz.func116, Tryz.ntmps116
 obtain ⟨i8, hi8, iz0, iz1, iz2⟩ := info_parts Jlp
 go_upto_region 1 with (fail)
 refine J13 fun W hB hz b2 => ?_
 obtain ⟨cs0, hcs0, b2'⟩ : ∃ cs : Array Value, cs.size = 32 ∧ Blk W w.heap.size 23 cs := ⟨_, rfl, b2⟩
 have hWs : W.heap.size = w.heap.size + 1 := hz.out
 clear b2 hz
 refine wp_region_lit ?_
 refine wpList_plain rfl fun K hK => Jn (Jb (fun v1 w1 hh => ?_) (J7 J5b (rInit W) rfl rfl))
 obtain ⟨rfl, hB1⟩ := hh
 refine hK _ _ (wpList_plain rfl fun K2 hK2 => Jn (Jb (fun v1 w1' hh => ?_) (J4a (u := v) rfl rfl)))
 obtain ⟨rfl, hw1⟩ := hh
 rw [hw1]
 have hBa := hB.trans (hB1.mono hB.size)
 refine hK2 _ _ (wpList_plain rfl fun K3 hK3 => Jn (Jb (fun v3 w3 hh => ?_) (Jp J6f (rPad b HN.out v1 lo hi w1 (HV.out.keep hBa)) rfl rfl)))
 obtain ⟨hp3, hB3⟩ := hh
 refine hK3 _ _ (wpList_plain rfl fun K4 hK4 => Jn (Jb (fun v4 w4 hh => ?_) (Jl hi8 iz0 rfl)))
 obtain ⟨rfl, rfl⟩ := hh
 refine hK4 _ _ ?_
 have b4 : Blk (w3.alloc (.cells (Value.agg (List.replicate 8 (Value.int .u32 0)).toArray).cells 172)) w3.heap.size 172 (List.replicate 8 (Value.int .u32 0)).toArray := World.alloc_heap_new w3 _
 have hBw3 := hBa.trans (hB3.mono hBa.size)
 have b23 := (b2'.keep hB1).keep hB3
 have b24 := b23.alloc (.cells (Value.agg (List.replicate 8 (Value.int .u32 0)).toArray).cells 172)
 have hB4 := hBw3.alloc hBw3.size (.cells (Value.agg (List.replicate 8 (Value.int .u32 0)).toArray).cells 172)
 have hp4 := hp3.keep ((Below.refl _ _).alloc (Nat.le_refl _) (.cells (Value.agg (List.replicate 8 (Value.int .u32 0)).toArray).cells 172))
 refine J6 rfl 172 (.tmp 3) (.tmp 6) rfl rfl (cells := init8.cells) rfl b4 (by simp [S8.cells]) J4y (s8_one _) (Ja _ _ (by simp [S8.cells])) fun X hX bX => ?_
 have hn3 : w.heap.size < w3.heap.size := by
  have h1 := hB1.size
  have h3 := hB3.size
  omega
 obtain ⟨n3, hn3e⟩ : ∃ n, n = w3.heap.size := ⟨_, rfl⟩
 rw [← hn3e] at bX hX hp4 hn3 ⊢
 have hpX : ByS w.heap.size n3 X v3 (pad b) := hX.rd (hp4.wide (by have := hBa.size; omega) (Nat.le_refl _)) (.inr (Nat.le_refl _))
 have b2X := hX.blk b24 (by omega)
 have hBX := J2 hB4 hX (by omega)
 clear hp4 hp3 b23 b24 b4 hB4 hBw3 hB3 hBa hK hK2 hK3 hK4 K K2 K3 K4 hB1 hw1 b2' hn3e hX hB hWs HV
 obtain ⟨A, cap, rfl⟩ := hpX.len
 obtain ⟨N, hN⟩ : ∃ N, N = (pad b).length / 64 := ⟨_, rfl⟩
 have hN64 : (pad b).length = 64 * N := by have := pad_64 b; omega
 have hNs : N ≤ 20000 := by have := J9a b; have := J6p b.length; have := HN.out; omega
 have HP := Lib.hid hN64
 have HQ := Lib.hid hpX
 have hs0 : shaK (pad b) 0 = init8 := rfl
 rw [← hs0] at bX
 rw [hN64]
 have HE := Lib.hid hN
 clear hN64 hpX hs0 hN
 go_upto_region 2 with (fail)
 go_wp2_with fail
 go_loopw [5] (fun i wr => ∃ k : Nat, k ≤ N ∧ i = .int .i64 ((64 * k : Nat) : Int) ∧ Blk wr n3 172 (shaK (pad b) k).cells.toArray ∧ Blk wr w.heap.size 23 cs0 ∧ ByS w.heap.size n3 wr (.slice A (pad b).length cap) (pad b) ∧ Below w.heap.size w wr) (fun i _ => 64 * N - (intOf i).toNat)
 case atStart => exact ⟨0, Nat.zero_le _, rfl, bX, b2X, HQ.out, hBX⟩
 case round =>
  obtain ⟨k, hk, rfl, b3, b2, hp, hBr⟩ := hrel
  by_cases hlt : k < N
  ·
   have hL := HP.out
   have h0 : 0 < (pad b).length := by omega
   obtain ⟨g, off, cap', hA, hcl, hg1, hg2, hg3, hcell⟩ := J4n hp h0
   injection hA with hA1 hA2 hA3
   subst hA1
   subst hA3
   have hcut : ByS w.heap.size n3 wr (.slice (some ⟨g, off + 64 * k, none⟩) (64 * k + 64 - 64 * k) (cap - 64 * k)) (blk64 (pad b) k) := by
    rw [show 64 * k + 64 - 64 * k = 64 by omega]
    exact Jby hp (64 * k) 64 (cap - 64 * k) (by omega) (by decide) (by omega)
   have hcp : 64 * k + 64 ≤ cap := by omega
   clear hcell h0 hcl hA2
   have HL := Lib.hid hL
   clear hL
   go_wp2_with fail
   have hcd : decide ((64 * (k : Int)) < 64 * (N : Int)) = true := by simp; omega
   first | rw [hcd] | skip
   clear hcd
   go_upto_region 5 with (fail)
   refine Jd 7 [(0, Spec.val (s8v (shaK (pad b) k))), (6, Spec.val (s8v (comp (shaK (pad b) k) (blk64 (pad b) k))))] (by kernel_rfl) (by kernel_rfl) (by kernel_rfl) trivial ?_
   refine rg_val rfl rfl (fun W1 hW1 hF => Jf (cs := (shaK (pad b) k).cells) J7x rfl J4y rfl rfl (J4 (b3.below (J8 hW1) b3.lt))) ?_
   intro a' ha
   simp only [PutS] at ha
   subst ha
   iterate 5 (refine rg_det rfl rfl rfl (fun K hK => ?_); go_big_quiet_op; refine hK _ ?_; clear hK K)
   refine rg_val rfl rfl (fun W1 hW1 hF => J7 J56 (rComp (shaK (pad b) k) (blk64 (pad b) k) (Jcr _ _ (by have := HP.out; omega)) (fun x hx => H8.out x (List.mem_of_mem_drop (List.mem_of_mem_take hx))) _ _ _ W1 (hcut.keep (J8 hW1))) rfl rfl) ?_
   intro a' ha
   simp only [PutS] at ha
   subst ha
   refine rg_nil (fun w' hw' hF => ?_)
   obtain ⟨z, rfl⟩ := hw'
   simp only [List.drop_succ_cons, List.drop_zero]
   have b3z := b3.gw z
   have b2z := b2.gw z
   have hpz : ByS w.heap.size n3 z.w (.slice (some ⟨g, off, none⟩) (pad b).length cap) (pad b) := hp.keep z.h
   have hBz := hBr.trans (z.h.mono hBr.size)
   refine J6 rfl 172 (.tmp 3) (.tmp 21) rfl rfl (cells := (shaK (pad b) (k + 1)).cells) rfl b3z (by simp [S8.cells]) J4y (s8_one _) (Ja _ _ (by simp [S8.cells])) fun Y hY bY => ?_
   have b2Y := hY.blk b2z (by omega)
   have hpY : ByS w.heap.size n3 Y (.slice (some ⟨g, off, none⟩) (pad b).length cap) (pad b) := hY.rd hpz (.inr (Nat.le_refl _))
   have hBY := J2 hBz hY (by omega)
   clear b3z b2z hpz hBz b3 b2 hp hBr hcut
   go_wp2_with fail
   exact ⟨⟨k + 1, by omega, by congr 1, bY, b2Y, hpY, hBY⟩, by simp [intOf]; omega⟩
  ·
   obtain rfl : k = N := by omega
   have hfin : shaK (pad b) k = shaK (pad b) ((pad b).length / 64) := by rw [← HE.out]
   have HF := Lib.hid hfin
   clear hfin
   go_upto_region 6 with (fail)
   refine wp_region_lit ?_
   refine wpList_plain rfl fun K hK => Jn (Jb (fun v w' hh => ?_) (J1 (cs := (shaK (pad b) k).cells) J7x rfl J4y rfl rfl (J4 b3)))
   obtain ⟨rfl, rfl⟩ := hh
   refine hK _ _ (wpList_plain rfl fun K1 hK1 => Jn (Jb (fun v1 w1 hh => ?_) (J7 J5k (rDig (shaK (pad b) k) _) rfl rfl)))
   obtain ⟨rfl, hB9⟩ := hh
   refine hK1 _ _ ?_
   refine J6 rfl 23 (.tmp 2) (.tmp 23) rfl rfl (cells := byc (digL (shaK (pad b) k))) rfl (b2.keep hB9) (by rw [J3, J1q, hcs0]; decide) (by rw [Jc, J3, J1q]) (Jw _) (Ja _ _ (by rw [hcs0, J3, J1q])) fun Y hY bY => ?_
   have hBY := J2 (hBr.trans (hB9.mono hBr.size)) hY (Nat.le_refl _)
   go_wp2_with fail
   rw [show digL (shaK (pad b) k) = sha b by rw [HF.out]; rfl] at bY
   exact bodyPost_ret (v := dgv (sha b)) (Jv (g := w.heap.size) rfl rfl Jg rfl (by rw [Jc, J3, Js]) bY) rfl ⟨rfl, hBY⟩
end
section
open Go.RowKit

def OwB (base : Nat) (w : World) (v : Value) (l : List Nat) : Prop := w.ownsRow base 5 1 v l.length (byc l)
theorem OwB.len {base : Nat} {w : World} {v : Value} {l : List Nat} (h : OwB base w v l) : ∃ A cap, v = .slice A l.length cap := by
 rcases h.2 with ⟨rfl, e⟩ | ⟨g, cap, cur, rfl, _⟩
 · exact ⟨none, 0, by rw [e]⟩
 · exact ⟨_, cap, rfl⟩
theorem OwB.bys {base hi : Nat} {w : World} {v : Value} {l : List Nat} (h : OwB base w v l) (hn : l.length ≤ 10000000) (hh : w.heap.size ≤ hi) : ByS base hi w v l := Rd.of_own h (by omega) hh
theorem OwB.keep {base : Nat} {w X : World} {v : Value} {l : List Nat} (h : OwB base w v l) (hb : Below w.heap.size w X) : OwB base X v l := Jq h (Nat.le_refl _) hb
theorem J8s {ops : Array Oper} {rest : List Oper} {o : Oper} {a : Act} {Q : Exit → Act → World → Prop} {X : World} (g : o.guard = none) (ho : o.op = .buildSlice 56 0 #[])
  (h : ∀ v w', OwB X.heap.size w' v [] → Below X.heap.size X w' → wpList Tryz.prog ops Q rest (a.put o.dst v) w') : wpList Tryz.prog ops Q (o :: rest) a X := by
 obtain ⟨iu8, hu8, uz0, uz1, uz2⟩ := info_parts J22
 refine wpList_plain g fun K hK => Jn (Jb (fun v0 w1 hh => ?_) (J2w J10 hu8 uz0 ho))
 obtain ⟨⟨rfl, hl1, b1⟩, hB1⟩ := hh
 exact hK _ _ (h _ _ ⟨rfl, .inr ⟨X.heap.size, 0, #[], rfl, Nat.le_refl _, b1, Nat.le_refl _, by simp, by simp [byc]⟩⟩ hB1)
theorem J7g {ops : Array Oper} {rest : List Oper} {o : Oper} {a : Act} {Q : Exit → Act → World → Prop} {X : World} {base lo hi : Nat} {l m : List Nat} {u v : Value} (g : o.guard = none) (s x : Operand)
  (ho : o.op = .call { callee := .builtin .append, args := #[s, x], argTypes := #[56, 56] }) (hs : a.eval s = u) (hx : a.eval x = v) (hr : ByS lo hi X v m) (hown : OwB base X u l) (hl : l.length ≤ 10000000) (hm : m.length ≤ 10000000) (hbase : base ≤ X.heap.size)
  (h : ∀ v' w', OwB base w' v' (l ++ m) → Below base X w' → wpList Tryz.prog ops Q rest (a.put o.dst v') w') : wpList Tryz.prog ops Q (o :: rest) a X := by
 obtain ⟨iu8, hu8, uz0, uz1, uz2⟩ := info_parts J22
 refine J21 g s x ho J10 hu8 uz0 uz1 uz2 rfl (by decide) (J4e m) hs hx hr hown (by unfold maxLen; omega) (by omega) hbase fun v2 w2 hown1 _ hB2 => ?_
 refine h _ _ ?_ hB2
 unfold OwB
 rw [J8z, List.length_append]
 exact hown1
theorem Jbc : Tryz.prog.underlying 5 = some (.int .u8) := by kernel_rfl
theorem J1k : En Tryz.prog 117 := enters_of Tryz.func117 (by kernel_rfl) rfl
attribute [local irreducible] wpRg
theorem rJoin (a b : List Nat) (ha : a.length ≤ 5000000) (hb : b.length ≤ 5000000) (v u : Value) (lo hi lo2 hi2 : Nat) (w : World) (h : ByS lo hi w v a) (k : ByS lo2 hi2 w u b) : Calls Tryz.prog 117 #[v, u] w (RetR (fun lo hi v w => ByS lo hi w v (a ++ b)) w) := by
 obtain ⟨Aa, ca, rfl⟩ := h.len
 obtain ⟨Ab, cb, rfl⟩ := k.len
 have HV := Lib.hid h
 have HU := Lib.hid k
 have HA := Lib.hid ha
 have HB := Lib.hid hb
 clear h k ha hb
 go_enter Tryz.func117, Tryz.ntmps117
 go_upto_region 1 with (fail)
 refine wp_region_lit ?_
 refine J8s rfl rfl fun v1 w1 o1 hB1 => ?_
 refine wpList_plain rfl fun K2 hK2 => Jn (Jb (fun v2 w2 hh => ?_) (J4a (u := .slice Aa a.length ca) rfl rfl))
 obtain ⟨rfl, hw1⟩ := hh
 rw [hw1]
 refine hK2 _ _ ?_
 clear hK2 K2 hw1
 refine J7g rfl _ _ rfl rfl rfl (HV.out.keep hB1) o1 (by decide) (by have := HA.out; omega) hB1.size fun v3 w3 o3 hB3 => ?_
 rw [List.nil_append] at o3
 have B3 := hB1.trans hB3
 clear o1 hB1 hB3
 go_upto_region 2 with (fail)
 refine wp_region_lit ?_
 refine wpList_plain rfl fun K2 hK2 => Jn (Jb (fun v2 w2 hh => ?_) (J4a (u := v3) rfl rfl))
 obtain ⟨rfl, hw1⟩ := hh
 rw [hw1]
 refine hK2 _ _ ?_
 clear hK2 K2 hw1
 refine wpList_plain rfl fun K2 hK2 => Jn (Jb (fun v2 w2 hh => ?_) (J4a (u := .slice Ab b.length cb) rfl rfl))
 obtain ⟨rfl, hw1⟩ := hh
 rw [hw1]
 refine hK2 _ _ ?_
 clear hK2 K2 hw1
 refine J7g rfl _ _ rfl rfl rfl (HU.out.keep B3) o3 (by have := HA.out; omega) (by have := HB.out; omega) B3.size fun v4 w4 o4 hB4 => ?_
 have B4 := B3.trans hB4
 clear o3 B3 hB4
 obtain ⟨A4, c4, rfl⟩ := o4.len
 have HO := Lib.hid o4
 clear o4
 go_wp2_with fail
 refine bodyPost_ret (v := .slice A4 (a ++ b).length c4) (by simp [results, Tryz.results117, go_sem]) rfl ⟨_, rfl, ?_, B4⟩
 exact HO.out.bys (by rw [List.length_append]; have := HA.out; have := HB.out; omega) (Nat.le_refl _)
end
section
open Go.RowKit

theorem Jhs {α : Type} (l : List α) (k : Nat) (h : k < l.length) : l.take (k + 1) = l.take k ++ [l[k]] := by
 rw [List.take_add_one, List.getElem?_eq_getElem h]
 rfl
def tk (k : Nat) (l : List Nat) : List Nat := l.take k
theorem Jlq (l : List Nat) : tk 0 l = [] := List.take_zero
theorem Jlr (l : List Nat) (k x : Nat) (h : k < l.length) (hx : l[k] = x) : tk k l ++ [x] = tk (k + 1) l := by
 unfold tk
 rw [Jhs l k h, hx]
theorem tk_all (l : List Nat) (k : Nat) (h : l.length = k) : tk k l = l := List.take_of_length_le (by omega)
theorem tk_len (l : List Nat) (k : Nat) : (tk k l).length ≤ k := by
 unfold tk
 rw [List.length_take]
 omega
theorem J1g : En Tryz.prog 75 := enters_of Tryz.func75 (by kernel_rfl) rfl
attribute [local irreducible] wpRg
theorem rBytes (l : List Nat) (hl : l.length = 32) (w : World) : Calls Tryz.prog 75 #[dgv l] w (RetR (fun lo hi v w => ByS lo hi w v l) w) := by
 obtain ⟨S, hS⟩ : ∃ S, S = dgv l := ⟨_, rfl⟩
 rw [← hS]
 have HL := Lib.hid hl
 go_enter Tryz.func75, Tryz.ntmps75
 go_upto_region 1 with (fail)
 refine J13 fun W hB hz b1 => ?_
 have b1' : Blk W w.heap.size 23 (byc l).toArray := by first | exact b1 | (rw [hS] at b1; exact b1)
 have hWs : W.heap.size = w.heap.size + 1 := hz.out
 clear b1 hz hl
 go_upto_region 1 with (fail)
 refine wp_region_lit ?_
 refine J8s rfl rfl fun v1 w1 o1 hB1 => ?_
 have b2 := b1'.keep hB1
 have B1 := hB.trans (hB1.mono hB.size)
 rw [hWs] at o1
 clear b1' hB1 hB hWs
 go_wp2_with fail
 go_loopw [3, 4] (fun u i wr => ∃ k : Nat, k ≤ 32 ∧ i = .int .i64 k ∧ OwB (w.heap.size + 1) wr u (tk k l) ∧ Blk wr w.heap.size 23 (byc l).toArray ∧ Below w.heap.size w wr) (fun _ i _ => 32 - (intOf i).toNat)
 case atStart => exact ⟨0, Nat.zero_le _, rfl, by rw [Jlq]; exact o1, b2, B1⟩
 case round =>
  obtain ⟨k, hk, rfl, ho, hb, hBr⟩ := hrel
  obtain ⟨A, cap, rfl⟩ := ho.len
  by_cases hlt : k < 32
  ·
   have hlt' : k < l.length := by rw [HL.out]; exact hlt
   have c1 : wr.cell? ⟨w.heap.size, k, none⟩ = some (.int .u8 (l[k] : Nat)) := by
    rw [hb.cell]
    simp [byc, List.getElem?_map, List.getElem?_eq_getElem hlt']
   generalize hx : l[k] = x at c1
   go_upto_region 5 with (fail)
   refine wp_region_lit ?_
   iterate 4 (refine wpList_plain rfl fun K hK => ?_; go_big_op; refine hK _ _ ?_; clear hK K)
   refine J4f (c := x) rfl rfl _ _ _ rfl rfl rfl (fun _ => rfl) (fun _ => rfl) ho (by have := tk_len l k; omega) (by have := hb.lt; omega) fun v5 v6 w6 o6 hB6 => ?_
   have o6' : OwB (w.heap.size + 1) w6 v6 (tk (k + 1) l) := by rw [← Jlr l k x hlt' hx]; exact o6
   have b6 := hb.below hB6 (by omega)
   have B6 := hBr.trans (hB6.mono (by omega))
   clear o6 ho hb hBr c1 hB6
   obtain ⟨A6, c6, rfl⟩ := o6'.len
   go_wp2_with fail
   exact ⟨⟨k + 1, by omega, by go_num, o6', b6, B6⟩, by simp [intOf]; omega⟩
  ·
   obtain rfl : k = 32 := by omega
   rw [tk_all l 32 HL.out] at ho ⊢
   have HO := Lib.hid ho
   clear ho
   go_wp2_with fail
   refine bodyPost_ret (v := .slice A l.length cap) (by simp [results, Tryz.results75, go_sem]) rfl ⟨_, rfl, ?_, hBr⟩
   exact (HO.out.bys (by rw [HL.out]; decide) (Nat.le_refl _)).wide (by omega) (Nat.le_refl _)
end

theorem J6r {W : World} {g lo hi : Nat} {t : TypeId} {l : List Nat} (h : Blk W g t (byc l).toArray) (hb : l.length ≤ 1000000) (hlo : lo ≤ g) (hhi : g < hi) : ByS lo hi W (.slice (some ⟨g, 0, none⟩) l.length l.length) l := by
 refine ⟨by rw [J3]; omega, by omega, some ⟨g, 0, none⟩, l.length, rfl, Nat.le_refl _, fun _ => ⟨g, 0, rfl, hlo, hhi, h.lt, fun j u hu => ?_⟩⟩
 rw [Nat.zero_add, h.cell]
 simpa using hu
theorem J4p {o : Oper} {a : Act} {w : World} {len : Nat} {parts : List (Nat × Operand)} (l : List Nat) (hl : l.length = len) (h0 : 0 < len) (hs : len ≤ 1000000) (ho : o.op = .buildSlice 56 len parts.toArray)
  (hv : (parts.map fun x => (x.1, a.eval x.2)) = ((byc l).zipIdx 0).map fun x => (x.2, x.1)) : stepAt Tryz.prog o a w fun v w' => ByS w.heap.size w'.heap.size w' v l ∧ Below w.heap.size w w' := by
 obtain ⟨iu8, hu8, uz0, uz1, uz2⟩ := info_parts J22
 refine Jb (fun v w' hh => ?_) (J2l J10 hu8 uz0 uz1 (by rw [J3]; exact hl) h0 (by omega) ho hv (fun v hv => ?_))
 ·
  obtain ⟨⟨rfl, h1, h2⟩, h3⟩ := hh
  subst hl
  exact ⟨J6r h2 hs (Nat.le_refl _) h1, h3⟩
 ·
  obtain ⟨x, _, rfl⟩ := List.mem_map.1 hv
  rfl
section
open Go.RowKit

attribute [local irreducible] wpRg
end
section
open Go.RowKit

theorem fv_nat (x : Fp) : ((fv x).toNat : Int) = fv x ∧ (fv x).toNat < 18446744073709551616 := by
 have h1 := fv_lo x
 have h2 := fv_hi x
 omega
attribute [local irreducible] wpRg
end
section
open Go.RowKit

def ByA (l : List Nat) (lo hi : Nat) (v : Value) (w : World) : Prop := ByS lo hi w v l
theorem by_st {l : List Nat} : Stable (ByA l) := fun _ _ _ _ _ h hb => Rd.below h hb (Nat.le_refl _)
attribute [local irreducible] wpRg
end
section
open Go.RowKit

attribute [local irreducible] wpRg
end
end Go.Proofs.YtoiampgfnidfdaaGreatDoor
