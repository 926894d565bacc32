/-
  The reference's Line and Made of chapter 05, by contract.
-/
import Derived.Test.YtipaecageimnnaaDoorMr1
namespace Go.Proofs.YtipaecageimnnaaDoor
open Go.RowKit

set_option maxRecDepth 100000 in
set_option maxHeartbeats 2000000 in
theorem rMadeO (l : List Raw) (k : Nat) (hk : k ≤ 8) (v : Value) (N : Nat) (w : World) (hl : RawS 0 N w v l) (_hN : N ≤ w.heap.size) :
    Calls Tryd.prog 28 #[v, .int .i64 k] w (RetR (fun lo _ v w => w.ownsRow lo 26 2 v (2 ^ k) ((mdT l (2 ^ k)).flatMap ec)) w) := by
  obtain ⟨A, cap, rfl⟩ := hl.1.len
  have hlen := hl.1.2.1
  obtain ⟨n, hn⟩ : ∃ n, n = 2 ^ k := ⟨_, rfl⟩
  have hn1 : n ≤ 256 ∧ ((2 : Int) ^ k = (n : Int)) := by
    have := Nat.pow_le_pow_right (n := 2) (by decide) hk
    exact ⟨by rw [hn]; exact this, by rw [hn]; simp⟩
  obtain ⟨hn2, hn4⟩ := hn1
  have hw64 : wrap64 ((2 : Int) ^ k) = (n : Int) := by rw [hn4]; simp only [wrap64]; omega
  rw [← hn]
  clear hn hn4
  obtain ⟨i0, hi0, hz0, hz1, hz2⟩ := info_parts ext_info
  go_enter Tryd.func28, Tryd.ntmps28
  go_wp2
  go_loopw [5, 6] (fun v i wr => ∃ j : Nat, j ≤ n ∧ i = .int .i64 j ∧ wr.ownsRow w.heap.size 26 2 v j ((mdT l j).flatMap ec) ∧ Below w.heap.size w wr) (fun _ i _ => n - (intOf i).toNat)
  case atStart => exact ⟨0, Nat.zero_le _, rfl, ⟨by simp [mdT], .inr ⟨w.heap.size, 0, #[], rfl, Nat.le_refl _, World.alloc_heap_new w _, Nat.le_refl _, Nat.zero_le _, rfl, by simp [mdT]⟩⟩, (Below.refl _ _).alloc (Nat.le_refl _) _⟩
  case round =>
    obtain ⟨j, hj, rfl, hown, hB⟩ := hrel
    by_cases hlt : j < n
    · have hf : (mdT l (j + 1)).flatMap ec = (mdT l j).flatMap ec ++ ec (mdAt l j) := by rw [mdT_succ, List.flatMap_append]; simp
      have HF := Lib.hid hf
      have HA := Lib.hid (show mdAt l j = if l.length = 0 then eb (fz j) else madeAt l (j % l.length) + eb (fz ((j / l.length : Nat) : Int)) from rfl)
      clear hf
      go_wp2_with fail
      refine (xFromInt j (by omega) (by omega) _).mono ?_
      rintro e w2 ⟨he, hb⟩
      unfold ev at he
      subst he
      have hb2 : Below wr.heap.size wr w2 := hb
      by_cases h0 : l.length = 0
      · rw [if_pos h0] at HA
        have hd0 : decide ((0 : Int) < (l.length : Int)) = false := by simp [h0]
        have hd1 : ¬ ((0 : Int) < (l.length : Int)) := by omega
        clear h0
        generalize eb (fz (j : Int)) = y at *
        go_wp2_with (at_builtin; refine stop_in ?_)
        refine stop_out ?_
        refine stk2 (M := fun W => wpList _ _ _ _ _ W) fun W3 hB3 hz3 b7 b8 => ?_
        have hs3 := hB3.size
        have hs2 := hb2.size
        have hws := hB.size
        have hB23 := hb2.trans (hB3.mono hb2.size)
        refine wpList_app1 rfl _ _ rfl Tryd.underlying22 hi0 hz0 hz1 hz2 rfl (by decide) (cl := ec y) rfl (ec_one _) rfl rfl (own_below hown (Nat.le_refl _) hB23) b8 (by unfold maxLen; omega) (by omega) (by omega) ?_
        intro v1 w4 hown4 hgrow hB5
        go_wp2
        exact ⟨⟨j + 1, by omega, by go_num, by rw [HF.out, HA.out]; exact hown4, (hB.trans (hB23.mono hws)).trans hB5⟩, by simp [intOf]; omega⟩
      · rw [if_neg h0] at HA
        generalize eb (fz (j : Int)) = y at *
        have hr1 : j % l.length < l.length := Nat.mod_lt _ (by omega)
        have hr2 : j / l.length ≤ j := Nat.div_le_self _ _
        obtain ⟨p, hp⟩ : ∃ p, l[j % l.length]? = some p := ⟨l[j % l.length], List.getElem?_eq_getElem hr1⟩
        have hm : madeAt l (j % l.length) = em p.1 p.2 := by unfold madeAt; rw [hp]
        rw [hm] at HA
        obtain ⟨⟨p1, p2⟩, p3, p4⟩ := hl.2 p (List.mem_of_getElem? hp)
        obtain ⟨g, off, cap', hv, q1, q2, q3, q4, q5⟩ := raws_cells hl (by omega)
        cases hv
        obtain ⟨d1, d2⟩ := q5 _ p hp
        have ht1 : Int.tmod (j : Int) (l.length : Int) = ((j % l.length : Nat) : Int) := rfl
        have ht2 : Int.tdiv (j : Int) (l.length : Int) = ((j / l.length : Nat) : Int) := rfl
        have hpos : (0 : Int) < (l.length : Int) := by omega
        have hne0 : (l.length : Int) ≠ 0 := by omega
        generalize j % l.length = a at *
        generalize j / l.length = b at *
        go_wp2_with fail
        refine stk1 (M := fun W => Code.wp _ _ _ _ W) fun W3 hB3 hz3 b7 => ?_
        have hs3 := hB3.size
        have hs2 := hb2.size
        have hws := hB.size
        have hB23 := hb2.trans (hB3.mono hb2.size)
        have hBw3 := hB.trans (hB23.mono hws)
        have c1 := gw_cell (W := W3) (Nat.lt_of_lt_of_le q4 hBw3.size) ((hBw3.cell (p := ⟨g, off + a * 2, none⟩) q4).trans d1)
        have c2 := gw_cell (W := W3) (Nat.lt_of_lt_of_le q4 hBw3.size) ((hBw3.cell (p := ⟨g, off + a * 2 + 1, none⟩) q4).trans d2)
        clear q5 d1 d2 hp hl hm
        refine wp_region_rg 14 [(7, Spec.val (.agg #[.int .u64 (fv (em p.1 p.2).a), .int .u64 (fv (em p.1 p.2).b)])), (12, Spec.val (.agg #[.int .u64 (fv (eb (fz (b : Int))).a), .int .u64 (fv (eb (fz (b : Int))).b)])), (13, Spec.val (.agg #[.int .u64 (fv (em p.1 p.2 + eb (fz (b : Int))).a), .int .u64 (fv (em p.1 p.2 + eb (fz (b : Int))).b)]))] (by kernel_rfl) (by kernel_rfl) (by kernel_rfl) trivial ?_
        refine rg_det rfl rfl rfl (fun K hK => ?_)
        go_big_quiet_op
        refine hK _ ?_; clear hK K
        refine rg_det rfl rfl rfl (fun K hK => ?_)
        go_big_quiet_op
        refine hK _ ?_; clear hK K
        refine rg_det rfl rfl rfl (fun K hK => ?_)
        go_big_quiet_op
        refine hK _ ?_; clear hK K
        refine rg_det rfl rfl rfl (fun K hK => ?_)
        go_big_quiet_op
        refine hK _ ?_; clear hK K
        refine rg_det rfl rfl rfl (fun K hK => ?_)
        go_big_quiet_op
        refine hK _ ?_; clear hK K
        refine rg_det rfl rfl rfl (fun K hK => ?_)
        go_big_quiet_op
        refine hK _ ?_; clear hK K
        refine rg_det rfl rfl rfl (fun K hK => ?_)
        go_big_quiet_op
        refine hK _ ?_; clear hK K
        refine rg_val rfl rfl (fun W1 hW1 hF => step_callv en_attestor_attestorref02_Made (xMade p.1 p.2 p1 p2 p3 p4 W1) rfl rfl) ?_
        intro a' ha
        simp only [Act.put, List.setIfInBounds_toArray, List.set_cons_succ, List.set_cons_zero] at ha
        subst ha
        refine rg_det rfl rfl rfl (fun K hK => ?_)
        go_big_quiet_op
        refine hK _ ?_; clear hK K
        refine rg_det rfl rfl rfl (fun K hK => ?_)
        go_big_quiet_op
        refine hK _ ?_; clear hK K
        refine rg_det rfl rfl rfl (fun K hK => ?_)
        go_big_quiet_op
        refine hK _ ?_; clear hK K
        refine rg_det rfl rfl rfl (fun K hK => ?_)
        go_big_quiet_op
        refine hK _ ?_; clear hK K
        refine rg_val rfl rfl (fun W1 hW1 hF => step_callv en_attestor_attestorref02_FromInt (xFromInt (b : Int) (by omega) (by omega) W1) rfl rfl) ?_
        intro a' ha
        simp only [Act.put, List.setIfInBounds_toArray, List.set_cons_succ, List.set_cons_zero] at ha
        subst ha
        refine rg_val rfl rfl (fun W1 hW1 hF => step_callv en_attestor_attestorref02_Add (xAdd (em p.1 p.2) (eb (fz (b : Int))) W1) rfl rfl) ?_
        intro a' ha
        simp only [Act.put, List.setIfInBounds_toArray, List.set_cons_succ, List.set_cons_zero] at ha
        subst ha
        refine rg_nil (fun w' hw' hF => ?_)
        obtain ⟨z, rfl⟩ := hw'
        simp only [List.drop_succ_cons, List.drop_zero]
        clear hF c1 c2
        have b7z := b7.keep z.h
        have e1 := b7z.frozen
        have e2 := b7z.cell
        generalize em p.1 p.2 + eb (fz (b : Int)) = u at *
        go_wp2_with (at_builtin; refine stop_in ?_)
        refine stop_out ?_
        refine stk1 (M := fun W => wpList _ _ _ _ _ W) fun W5 hB5 hz5 b8 => ?_
        have bz1 := blk_set2 (c := .int .u64 (fv u.a)) (d := .int .u64 (fv u.b)) b7z
        have hzs := z.h.size
        have hBz : Below wr.heap.size wr ((z.w.setCell ⟨w2.heap.size, 0, none⟩ (.int .u64 (fv u.a))).setCell ⟨w2.heap.size, 1, none⟩ (.int .u64 (fv u.b))) := below_set2 (hB23.trans (z.h.mono (by omega))) (by omega)
        have hB6 := hBz.trans (hB5.mono hBz.size)
        have hs6 := hB6.size
        have hs7 : (((z.w.setCell ⟨w2.heap.size, 0, none⟩ (.int .u64 (fv u.a))).setCell ⟨w2.heap.size, 1, none⟩ (.int .u64 (fv u.b)))).heap.size = z.w.heap.size := by simp [World.setCell]
        rw [hs7] at b8
        refine wpList_app1 rfl _ _ rfl Tryd.underlying22 hi0 hz0 hz1 hz2 rfl (by decide) (cl := ec u) rfl (ec_one _) rfl rfl (own_below hown (Nat.le_refl _) hB6) b8 (by unfold maxLen; omega) (by omega) (by omega) ?_
        intro v1 w4 hown4 hgrow hB7
        go_wp2
        exact ⟨⟨j + 1, by omega, by go_num, by rw [HF.out, HA.out]; exact hown4, (hB.trans (hB6.mono hws)).trans hB7⟩, by simp [intOf]; omega⟩
    · obtain rfl : j = n := by omega
      go_wp2
      go_ret
      exact ⟨u5, rfl, hown, hB⟩
theorem pow_le8 {k : Nat} (hk : k ≤ 8) : 2 ^ k ≤ 140737488355327 := Nat.le_trans (Nat.pow_le_pow_right (by decide) hk) (by decide)
theorem rMade (l : List Raw) (k : Nat) (hk : k ≤ 8) (v : Value) (N : Nat) (w : World) (hl : RawS 0 N w v l) (hN : N ≤ w.heap.size) :
    Calls Tryd.prog 28 #[v, .int .i64 k] w (RetR (ExtA (mdT l (2 ^ k))) w) :=
  (rMadeO l k hk v N w hl hN).mono fun e w' ⟨v, h1, h2, h3⟩ => ⟨v, h1, exts_of_own h2 (mdT_length l _) (pow_le8 hk) (Nat.le_refl _), h3⟩
theorem rMadeW (l : List Raw) (k : Nat) (hk : k ≤ 8) (v : Value) (N : Nat) (w : World) (hl : RawS 0 N w v l) (hN : N ≤ w.heap.size) :
    Calls Tryd.prog 28 #[v, .int .i64 k] w (RetR (OwnX (mdT l (2 ^ k))) w) :=
  (rMadeO l k hk v N w hl hN).mono fun e w' ⟨v, h1, h2, h3⟩ => ⟨v, h1, ownX_of_own h2 (mdT_length l _) (pow_le8 hk), h3⟩
end Go.Proofs.YtipaecageimnnaaDoor
