/-
  Powers by the reference of package ext, by contract; the inverse of zero.
-/
import Derived.Test.YtnddfeidggcplaaGreatMp32
import Derived.Test.YtnddfeidggcplaaGreatRiv
namespace Go.Proofs.YtnddfeidggcplaaGreat
open Go.RowKit

theorem xp_sum (x : E) (a : Nat) : ∀ b, xp x (a + b) = xp x a * xp x b
  | 0 => (E.mul_one _).symm
  | b + 1 => by
    show x * xp x (a + b) = xp x a * (x * xp x b)
    rw [xp_sum x a b, ← E.mul_assoc, ← E.mul_assoc, E.mul_comm x]
theorem xp_bit (x : E) (k t : Nat) : xp x (k / 2 ^ t) = if k / 2 ^ t % 2 = 1 then xp x (k / 2 ^ (t + 1)) * xp x (k / 2 ^ (t + 1)) * x else xp x (k / 2 ^ (t + 1)) * xp x (k / 2 ^ (t + 1)) := by
  have e : k / 2 ^ (t + 1) = k / 2 ^ t / 2 := by rw [Nat.pow_succ, Nat.div_div_eq_div_mul]
  rw [e]
  generalize k / 2 ^ t = q
  rw [← xp_sum]
  split
  · have : q = q / 2 + q / 2 + 1 := by omega
    conv => lhs; rw [this]
    exact E.mul_comm _ _
  · have : q = q / 2 + q / 2 := by omega
    conv => lhs; rw [this]
theorem en_attestor_attestorref02_Pow : ∀ args w, (callFunc 65 args).run Tryz.prog w = .ok (.enter 65 args) w := enters_of Tryz.func65 (by kernel_rfl) rfl
set_option maxRecDepth 100000 in
set_option maxHeartbeats 2000000 in
theorem xPow (x : E) (k : Nat) (hk : k < 18446744073709551616) (w : World) : Calls Tryz.prog 65 #[ev x, .int .u64 (k : Int)] w (Ret (ev (xp x k)) w) := by
  unfold ev
  go_enter Tryz.func65, Tryz.ntmps65
  go_upto_region 1 with (fail)
  refine wp_stk2 fun W hB hz b2 b4 => ?_
  have hWs := hz.out
  go_wp2_with fail
  refine (xOne W).mono ?_
  rintro e w2 ⟨rfl, hb2⟩
  unfold ev
  replace b2 := b2.keep hb2
  replace b4 := b4.keep hb2
  have h2 := hB.trans (hb2.mono hB.size)
  have hs2 := hb2.size
  have hk0 : xp x (k / 2 ^ 64) = 1 := by rw [show k / 2 ^ 64 = 0 by omega]; rfl
  go_upto_region 2 with (fail)
  refine wp_stk1 fun V hV hzV b5 => ?_
  obtain ⟨g5, hg5⟩ : ∃ g, g = w2.heap.size := ⟨_, rfl⟩
  rw [← hg5] at b5 ⊢
  have b5' : Blk V g5 30 #[.int .u64 (fv (xp x (k / 2 ^ 64)).a), .int .u64 (fv (xp x (k / 2 ^ 64)).b)] := by rw [hk0]; exact b5
  replace b2 := b2.keep hV
  replace b4 := b4.keep hV
  have hV2 := h2.trans (hV.mono h2.size)
  have hg5' : w2.heap.size ≤ g5 := by omega
  clear hz hzV hk0 b5 hV hB hb2 hg5
  go_wp2_with fail
  go_loopw [6] (fun i wr => ∃ (j : Nat) (z : Int), j ≤ 64 ∧ z = (j : Int) - 1 ∧ i = .int .i64 z ∧ Blk wr g5 30 #[.int .u64 (fv (xp x (k / 2 ^ j)).a), .int .u64 (fv (xp x (k / 2 ^ j)).b)] ∧ Blk wr w.heap.size 30 #[.int .u64 (fv x.a), .int .u64 (fv x.b)] ∧ Blk wr (w.heap.size + 1) 30 #[.int .u64 0, .int .u64 0] ∧ Below w.heap.size w wr) (fun i _ => (intOf i + 1).toNat)
  case atStart => exact ⟨64, 63, by decide, rfl, rfl, b5', b2, b4, hV2⟩
  case round =>
    obtain ⟨j, z, hj, hz, rfl, b5, b2, b4, hBr⟩ := hrel
    by_cases hj0 : j = 0
    · subst hj0
      obtain rfl : z = -1 := by omega
      clear hz
      rw [show k / 2 ^ 0 = k by simp] at b5
      have e5 := b5.cell
      have e4 := b4.frozen
      have e4' := b4.cell
      generalize xp x k = y at *
      have hge : ¬ ((0 : Int) ≤ -1) := by decide
      clear hk
      go_wp2_with fail
      refine bodyPost_ret (v := .agg #[.int .u64 (fv (y).a), .int .u64 (fv (y).b)]) (by simp [results, Tryz.results65, go_sem, e4']) rfl ⟨rfl, below_set2 hBr (by omega)⟩
    · obtain ⟨t, rfl⟩ : ∃ t, j = t + 1 := ⟨j - 1, by omega⟩
      obtain rfl : z = (t : Int) := by omega
      clear hz
      have hbit := Lib.hid (xp_bit x k t)
      have hdv : k / 2 ^ t < 18446744073709551616 := Nat.lt_of_le_of_lt (Nat.div_le_self _ _) hk
      have hand := and_one (k / 2 ^ t) hdv
      rw [show (((k / 2 ^ t : Nat)) : Int) = (k : Int) / 2 ^ t by simp] at hand
      have e5 := b5.cell
      generalize xp x (k / 2 ^ (t + 1)) = y at *
      generalize hyn : xp x (k / 2 ^ t) = yn at *
      have HY := Lib.hid hyn
      have HK := Lib.hid hk
      have hge : (0 : Int) ≤ (t : Int) := by omega
      clear hyn hdv hk
      go_wp2_with fail
      refine (xMul y y wr).mono ?_
      rintro e w5 ⟨he, hb5⟩
      unfold ev at he
      subst he
      replace b5 := b5.keep hb5
      replace b2 := b2.keep hb5
      replace b4 := b4.keep hb5
      replace hBr := hBr.trans (hb5.mono hBr.size)
      clear e5 hb5
      have e5 := b5.cell
      have e5f := b5.frozen
      go_upto_region 6 with (fail)
      refine set2 (M := fun W => Code.wp _ _ _ _ W) b5 fun X hX bX => ?_
      replace b2 := hX.blk b2 (by omega)
      replace b4 := hX.blk b4 (by omega)
      replace hBr := below_put hBr hX (by omega)
      clear b5 e5 e5f hX
      have b5 : Blk X g5 30 #[.int .u64 (fv (y * y).a), .int .u64 (fv (y * y).b)] := bX
      clear bX
      by_cases hb : k / 2 ^ t % 2 = 1
      · rw [decide_eq_true hb] at hand
        have HB := Lib.hid (show yn = y * y * x by rw [hbit.out, if_pos hb])
        clear hb
        generalize y * y = yy at *
        have e5 := b5.cell
        have e2 := b2.cell
        go_wp2_with fail
        refine (xMul yy x X).mono ?_
        rintro e w6 ⟨he, hb6⟩
        unfold ev at he
        subst he
        replace b5 := b5.keep hb6
        replace b2 := b2.keep hb6
        replace b4 := b4.keep hb6
        replace hBr := hBr.trans (hb6.mono hBr.size)
        clear e5 e2 hb6
        have e5 := b5.cell
        have e5f := b5.frozen
        go_upto_region 4 with (fail)
        refine set2 (M := fun W => Code.wp _ _ _ _ W) b5 fun X3 hX bX => ?_
        replace b2 := hX.blk b2 (by omega)
        replace b4 := hX.blk b4 (by omega)
        replace hBr := below_put hBr hX (by omega)
        clear b5 e5 e5f hX
        have b5 : Blk X3 g5 30 #[.int .u64 (fv yn.a), .int .u64 (fv yn.b)] := by rw [HB.out]; exact bX
        go_wp2_with fail
        exact ⟨⟨t, (t : Int) - 1, by omega, rfl, by go_num, by rw [HY.out]; exact b5, b2, b4, hBr⟩, by simp [intOf]⟩
      · rw [decide_eq_false hb] at hand
        have HB := Lib.hid (show yn = y * y by rw [hbit.out, if_neg hb])
        clear hb
        go_wp2_with fail
        exact ⟨⟨t, (t : Int) - 1, by omega, rfl, by go_num, by rw [HY.out, HB.out]; exact b5, b2, b4, hBr⟩, by simp [intOf]⟩
set_option maxRecDepth 100000 in
set_option maxHeartbeats 1000000 in
theorem xInv0 (w : World) : Calls Tryz.prog 49 #[ev 0] w (Ret (.tuple #[ev 0, .int .i64 3]) w) := by
  have HZ := Lib.hid (show ∀ W1, Calls Tryz.prog 88 #[ev 0] W1 (Ret (.bool true) W1) from fun W1 => by
    have := xIsZero 0 W1
    rwa [decide_eq_true rfl] at this)
  have e0 : fv (0 : E).a = 0 := fv0
  have e1 : fv (0 : E).b = 0 := fv0
  unfold ev at *
  rw [e0, e1] at *
  clear e0 e1
  go_enter Tryz.func49, Tryz.ntmps49
  go_wp2_with fail
  refine calls_stk2 fun W hB hz b1 b2 => ?_
  refine (HZ.out _).mono ?_
  rintro e w2 ⟨rfl, hb⟩
  replace b1 := b1.keep hb
  replace b2 := b2.keep hb
  replace hB := hB.trans (hb.mono hB.size)
  have e2 := b2.cell
  have e2f := b2.frozen
  go_wp2_with fail
  refine bodyPost_ret (v := .tuple #[.agg #[.int .u64 0, .int .u64 0], .int .i64 3]) (by simp [results, Tryz.results49, go_sem, e2]) rfl ⟨rfl, below_set2 hB (by omega)⟩
end Go.Proofs.YtnddfeidggcplaaGreat
