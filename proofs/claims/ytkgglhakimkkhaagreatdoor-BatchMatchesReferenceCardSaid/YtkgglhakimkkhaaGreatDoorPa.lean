/-
  Integers as elements, and the weights of the nodes, in packages field, ext and poly, by contract.
  The value of the polynomial through values at 0, 1, .. , as package poly reckons it, by contract.
-/
import Derived.Test.YtkgglhakimkkhaaGreatDoorFi
namespace Go.Proofs.YtkgglhakimkkhaaGreatDoor
open Go.RowKit

def rngL (n : Nat) (f : Nat → E) : List E := (List.range n).map f
theorem rngL_length (n : Nat) (f : Nat → E) : (rngL n f).length = n := by simp [rngL]
theorem rngL_get (n : Nat) (f : Nat → E) (k : Nat) (h : k < n) : (rngL n f)[k]? = some (f k) := by simp [rngL, h]
theorem rngL_congr (n : Nat) (f g : Nat → E) (h : ∀ j, j < n → f j = g j) : rngL n f = rngL n g := by
  unfold rngL
  exact List.map_congr_left fun j hj => h j (List.mem_range.1 hj)
theorem rngL_set (n : Nat) (f : Nat → E) (k : Nat) (v : E) : (rngL n f).set k v = rngL n (fun j => if j = k then v else f j) := by
  apply List.ext_getElem?
  intro j
  by_cases hj : j < n
  · rw [List.getElem?_set, rngL_get n (fun j => if j = k then v else f j) j hj]
    by_cases hjk : k = j
    · subst hjk; simp [rngL_length, hj]
    · rw [if_neg hjk, rngL_get n f j hj, if_neg (fun e => hjk e.symm)]
  · rw [List.getElem?_eq_none (by rw [List.length_set, rngL_length]; omega), List.getElem?_eq_none (by rw [rngL_length]; omega)]
theorem rngL_zero (n : Nat) : List.replicate n (0 : E) = rngL n (fun _ => 0) := by
  apply List.ext_getElem?
  intro j
  by_cases hj : j < n
  · rw [rngL_get n _ j hj]; simp [hj]
  · rw [List.getElem?_eq_none (by simpa using hj), List.getElem?_eq_none (by rw [rngL_length]; omega)]
set_option maxRecDepth 100000 in
set_option maxHeartbeats 400000 in
theorem fFromInt (x : Int) (h1 : -9223372036854775808 ≤ x) (h2 : x ≤ 9223372036854775807) (w : World) : Calls Tryz.prog 72 #[.int .i64 x] w (Ret (.int .u64 (fv (fz x))) w) := by
  by_cases h : x < 0
  · have e1 : fv (fz (-x)) = -x := by rw [fv_fz]; omega
    have e2 : 0 - fz (-x) = fz x := by apply fv_inj; rw [fv_sub, fv_fz, fv_fz, fv_zero]; omega
    have c1 := fun w => fRed (-x) (by omega) (by omega) w
    have c2 := fun w => fNeg (fz (-x)) w
    rw [show (-x) % 18446744069414584321 = -x by omega] at c1
    rw [e1, e2] at c2
    have C1 := Lib.hid c1
    have C2 := Lib.hid c2
    have hw1 : IntKind.u64.wrap x = x + 18446744073709551616 := by rw [IntKind.wrap_u64]; omega
    have hw2 : IntKind.u64.wrap (-(x + 18446744073709551616)) = -x := by rw [IntKind.wrap_u64]; omega
    clear c1 c2 e1 e2
    go_enter Tryz.func72, Tryz.ntmps72
    go_wp2_with fail
    refine (C1.out _).mono ?_
    rintro e w' ⟨rfl, rfl⟩
    go_wp2_with fail
    refine (C2.out _).mono ?_
    rintro e w' ⟨rfl, rfl⟩
    go_wp2_with fail
    go_ret
    exact ⟨rfl, Below.refl _ _⟩
  · have e1 : fv (fz x) = x := by rw [fv_fz]; omega
    rw [e1]
    have hw1 : IntKind.u64.wrap x = x := by rw [IntKind.wrap_u64]; omega
    clear e1
    go_enter Tryz.func72, Tryz.ntmps72
    go_wp2_with fail
    go_ret
    exact ⟨rfl, Below.refl _ _⟩
set_option maxRecDepth 100000 in
set_option maxHeartbeats 400000 in
theorem eFromBase (c : Fp) (w : World) : Calls Tryz.prog 71 #[.int .u64 (fv c)] w (Ret (ev (eb c)) w) := by
  unfold ev eb
  go_enter Tryz.func71, Tryz.ntmps71
  go_wp2
  refine bodyPost_ret (v := .agg #[.int .u64 (fv c), .int .u64 (fv 0)]) (by simp [results, Tryz.results71, go_sem, fv0]) rfl ⟨rfl, ?_⟩
  exact (Below.refl _ _).alloc (Nat.le_refl _) _
set_option maxRecDepth 100000 in
set_option maxHeartbeats 400000 in
theorem eFromInt (x : Int) (h1 : -9223372036854775808 ≤ x) (h2 : x ≤ 9223372036854775807) (w : World) : Calls Tryz.prog 33 #[.int .i64 x] w (Ret (ev (intE x)) w) := by
  unfold ev
  go_enter Tryz.func33, Tryz.ntmps33
  go_wp2_with fail
  refine calls_stk1 fun W hB hz b1 => ?_
  refine (fFromInt x h1 h2 W).mono ?_
  rintro e w2 ⟨rfl, hb⟩
  go_wp2_with fail
  refine (eFromBase (fz x) w2).mono ?_
  rintro e w3 ⟨he, hb3⟩
  unfold ev at he
  subst he
  have b3 := (b1.keep hb).keep hb3
  have e1 := b3.cell
  have e2 := b3.frozen
  go_wp2_with fail
  refine bodyPost_ret (v := .agg #[.int .u64 (fv (intE x).a), .int .u64 (fv (intE x).b)]) (by simp [results, Tryz.results33, go_sem, e1]; exact ⟨rfl, rfl⟩) rfl ⟨rfl, ?_⟩
  have hB2 := hB.trans (hb.mono hB.size)
  exact below_set2 (hB2.trans (hb3.mono hB2.size)) (Nat.le_refl _)
set_option maxRecDepth 100000 in
set_option maxHeartbeats 400000 in
theorem gNode (x : Int) (h1 : -9223372036854775808 ≤ x) (h2 : x ≤ 9223372036854775807) (w : World) : Calls Tryz.prog 130 #[.int .i64 x] w (Ret (ev (intE x)) w) := by
  unfold ev
  go_enter Tryz.func130, Tryz.ntmps130
  go_wp2_with fail
  refine calls_stk1 fun W hB hz b1 => ?_
  refine (eFromInt x h1 h2 W).mono ?_
  rintro e w2 ⟨he, hb⟩
  unfold ev at he
  subst he
  have b2 := b1.keep hb
  have e1 := b2.cell
  have e2 := b2.frozen
  generalize intE x = y at *
  go_wp2_with fail
  refine bodyPost_ret (v := .agg #[.int .u64 (fv (y).a), .int .u64 (fv (y).b)]) (by simp [results, Tryz.results130, go_sem, e1]) rfl ⟨rfl, ?_⟩
  exact below_set2 (hB.trans (hb.mono hB.size)) (Nat.le_refl _)
theorem eInvA (x : E) (w : World) : Calls Tryz.prog 139 #[ev x] w (fun e w' => ∃ c : Int, e = .returned (.tuple #[ev (einv x), .int .i64 c]) ∧ Below w.heap.size w w') := by
  by_cases h : x = 0
  · subst h
    refine (eInv0 w).mono ?_
    rintro e w' ⟨rfl, hb⟩
    exact ⟨3, by rw [einv_zero], hb⟩
  · refine (eInv x h w).mono ?_
    rintro e w' ⟨rfl, hb⟩
    exact ⟨0, rfl, hb⟩
theorem difK_same (i k : Nat) (h : k = i) : difK i (k + 1) = difK i k := by rw [difK, if_pos h]
theorem difK_next (i k : Nat) (h : k ≠ i) : difK i (k + 1) = difK i k * intE ((i : Int) - k) := by rw [difK, if_neg h]
theorem intE_one : intE 1 = 1 := rfl
def wgtL (n j : Nat) : Nat → E := fun k => if k < j then wgtE n k else 0
theorem wgtL_zero (n : Nat) : rngL n (wgtL n 0) = List.replicate n 0 := by
  rw [rngL_zero]; exact rngL_congr _ _ _ fun j _ => by unfold wgtL; rw [if_neg (by omega)]
theorem wgtL_set (n j : Nat) : (rngL n (wgtL n j)).set j (wgtE n j) = rngL n (wgtL n (j + 1)) := by
  rw [rngL_set]
  refine rngL_congr _ _ _ fun k _ => ?_
  unfold wgtL
  by_cases h1 : k = j
  · subst h1; rw [if_pos rfl, if_pos (by omega)]
  · rw [if_neg h1]
    by_cases h2 : k < j
    · rw [if_pos h2, if_pos (by omega)]
    · rw [if_neg h2, if_neg (by omega)]
theorem wgtL_all (n : Nat) : rngL n (wgtL n n) = rngL n (wgtE n) := rngL_congr _ _ _ fun j hj => by unfold wgtL; rw [if_pos hj]
set_option maxRecDepth 100000 in
set_option maxHeartbeats 2000000 in
theorem gWeightsP (n : Nat) (hn : n ≤ 1000) (w : World) : Calls Tryz.prog 131 #[.int .i64 (n : Int)] w (RetR (ExtA (rngL n (wgtE n))) w) := by
  have hmk := mk_ext n (by omega)
  have HMK := Lib.hid hmk
  clear hmk
  go_enter Tryz.func131, Tryz.ntmps131
  go_wp2_with (simp only [HMK.out])
  refine wp_stk1 fun W hB hz b1 => ?_
  have hW := hz.out
  clear hz HMK
  rw [← wgtL_zero] at b1
  go_loopw [10] (fun i wr => ∃ j : Nat, j ≤ n ∧ i = .int .i64 j ∧ Blk wr w.heap.size 26 ((rngL n (wgtL n j)).flatMap ec).toArray ∧ Below w.heap.size w wr) (fun i _ => n - (intOf i).toNat)
  case atStart => exact ⟨0, Nat.zero_le _, rfl, b1, hB⟩
  case round =>
    obtain ⟨j, hj, rfl, bw, hBr⟩ := hrel
    clear b1 hB
    have hgl := bw.lt
    by_cases hlt : j < n
    · obtain ⟨wo, hwo⟩ : ∃ wo, wo = wr := ⟨_, rfl⟩
      subst hwo
      go_wp2_with fail
      refine (gNode 1 (by omega) (by omega) wo).mono ?_
      rintro e w2 ⟨he, hb2⟩
      rw [intE_one] at he
      unfold ev at he
      subst he
      go_wp2_with fail
      refine wp_stk1 fun X hBX hzX bp => ?_
      have hX := hzX.out
      have hs2 := hb2.size
      have hb2X := hb2.trans (hBX.mono hs2)
      have bwX := bw.keep hb2X
      clear hzX hBX hb2
      obtain ⟨Bp, hBp⟩ : ∃ B, B = w2.heap.size := ⟨_, rfl⟩
      rw [← hBp] at bp hX hs2 ⊢
      clear hBp
      go_loopw [15] (fun k wr => ∃ i : Nat, i ≤ n ∧ k = .int .i64 i ∧ Blk wr Bp 26 #[.int .u64 (fv (difK j i).a), .int .u64 (fv (difK j i).b)] ∧ Below Bp X wr) (fun k _ => n - (intOf k).toNat)
      case atStart => exact ⟨0, Nat.zero_le _, rfl, bp, Below.refl _ _⟩
      case round =>
        obtain ⟨i, hi, rfl, bv, hBv⟩ := hrel
        clear bp
        have hvl := bv.lt
        by_cases hil : i < n
        · by_cases hij : i = j
          · subst hij
            rw [← difK_same i i rfl] at bv
            go_wp2_with fail
            exact ⟨⟨i + 1, by omega, by go_num, bv, hBv⟩, by simp [intOf]; omega⟩
          · have HD := Lib.hid (difK_next j i hij)
            have hne : ((i : Int) == (j : Int)) = false := by simp; omega
            have f1 := gw_blk bv
            generalize difK j i = m at *
            go_wp2_with fail
            refine wp_region_rg 6 [(4, Spec.val (.agg #[.int .u64 (fv (intE ((j : Int) - i)).a), .int .u64 (fv (intE ((j : Int) - i)).b)])), (5, Spec.val (.agg #[.int .u64 (fv (m * intE ((j : Int) - i)).a), .int .u64 (fv (m * intE ((j : Int) - i)).b)]))] (by kernel_rfl) (by kernel_rfl) (by kernel_rfl) trivial ?_
            iterate 4 (refine rg_det rfl rfl rfl (fun K hK => ?_); go_big_quiet_op; refine hK _ ?_; clear hK K)
            refine rg_val rfl rfl (fun W1 hW1 hF => step_callv en_attestor_poly_node (gNode ((j : Int) - i) (by omega) (by omega) W1) rfl rfl) ?_
            intro a' ha
            simp only [Act.put, List.setIfInBounds_toArray, List.set_cons_succ, List.set_cons_zero] at ha
            subst ha
            refine rg_val rfl rfl (fun W1 hW1 hF => step_callv en_attestor_ext_Mul (eMul m (intE ((j : Int) - i)) W1) rfl rfl) ?_
            intro a' ha
            simp only [Act.put, List.setIfInBounds_toArray, List.set_cons_succ, List.set_cons_zero] at ha
            subst ha
            refine rg_nil (fun w' hw' hF => ?_)
            obtain ⟨z, rfl⟩ := hw'
            simp only [List.drop_succ_cons, List.drop_zero]
            have bz := bv.gw z
            have e1 := bz.frozen
            have e2 := bz.cell
            clear hF f1
            rw [← HD.out]
            generalize hq : difK j (i + 1) = q at *
            have HQ := Lib.hid hq
            clear hq
            go_wp2_with fail
            refine ⟨⟨i + 1, by omega, by go_num, ?_, below_set2 (hBv.trans (z.h.mono (by omega))) (Nat.le_refl _)⟩, by simp [intOf]; omega⟩
            rw [HQ.out]
            exact blk_set2 bz
        · obtain rfl : i = n := by omega
          have e1 := bv.cell
          have bw2 := bwX.below hBv (by omega)
          go_wp2_with fail
          refine (eInvA (difK j i) _).mono ?_
          rintro e w5 ⟨c, he, hb5⟩
          rw [show einv (difK j i) = wgtE i j from rfl] at he
          unfold ev at he
          subst he
          have bw3 := bw2.keep hb5
          have hB5 := (hBr.trans (hb2X.mono hBr.size)).trans ((hBv.mono (by omega)).trans (hb5.mono (by have := hBv.size; omega)))
          have e2 := bw3.frozen
          obtain ⟨s1, s2⟩ := blk_cellE bw3 (rngL_get i (wgtL i j) j hlt)
          have HS := Lib.hid (wgtL_set i j)
          have hll : j < (rngL i (wgtL i j)).length := by rw [rngL_length]; exact hlt
          have HLL := Lib.hid hll
          clear e1 hll bw2 bwX bv
          generalize wgtE i j = y at *
          go_wp2_with fail
          refine ⟨⟨j + 1, by omega, by go_num, ?_, below_setE hB5 (Nat.le_refl _)⟩, by simp [intOf]; omega⟩
          rw [← HS.out]
          exact blk_setE bw3 j y HLL.out
    · obtain rfl : j = n := by omega
      rw [wgtL_all] at bw
      go_wp2_with fail
      go_ret
      exact ⟨_, rfl, exts_of_blk bw (rngL_length _ _) (by omega) (Nat.le_refl _) hgl, hBr⟩
end Go.Proofs.YtkgglhakimkkhaaGreatDoor
namespace Go.Proofs.YtkgglhakimkkhaaGreatDoor
open Go.RowKit

theorem step_mkE {o : Oper} {a : Act} {w : World} {x y : Operand} (n : Nat) (hn : n ≤ 1000000) (ho : o.op = .makeSlice 22 x y) (hx : a.eval x = .int .i64 (n : Int)) (hy : a.eval y = .int .i64 (n : Int)) :
    stepAt Tryz.prog o a w (fun v w' => Lit 26 n ((List.replicate n (0 : E)).flatMap ec).toArray w.heap.size w'.heap.size v w' ∧ Below w.heap.size w w') := by
  unfold stepAt execOp
  simp only [ho, hx, hy, Sem.run_bind, mk_ext n hn w, Result.andThen_ok]
  exact ⟨⟨rfl, by simp only [World.size_alloc]; omega, Blk.new _ _ _⟩, (Below.refl _ _).alloc (Nat.le_refl _) _⟩
def befL (x : E) (i : Nat) : Nat → E := fun k => if k ≤ i then befE x k else 0
def aftL (x : E) (n i : Nat) : Nat → E := fun k => if i ≤ k then aftK x n (n - k) else 0
theorem befL_first (x : E) (n : Nat) : (List.replicate (n + 1) (0 : E)).set 0 1 = rngL (n + 1) (befL x 0) := by
  rw [rngL_zero, rngL_set]
  refine rngL_congr _ _ _ fun j _ => ?_
  unfold befL
  by_cases h : j = 0
  · subst h; rfl
  · rw [if_neg h, if_neg (by omega)]
theorem befL_set (x : E) (n i : Nat) : (rngL (n + 1) (befL x i)).set (i + 1) (befE x (i + 1)) = rngL (n + 1) (befL x (i + 1)) := by
  rw [rngL_set]
  refine rngL_congr _ _ _ fun j _ => ?_
  unfold befL
  by_cases h : j = i + 1
  · subst h; rw [if_pos rfl, if_pos (Nat.le_refl _)]
  · rw [if_neg h]
    by_cases h2 : j ≤ i
    · rw [if_pos h2, if_pos (by omega)]
    · rw [if_neg h2, if_neg (by omega)]
theorem aftL_first (x : E) (n : Nat) : (List.replicate (n + 1) (0 : E)).set n 1 = rngL (n + 1) (aftL x n n) := by
  rw [rngL_zero, rngL_set]
  refine rngL_congr _ _ _ fun j hj => ?_
  unfold aftL
  by_cases h : j = n
  · subst h; rw [if_pos rfl, if_pos (Nat.le_refl _), Nat.sub_self]; rfl
  · rw [if_neg h, if_neg (by omega)]
theorem aftL_set (x : E) (n i : Nat) (hi : i < n) : (rngL (n + 1) (aftL x n (i + 1))).set i (aftK x n (n - i)) = rngL (n + 1) (aftL x n i) := by
  rw [rngL_set]
  refine rngL_congr _ _ _ fun j hj => ?_
  unfold aftL
  by_cases h : j = i
  · subst h; rw [if_pos rfl, if_pos (Nat.le_refl _)]
  · rw [if_neg h]
    by_cases h2 : i + 1 ≤ j
    · rw [if_pos h2, if_pos (by omega)]
    · rw [if_neg h2, if_neg (by omega)]
theorem aftK_step (x : E) (n i : Nat) (hi : i < n) : aftK x n (n - i) = aftK x n (n - (i + 1)) * (x - intE (i : Int)) := by
  rw [show n - i = n - (i + 1) + 1 by omega, aftK, show n - 1 - (n - (i + 1)) = i by omega]
  rfl
theorem befE_step (x : E) (i : Nat) : befE x (i + 1) = befE x i * (x - intE (i : Int)) := rfl
structure AtS (w : World) (n gb ga : Nat) (x : E) (wr : World) (fb fa : Nat → E) : Prop where
  bb : Blk wr gb 26 ((rngL (n + 1) fb).flatMap ec).toArray
  ba : Blk wr ga 26 ((rngL (n + 1) fa).flatMap ec).toArray
  bx : Blk wr w.heap.size 26 #[.int .u64 (fv x.a), .int .u64 (fv x.b)]
  br : Blk wr (w.heap.size + 1) 26 #[.int .u64 0, .int .u64 0]
  hB : Below w.heap.size w wr
structure AtC (w : World) (gb ga : Nat) : Prop where
  h1 : w.heap.size + 2 ≤ gb
  h2 : w.heap.size + 2 ≤ ga
  h3 : gb ≠ ga
section
variable {w wr X : World} {n gb ga : Nat} {x : E} {fb fa f' : Nat → E}
theorem AtS.keep (h : AtS w n gb ga x wr fb fa) (hb : Below wr.heap.size wr X) : AtS w n gb ga x X fb fa := ⟨h.bb.keep hb, h.ba.keep hb, h.bx.keep hb, h.br.keep hb, h.hB.trans (hb.mono h.hB.size)⟩
theorem AtS.setB (h : AtS w n gb ga x wr fb fa) (c : AtC w gb ga) (k : Nat) (v : E) (hk : k < n + 1) (e : (rngL (n + 1) fb).set k v = rngL (n + 1) f') : AtS w n gb ga x ((wr.setCell ⟨gb, k * 2, none⟩ (.int .u64 (fv v.a))).setCell ⟨gb, k * 2 + 1, none⟩ (.int .u64 (fv v.b))) f' fa :=
  ⟨by rw [← e]; exact blk_setE h.bb k v (by rw [rngL_length]; exact hk), blk_farE h.ba (by have := c.h3; omega), blk_farE h.bx (by have := c.h1; omega), blk_farE h.br (by have := c.h1; omega), below_setE h.hB (by have := c.h1; omega)⟩
theorem AtS.setA (h : AtS w n gb ga x wr fb fa) (c : AtC w gb ga) (k : Nat) (v : E) (hk : k < n + 1) (e : (rngL (n + 1) fa).set k v = rngL (n + 1) f') : AtS w n gb ga x ((wr.setCell ⟨ga, k * 2, none⟩ (.int .u64 (fv v.a))).setCell ⟨ga, k * 2 + 1, none⟩ (.int .u64 (fv v.b))) fb f' :=
  ⟨blk_farE h.bb (by have := c.h3; omega), by rw [← e]; exact blk_setE h.ba k v (by rw [rngL_length]; exact hk), blk_farE h.bx (by have := c.h2; omega), blk_farE h.br (by have := c.h2; omega), below_setE h.hB (by have := c.h2; omega)⟩
theorem AtS.cellB (h : AtS w n gb ga x wr fb fa) (k : Nat) (hk : k < n + 1) : wr.cell? ⟨gb, k * 2, none⟩ = some (.int .u64 (fv (fb k).a)) ∧ wr.cell? ⟨gb, k * 2 + 1, none⟩ = some (.int .u64 (fv (fb k).b)) := blk_cellE h.bb (rngL_get (n + 1) fb k hk)
theorem AtS.cellA (h : AtS w n gb ga x wr fb fa) (k : Nat) (hk : k < n + 1) : wr.cell? ⟨ga, k * 2, none⟩ = some (.int .u64 (fv (fa k).a)) ∧ wr.cell? ⟨ga, k * 2 + 1, none⟩ = some (.int .u64 (fv (fa k).b)) := blk_cellE h.ba (rngL_get (n + 1) fa k hk)
end
set_option maxRecDepth 100000 in
set_option maxHeartbeats 4000000 in
theorem gAt (v : List E) (x : E) (hn : v.length ≤ 1000) (vv : Value) (lo hi : Nat) (w : World) (h : ExtS lo hi w vv v) :
    Calls Tryz.prog 110 #[vv, ev x] w (Ret (ev (atE v x)) w) := by
  obtain ⟨A, cap, rfl⟩ := Rd.len h
  obtain ⟨n, hnl⟩ : ∃ n, n = v.length := ⟨_, rfl⟩
  have HH := Lib.hid h
  have HT := Lib.hid (show atK v x n = atE v x by rw [hnl]; rfl)
  rw [← hnl] at hn HH ⊢
  have HN := Lib.hid hnl
  clear h hnl
  unfold ev
  go_enter Tryz.func110, Tryz.ntmps110
  go_upto_region 2 with (fail)
  refine wp_stk2 fun W hB hz b1 b2 => ?_
  have hW := hz.out
  clear hz
  refine wp_region_rg 8 [(2, Spec.rel (Lit 26 (n + 1) ((List.replicate (n + 1) (0 : E)).flatMap ec).toArray) (LitF (n + 1))), (5, Spec.rel (Lit 26 (n + 1) ((List.replicate (n + 1) (0 : E)).flatMap ec).toArray) (LitF (n + 1)))] (by kernel_rfl) (by kernel_rfl) (by kernel_rfl) ⟨fit_lit, fit_lit, trivial⟩ ?_
  iterate 2 (refine rg_det rfl rfl rfl (fun K hK => ?_); go_big_quiet_op; refine hK _ ?_; clear hK K)
  refine rg_rel rfl rfl (fun W1 hW1 hF => step_mkE (n + 1) (by omega) rfl rfl rfl) ?_
  intro n2 m2 v2 hn2 hm2 hd2 hf2 a' ha
  simp only [Act.put, List.setIfInBounds_toArray, List.set_cons_succ, List.set_cons_zero] at ha
  subst ha
  obtain rfl := hf2
  iterate 2 (refine rg_det rfl rfl rfl (fun K hK => ?_); go_big_quiet_op; refine hK _ ?_; clear hK K)
  refine rg_rel rfl rfl (fun W1 hW1 hF => step_mkE (n + 1) (by omega) rfl rfl rfl) ?_
  intro n5 m5 v5 hn5 hm5 hd5 hf5 a' ha
  simp only [Act.put, List.setIfInBounds_toArray, List.set_cons_succ, List.set_cons_zero] at ha
  subst ha
  obtain rfl := hf5
  iterate 2 (refine rg_det rfl rfl rfl (fun K hK => ?_); go_big_quiet_op; refine hK _ ?_; clear hK K)
  refine rg_nil (fun w' hw' hF => ?_)
  obtain ⟨z, rfl⟩ := hw'
  simp only [List.drop_succ_cons, List.drop_zero]
  obtain ⟨hm2b, -, hl2, bb⟩ := end_last (end_init hF)
  obtain ⟨hm5b, -, hl5, ba⟩ := end_last hF
  have hdd := hd5 (n2, m2) (by simp)
  simp only at hdd
  have hC : AtC w n2 n5 := ⟨by omega, by omega, by omega⟩
  rw [rngL_zero] at bb ba
  have hS0 : AtS w n n2 n5 x z.w (fun _ => 0) (fun _ => 0) := ⟨bb, ba, b1.gw z, b2.gw z, hB.trans (z.h.mono hB.size)⟩
  clear hd2 hd5 hdd hF bb ba b1 b2 hB
  have HC := Lib.hid hC
  obtain ⟨Z, hZ⟩ : ∃ Z, Z = z.w := ⟨_, rfl⟩
  rw [← hZ] at hS0 ⊢
  clear hZ hm2b hm5b hl2 hl5 hm2 hm5 hn2 hn5 z hW hC
  have hne : n2 ≠ n5 := HC.out.h3
  go_wp2_with fail
  refine (gNode 1 (by omega) (by omega) Z).mono ?_
  rintro e w2 ⟨he, hb2⟩
  rw [intE_one] at he
  unfold ev at he
  subst he
  go_wp2_with fail
  refine (gNode 1 (by omega) (by omega) w2).mono ?_
  rintro e w3 ⟨he, hb3⟩
  rw [intE_one] at he
  unfold ev at he
  subst he
  have hS1 := (hS0.keep hb2).keep hb3
  obtain ⟨s1, s2⟩ := hS1.cellB 0 (by omega)
  obtain ⟨s3, s4⟩ := hS1.cellA n (by omega)
  have e1 := hS1.bb.frozen
  have e2 := hS1.ba.frozen
  have HF1 := Lib.hid (rngL_zero (n + 1) ▸ befL_first x n)
  have HF2 := Lib.hid (rngL_zero (n + 1) ▸ aftL_first x n)
  have hS2 := (hS1.setB HC.out 0 1 (by omega) HF1.out).setA HC.out n 1 (by omega) HF2.out
  simp only [Nat.zero_mul, Nat.zero_add] at s1 s2 hS2
  have HS2 := Lib.hid hS2
  clear hS0 hS1 hb2 hb3 hS2 HF1 HF2
  go_wp2_with fail
  go_loopw [29] (fun i wr => ∃ j : Nat, j ≤ n ∧ i = .int .i64 j ∧ AtS w n n2 n5 x wr (befL x j) (aftL x n n)) (fun i _ => n - (intOf i).toNat)
  case atStart => exact ⟨0, Nat.zero_le _, rfl, by simpa using HS2.out⟩
  case round =>
    obtain ⟨j, hj, rfl, hS⟩ := hrel
    clear HS2 s1 s2 s3 s4 e1 e2
    by_cases hlt : j < n
    · have hb1 := hS.cellB j (by omega)
      rw [show befL x j j = befE x j from if_pos (Nat.le_refl _)] at hb1
      have f1 := gw_cell hS.bb.lt hb1.1
      have f2 := gw_cell hS.bb.lt hb1.2
      have f3 := gw_blk hS.bx
      have HE := Lib.hid (befE_step x j)
      have HSet := Lib.hid (befL_set x n j)
      clear hb1
      generalize befE x j = m at *
      go_wp2_with fail
      refine wp_region_rg 13 [(9, Spec.val (.agg #[.int .u64 (fv (intE (j : Int)).a), .int .u64 (fv (intE (j : Int)).b)])), (10, Spec.val (.agg #[.int .u64 (fv (x - intE (j : Int)).a), .int .u64 (fv (x - intE (j : Int)).b)])), (11, Spec.val (.agg #[.int .u64 (fv (m * (x - intE (j : Int))).a), .int .u64 (fv (m * (x - intE (j : Int))).b)]))] (by kernel_rfl) (by kernel_rfl) (by kernel_rfl) trivial ?_
      iterate 9 (refine rg_det rfl rfl rfl (fun K hK => ?_); go_big_quiet_op; refine hK _ ?_; clear hK K)
      refine rg_val rfl rfl (fun W1 hW1 hF => step_callv en_attestor_poly_node (gNode (j : Int) (by omega) (by omega) W1) rfl rfl) ?_
      intro a' ha
      simp only [Act.put, List.setIfInBounds_toArray, List.set_cons_succ, List.set_cons_zero] at ha
      subst ha
      refine rg_val rfl rfl (fun W1 hW1 hF => step_callv en_attestor_ext_Sub (eSub x (intE (j : Int)) W1) rfl rfl) ?_
      intro a' ha
      simp only [Act.put, List.setIfInBounds_toArray, List.set_cons_succ, List.set_cons_zero] at ha
      subst ha
      refine rg_val rfl rfl (fun W1 hW1 hF => step_callv en_attestor_ext_Mul (eMul m (x - intE (j : Int)) W1) rfl rfl) ?_
      intro a' ha
      simp only [Act.put, List.setIfInBounds_toArray, List.set_cons_succ, List.set_cons_zero] at ha
      subst ha
      refine rg_det rfl rfl rfl (fun K hK => ?_)
      go_big_quiet_op
      refine hK _ ?_; clear hK K
      refine rg_nil (fun w' hw' hF => ?_)
      obtain ⟨z, rfl⟩ := hw'
      simp only [List.drop_succ_cons, List.drop_zero]
      have hSz := hS.keep z.h
      obtain ⟨s1, s2⟩ := hSz.cellB (j + 1) (by omega)
      have e1 := hSz.bb.frozen
      have hS3 := Lib.hid (hSz.setB HC.out (j + 1) _ (by omega) HSet.out)
      rw [HE.out] at hS3
      clear hF f1 f2 f3 hS hSz HE HSet
      go_wp2_with fail
      exact ⟨⟨j + 1, by omega, by go_num, hS3.out⟩, by simp [intOf]; omega⟩
    · obtain rfl : j = n := by omega
      go_wp2_with fail
      have hS0 := Lib.hid hS
      clear hS
      go_loopw [9] (fun i wr => ∃ i' : Nat, i' ≤ j ∧ i = .int .i64 ((i' : Int) - 1) ∧ AtS w j n2 n5 x wr (befL x j) (aftL x j i')) (fun i _ => (intOf i + 1).toNat)
      case atStart => exact ⟨j, Nat.le_refl _, rfl, hS0.out⟩
      case round =>
        obtain ⟨i, hi, rfl, hS⟩ := hrel
        clear hS0
        by_cases hi0 : 0 < i
        · obtain ⟨i, rfl⟩ : ∃ k, i = k + 1 := ⟨i - 1, by omega⟩
          rw [show ((i + 1 : Nat) : Int) - 1 = (i : Int) by omega]
          have hb1 := hS.cellA (i + 1) (by omega)
          rw [show aftL x j (i + 1) (i + 1) = aftK x j (j - (i + 1)) from if_pos (Nat.le_refl _)] at hb1
          have f1 := gw_cell hS.ba.lt hb1.1
          have f2 := gw_cell hS.ba.lt hb1.2
          have f3 := gw_blk hS.bx
          have HE := Lib.hid (aftK_step x j i (by omega))
          have HSet := Lib.hid (aftL_set x j i (by omega))
          clear hb1
          generalize aftK x j (j - (i + 1)) = m at *
          go_wp2_with fail
          refine wp_region_rg 13 [(9, Spec.val (.agg #[.int .u64 (fv (intE (i : Int)).a), .int .u64 (fv (intE (i : Int)).b)])), (10, Spec.val (.agg #[.int .u64 (fv (x - intE (i : Int)).a), .int .u64 (fv (x - intE (i : Int)).b)])), (11, Spec.val (.agg #[.int .u64 (fv (m * (x - intE (i : Int))).a), .int .u64 (fv (m * (x - intE (i : Int))).b)]))] (by kernel_rfl) (by kernel_rfl) (by kernel_rfl) trivial ?_
          iterate 9 (refine rg_det rfl rfl rfl (fun K hK => ?_); go_big_quiet_op; refine hK _ ?_; clear hK K)
          refine rg_val rfl rfl (fun W1 hW1 hF => step_callv en_attestor_poly_node (gNode (i : Int) (by omega) (by omega) W1) rfl rfl) ?_
          intro a' ha
          simp only [Act.put, List.setIfInBounds_toArray, List.set_cons_succ, List.set_cons_zero] at ha
          subst ha
          refine rg_val rfl rfl (fun W1 hW1 hF => step_callv en_attestor_ext_Sub (eSub x (intE (i : Int)) W1) rfl rfl) ?_
          intro a' ha
          simp only [Act.put, List.setIfInBounds_toArray, List.set_cons_succ, List.set_cons_zero] at ha
          subst ha
          refine rg_val rfl rfl (fun W1 hW1 hF => step_callv en_attestor_ext_Mul (eMul m (x - intE (i : Int)) W1) rfl rfl) ?_
          intro a' ha
          simp only [Act.put, List.setIfInBounds_toArray, List.set_cons_succ, List.set_cons_zero] at ha
          subst ha
          refine rg_det rfl rfl rfl (fun K hK => ?_)
          go_big_quiet_op
          refine hK _ ?_; clear hK K
          refine rg_nil (fun w' hw' hF => ?_)
          obtain ⟨z, rfl⟩ := hw'
          simp only [List.drop_succ_cons, List.drop_zero]
          have hSz := hS.keep z.h
          obtain ⟨s1, s2⟩ := hSz.cellA i (by omega)
          have e1 := hSz.ba.frozen
          have hS3 := Lib.hid (hSz.setA HC.out i _ (by omega) HSet.out)
          rw [HE.out] at hS3
          clear hF f1 f2 f3 hS hSz HE HSet
          go_wp2_with fail
          exact ⟨⟨i, by omega, by go_num, hS3.out⟩, by simp [intOf]⟩
        · obtain rfl : i = 0 := by omega
          rw [show ((0 : Nat) : Int) - 1 = -1 by omega]
          go_wp2_with fail
          obtain ⟨wo, hwo⟩ : ∃ wo, wo = wr := ⟨_, rfl⟩
          subst hwo
          refine calls_stk1 fun W6 hB6 hz6 b6 => ?_
          refine (gWeightsP j (by omega) W6).mono ?_
          rintro e w7 ⟨wv, rfl, tw, hb7⟩
          replace tw : ExtS W6.heap.size w7.heap.size w7 wv (rngL j (wgtE j)) := tw
          obtain ⟨A7, cap7, rfl⟩ := Rd.len tw
          rw [rngL_length] at *
          have hS7 := (hS.keep hB6).keep hb7
          have b7 := b6.keep hb7
          have h76 := b6.lt
          have hsb := hS.bb.lt
          have hsg := hS.ba.lt
          have hsr := hS.br.lt
          have h77 := hb7.size
          clear hS b6 hB6 hb7 hz6
          obtain ⟨Bs, hBs⟩ : ∃ B, B = wo.heap.size := ⟨_, rfl⟩
          obtain ⟨L, hL⟩ : ∃ L, L = W6.heap.size := ⟨_, rfl⟩
          rw [← hBs] at b7 h76 hsb hsg hsr ⊢
          rw [← hL] at h76 tw h77
          clear hBs hL
          go_wp2_with fail
          go_loopw [68] (fun i wr => ∃ k : Nat, k ≤ j ∧ i = .int .i64 k ∧ AtS w j n2 n5 x wr (befL x j) (aftL x j 0) ∧ Blk wr Bs 26 #[.int .u64 (fv (atK v x k).a), .int .u64 (fv (atK v x k).b)] ∧ ExtS L w7.heap.size wr (.slice A7 j cap7) (rngL j (wgtE j))) (fun i _ => j - (intOf i).toNat)
          case atStart => exact ⟨0, Nat.zero_le _, rfl, hS7, b7, tw⟩
          case round =>
            obtain ⟨k, hk, rfl, hS, bs, tw⟩ := hrel
            clear hS7 b7
            have hC2 := HC.out
            by_cases hkl : k < j
            · have hEv := Rd.keep HH.out hS.hB
              obtain ⟨g, off, cap', hv, q1, q2, q3, q4, q5⟩ := exts_cells hEv (by rw [← HN.out]; omega)
              rw [← HN.out] at hv
              cases hv
              obtain ⟨a, ha, had⟩ := get_of (l := v) (k := k) (by rw [← HN.out]; exact hkl)
              obtain ⟨d1, d2⟩ := q5 k a ha
              obtain ⟨g', off', cap'', hv, r1, r2, r3, r4, r5⟩ := exts_cells tw (by rw [rngL_length]; omega)
              rw [rngL_length] at hv r1
              cases hv
              obtain ⟨d3, d4⟩ := r5 k _ (rngL_get j (wgtE j) k hkl)
              obtain ⟨d5, d6⟩ := hS.cellB k (by omega)
              obtain ⟨d7, d8⟩ := hS.cellA (k + 1) (by omega)
              rw [show befL x j k = befE x k from if_pos hk] at d5 d6
              rw [show aftL x j 0 (k + 1) = aftK x j (j - (k + 1)) from if_pos (Nat.zero_le _)] at d7 d8
              have hK := atK_succ v x k
              rw [had, ← HN.out] at hK
              have HK := Lib.hid hK
              clear q5 r5 ha had hK hEv
              obtain ⟨wp, hwp⟩ : ∃ wp, wp = wr := ⟨_, rfl⟩
              subst hwp
              generalize wgtE j k = b at *
              generalize befE x k = c at *
              generalize aftK x j (j - (k + 1)) = d at *
              go_wp2_with fail
              refine wp_stk1 fun X hBX hzX bt => ?_
              have hX := hzX.out
              have hXs := hBX.size
              have f1 := gw_cell (Nat.lt_of_lt_of_le q4 hXs) ((hBX.cell (p := ⟨g, off + k * 2, none⟩) q4).trans d1)
              have f2 := gw_cell (Nat.lt_of_lt_of_le q4 hXs) ((hBX.cell (p := ⟨g, off + k * 2 + 1, none⟩) q4).trans d2)
              have f3 := gw_blk bt
              have f4 := gw_cell (Nat.lt_of_lt_of_le hS.bb.lt hXs) ((hBX.cell (p := ⟨n2, k * 2, none⟩) hS.bb.lt).trans d5)
              have f5 := gw_cell (Nat.lt_of_lt_of_le hS.bb.lt hXs) ((hBX.cell (p := ⟨n2, k * 2 + 1, none⟩) hS.bb.lt).trans d6)
              have f6 := gw_cell (Nat.lt_of_lt_of_le hS.ba.lt hXs) ((hBX.cell (p := ⟨n5, (k + 1) * 2, none⟩) hS.ba.lt).trans d7)
              have f7 := gw_cell (Nat.lt_of_lt_of_le hS.ba.lt hXs) ((hBX.cell (p := ⟨n5, (k + 1) * 2 + 1, none⟩) hS.ba.lt).trans d8)
              have bsX := bs.keep hBX
              have f8 := gw_blk bsX
              have hSX := hS.keep hBX
              have twX := Rd.keep tw hBX
              clear d1 d2 d3 d4 d5 d6 d7 d8 bs hS tw hzX
              generalize atK v x k = m at *
              refine wp_region_rg 19 [(6, Spec.val (.agg #[.int .u64 (fv (a * b).a), .int .u64 (fv (a * b).b)])), (16, Spec.val (.agg #[.int .u64 (fv (c * d).a), .int .u64 (fv (c * d).b)])), (17, Spec.val (.agg #[.int .u64 (fv (a * b * (c * d)).a), .int .u64 (fv (a * b * (c * d)).b)])), (18, Spec.val (.agg #[.int .u64 (fv (m + a * b * (c * d)).a), .int .u64 (fv (m + a * b * (c * d)).b)]))] (by kernel_rfl) (by kernel_rfl) (by kernel_rfl) trivial ?_
              iterate 6 (refine rg_det rfl rfl rfl (fun K hK => ?_); go_big_quiet_op; refine hK _ ?_; clear hK K)
              refine rg_val rfl rfl (fun W1 hW1 hF => step_callv en_attestor_ext_Mul (eMul a b W1) rfl rfl) ?_
              intro a' ha
              simp only [Act.put, List.setIfInBounds_toArray, List.set_cons_succ, List.set_cons_zero] at ha
              subst ha
              iterate 9 (refine rg_det rfl rfl rfl (fun K hK => ?_); go_big_quiet_op; refine hK _ ?_; clear hK K)
              refine rg_val rfl rfl (fun W1 hW1 hF => step_callv en_attestor_ext_Mul (eMul c d W1) rfl rfl) ?_
              intro a' ha
              simp only [Act.put, List.setIfInBounds_toArray, List.set_cons_succ, List.set_cons_zero] at ha
              subst ha
              refine rg_val rfl rfl (fun W1 hW1 hF => step_callv en_attestor_ext_Mul (eMul (a * b) (c * d) W1) rfl rfl) ?_
              intro a' ha
              simp only [Act.put, List.setIfInBounds_toArray, List.set_cons_succ, List.set_cons_zero] at ha
              subst ha
              refine rg_val rfl rfl (fun W1 hW1 hF => step_callv en_attestor_ext_Add (eAdd m (a * b * (c * d)) W1) rfl rfl) ?_
              intro a' ha
              simp only [Act.put, List.setIfInBounds_toArray, List.set_cons_succ, List.set_cons_zero] at ha
              subst ha
              refine rg_nil (fun w' hw' hF => ?_)
              obtain ⟨z, rfl⟩ := hw'
              simp only [List.drop_succ_cons, List.drop_zero]
              have bz := bsX.gw z
              have e1 := bz.frozen
              have e2 := bz.cell
              have hSz := hSX.keep z.h
              have twz := Rd.keep twX z.h
              clear hF f1 f2 f3 f4 f5 f6 f7 f8 hSX twX
              rw [← HK.out]
              generalize hq : atK v x (k + 1) = q at *
              have HQ := Lib.hid hq
              clear hq HK
              go_wp2_with fail
              refine ⟨⟨k + 1, by omega, by go_num, ⟨blk_far2 hSz.bb (by omega), blk_far2 hSz.ba (by omega), blk_far2 hSz.bx (by omega), blk_far2 hSz.br (by omega), below_set2 hSz.hB (by omega)⟩, ?_, ((Put.set _ Bs 0 _).trans (Put.set _ Bs 1 _)).rd twz (.inl h76)⟩, by simp [intOf]; omega⟩
              rw [HQ.out]
              exact blk_set2 bz
            · obtain rfl : k = j := by omega
              rw [HT.out] at bs
              have e1 := bs.cell
              have e3 := hS.br.cell
              have e4 := hS.br.frozen
              go_wp2_with fail
              refine bodyPost_ret (v := .agg #[.int .u64 (fv (atE v x).a), .int .u64 (fv (atE v x).b)]) (by simp [results, Tryz.results110, go_sem, e3]) rfl ⟨rfl, ?_⟩
              exact below_set2 hS.hB (by omega)
end Go.Proofs.YtkgglhakimkkhaaGreatDoor
