/-
  The functions of package mle over the iterator of weights: EqIndex and Accumulate, by contract.
-/
import Derived.Test.YtnfiomccgakooaaDoorMl2
import Derived.Test.YtnfiomccgakooaaDoorGrow
namespace Go.Proofs.YtnfiomccgakooaaDoor
open Go.RowKit
attribute [local go_sem] Oper.semAt_some

theorem eqi_snoc (i : Nat) (p : List E) (x : E) : eqi i (p ++ [x]) = eqi i p * sel i p.length x := by
  unfold eqi
  rw [List.length_append, List.length_singleton, wt, wt_append p x i p.length (Nat.le_refl _), getD_append_last]
theorem keeps_set {S : Nat → Prop} {A B : World} (h : Keeps S A B) (p : Addr) (v : Value) (hp : ¬ S p.block) : Keeps S A (B.setCell p v) :=
  ⟨Nat.le_trans h.size (by simp [World.setCell]), fun g hg hl => (Below.heap_setCell B p v g (fun e => hp (e ▸ hg))).trans (h.same g hg hl)⟩
theorem eqi_end {w W w2 : World} {y : E} {z : Int} (hk : KeepsOthers W w2) (hs : Keeps (fun g => g < w.heap.size) W w2) (q1 : ∃ z0, Blk w2 w.heap.size 3 #[z0]) (q2 : Blk w2 (w.heap.size + 1) 27 #[.int .u64 0, .int .u64 0]) (q3 : ∃ c d, Blk w2 (w.heap.size + 1 + 1) 27 #[c, d]) (q4 : Below w.heap.size w w2) :
    KeepsOthers W (((w2.setCell ⟨w.heap.size + 1 + 1, 0, none⟩ (.int .u64 (fv y.a))).setCell ⟨w.heap.size + 1 + 1, 1, none⟩ (.int .u64 (fv y.b))).setCell ⟨w.heap.size, 0, none⟩ (.int .i64 z)) ∧ Keeps (fun g => g < w.heap.size) W (((w2.setCell ⟨w.heap.size + 1 + 1, 0, none⟩ (.int .u64 (fv y.a))).setCell ⟨w.heap.size + 1 + 1, 1, none⟩ (.int .u64 (fv y.b))).setCell ⟨w.heap.size, 0, none⟩ (.int .i64 z)) ∧
    Blk (((w2.setCell ⟨w.heap.size + 1 + 1, 0, none⟩ (.int .u64 (fv y.a))).setCell ⟨w.heap.size + 1 + 1, 1, none⟩ (.int .u64 (fv y.b))).setCell ⟨w.heap.size, 0, none⟩ (.int .i64 z)) w.heap.size 3 #[.int .i64 z] ∧ Blk (((w2.setCell ⟨w.heap.size + 1 + 1, 0, none⟩ (.int .u64 (fv y.a))).setCell ⟨w.heap.size + 1 + 1, 1, none⟩ (.int .u64 (fv y.b))).setCell ⟨w.heap.size, 0, none⟩ (.int .i64 z)) (w.heap.size + 1) 27 #[.int .u64 0, .int .u64 0] ∧
    Blk (((w2.setCell ⟨w.heap.size + 1 + 1, 0, none⟩ (.int .u64 (fv y.a))).setCell ⟨w.heap.size + 1 + 1, 1, none⟩ (.int .u64 (fv y.b))).setCell ⟨w.heap.size, 0, none⟩ (.int .i64 z)) (w.heap.size + 1 + 1) 27 #[.int .u64 (fv y.a), .int .u64 (fv y.b)] ∧ Below w.heap.size w (((w2.setCell ⟨w.heap.size + 1 + 1, 0, none⟩ (.int .u64 (fv y.a))).setCell ⟨w.heap.size + 1 + 1, 1, none⟩ (.int .u64 (fv y.b))).setCell ⟨w.heap.size, 0, none⟩ (.int .i64 z)) := by
  obtain ⟨z0, q1⟩ := q1
  obtain ⟨c, d, q3⟩ := q3
  refine ⟨((hk.trans (KeepsOthers.setCell _ _ _)).trans (KeepsOthers.setCell _ _ _)).trans (KeepsOthers.setCell _ _ _), ?_, ?_, ?_, ?_, ?_⟩
  · exact keeps_set (keeps_set (keeps_set hs _ _ (by simp; omega)) _ _ (by simp; omega)) _ _ (by simp)
  · exact (blk_far2 q1 (by omega)).set_ 0 _
  · exact (blk_far2 q2 (by omega)).far (p := ⟨w.heap.size, 0, none⟩) (by show w.heap.size + 1 ≠ w.heap.size; omega) _
  · exact (blk_set2 q3).far (p := ⟨w.heap.size, 0, none⟩) (by show w.heap.size + 1 + 1 ≠ w.heap.size; omega) _
  · exact (below_set2 q4 (by omega)).setCell (p := ⟨w.heap.size, 0, none⟩) (Nat.le_refl _) _
set_option maxRecDepth 100000 in
set_option maxHeartbeats 4000000 in
theorem gEqIndex (i : Nat) (p : List E) (hi : i ≤ 1000000) (hpl : p.length ≤ 60) (v : Value) (lo hi' : Nat) (w : World) (hp : ExtS lo hi' w v p) (hhi : hi' ≤ w.heap.size) (h1 : Laid w) :
    Calls Tryd.prog 16 #[.int .i64 i, v] w (Ret (ev (eqi i p)) w) := by
  obtain ⟨A, cap, rfl⟩ := hp.len
  refine (callsIn_wide (n := 3)).1 ?_
  refine callsIn_of_wp_marks Tryd.func16 rfl trivial ?_ rfl
  simp only [Tryd.ntmps16, List.size_toArray, List.length_cons, List.length_nil, Nat.reduceAdd, Nat.reduceSub, Array.replicate_succ, Array.replicate_zero, List.push_toArray, List.append_toArray, List.nil_append, List.cons_append]
  have g1 := h1.1
  have g2 := h1.2.1
  have g3 : w.heap.size ≠ 0 := by have := h1.2.2; omega
  have g4 : 0 < w.heap.size := h1.2.2
  gi_wp2_with fail
  refine ⟨trivial, (callsIn_wide.2 (wWeights _ _ _ _)).mono ?_⟩
  rintro e w2 ⟨rfl, rfl⟩
  rw [show ∀ a b c : Obj, (((w.alloc a).alloc b).alloc c).heap.size = w.heap.size + 1 + 1 + 1 from fun _ _ _ => by simp]
  gi_wp2_with fail
  refine stk4 (M := fun W => Code.wpIn _ _ _ _ _ _ W) fun W2 hB2 hz2 bI bR bO bP => ?_
  have hs2 : W2.heap.size = w.heap.size + 1 + 1 + 1 + 1 := hz2.out
  clear g1 g2 g3 g4
  have hp2 : ExtS lo w.heap.size W2 (.slice A p.length cap) p := (hp.below hB2 hhi).wide (Nat.le_refl _) hhi
  refine wpIn_seq2 (wIter p (.slice A p.length cap) 2 lo w.heap.size (w.heap.size + 3) (by decide) W2 hp2 (bP.cell 0) (h1.keep hB2) h1.2.2 (by omega) (by omega)) (by decide) rfl (enters_of Tryd.func64 (by kernel_rfl) rfl) (fun g hg => by show g < W2.heap.size; have : g < w.heap.size := hg; omega)
    (fun pre W => Blk W w.heap.size 3 #[.int .i64 ((i / 2 ^ pre.length : Nat) : Int)] ∧ Blk W (w.heap.size + 1) 27 #[.int .u64 0, .int .u64 0] ∧ Blk W (w.heap.size + 1 + 1) 27 #[.int .u64 (fv (eqi i pre).a), .int .u64 (fv (eqi i pre).b)] ∧ Below w.heap.size w W ∧ W2.heap.size ≤ W.heap.size)
    ?hI (fun pre W h => h.2.2.2.2) ?h0 6 27 (fun x => #[.int .u64 (fv (1 - x).a), .int .u64 (fv (1 - x).b)]) 7 27 (fun x => #[.int .u64 (fv x.a), .int .u64 (fv x.b)]) ?assign ?body ?done
  case hI =>
    rintro pre W W' row ⟨q1, q2, q3, q4, q5⟩ hg hr
    exact ⟨blk_own (β := Unit) () W W' row q1 hg hr, blk_own (β := Unit) () W W' row q2 hg hr, blk_own (β := Unit) () W W' row q3 hg hr, ownFrom_below (β := Unit) (Nat.le_refl _) (by omega) () W W' row q4 hg hr, Nat.le_trans q5 hg.size⟩
  case h0 => exact ⟨by simpa using bI, bR, bO, hB2, Nat.le_refl _⟩
  case assign =>
    intro l x W K hK
    simp only [boxAct, ev, List.setIfInBounds_toArray, List.set_cons_succ, List.set_cons_zero] at hK ⊢
    gi_wp2_with fail
    exact hK _ _ rfl rfl
  case body =>
    rintro l pre x Bx W a' rfl ⟨q1, q2, q3, q4, q5⟩ hBx bZ bX hlt
    simp only [boxAct, ev, List.setIfInBounds_toArray, List.set_cons_succ, List.set_cons_zero]
    have hm : i / 2 ^ pre.length ≤ 1000000 := Nat.le_trans (Nat.div_le_self _ _) hi
    have HS := Lib.hid (eqi_snoc i pre x)
    have HD := Lib.hid (show i / 2 ^ (pre.length + 1) = i / 2 ^ pre.length / 2 by rw [Nat.pow_succ, Nat.div_div_eq_div_mul])
    have hsel : sel i pre.length x = if i / 2 ^ pre.length % 2 = 1 then x else 1 - x := rfl
    generalize i / 2 ^ pre.length = m at *
    generalize eqi i pre = o at *
    have hbit : bits .and .i64 (m : Int) 1 = ((m % 2 : Nat) : Int) := by
      have := i64_and_nat m 1 (by omega) (by omega)
      rwa [Nat.and_one_is_mod] at this
    have c1 := q1.cell
    have c2 := bX.cell
    have c3 := bZ.frozen
    have c3' := bZ.cell
    have c4 := q3.cell
    have hne1 := q1.lt
    have hBx1 := bX.lt
    rcases Nat.mod_two_eq_zero_or_one m with h2 | h2
    · rw [h2] at hbit hsel
      rw [if_neg (by decide)] at hsel
      replace hbit : bits .and .i64 (m : Int) 1 = 0 := hbit
      have HSel := Lib.hid hsel
      clear hsel
      gi_wp2_with fail
      refine ⟨trivial, (CallsIn.inRound l (callsIn_wide.2 (eMul o (1 - x) _))).mono ?_⟩
      rintro e w2 ⟨he, hb⟩
      unfold ev at he
      subst he
      have q1' := q1.keep hb
      have q2' := q2.keep hb
      have q3' := q3.keep hb
      have hs2' := hb.size
      clear c1 c2 c3 c3' c4
      have c1 := q1'.cell
      have c2 := q1'.frozen
      have c3 := q3'.cell
      have c4 := q3'.frozen
      gi_wp2_with fail
      have hI : (i : Int) / 2 ^ (pre.length + 1) = (m : Int) / 2 := by have h := congrArg (fun n : Nat => (n : Int)) HD.out; simpa using h
      rw [hI, HS.out, HSel.out]
      obtain ⟨e1, e2, e3, e4, e5, e6⟩ := eqi_end (y := o * (1 - x)) (z := (m : Int) / 2) (keepsOthers_of_below hb) (Keeps.of_below hb) ⟨_, q1'⟩ q2' ⟨_, _, q3'⟩ (q4.trans (hb.mono q4.size))
      exact ⟨e1, e2, e3, e4, e5, e6, by omega⟩
    · rw [h2] at hbit hsel
      rw [if_pos rfl] at hsel
      replace hbit : bits .and .i64 (m : Int) 1 = 1 := hbit
      have HSel := Lib.hid hsel
      clear hsel
      gi_wp2_with fail
      obtain ⟨W3, hW3⟩ : ∃ W3, (W.setCell ⟨Bx, 0, none⟩ (.int .u64 (fv x.a))).setCell ⟨Bx, 1, none⟩ (.int .u64 (fv x.b)) = W3 := ⟨_, rfl⟩
      have p1 : Blk W3 w.heap.size 3 #[.int .i64 (m : Int)] := by rw [← hW3]; exact blk_far2 q1 (by omega)
      have p2 : Blk W3 (w.heap.size + 1) 27 #[.int .u64 0, .int .u64 0] := by rw [← hW3]; exact blk_far2 q2 (by omega)
      have p3 : Blk W3 (w.heap.size + 1 + 1) 27 #[.int .u64 (fv o.a), .int .u64 (fv o.b)] := by rw [← hW3]; exact blk_far2 q3 (by omega)
      have p4 : Below w.heap.size w W3 := by rw [← hW3]; exact below_set2 q4 (by omega)
      have p5 : KeepsOthers W W3 := by rw [← hW3]; exact (KeepsOthers.setCell _ _ _).trans (KeepsOthers.setCell _ _ _)
      have p6 : Keeps (fun g => g < w.heap.size) W W3 := by rw [← hW3]; exact keeps_set (keeps_set (Keeps.refl _) _ _ (by simp; omega)) _ _ (by simp; omega)
      rw [hW3]
      clear hW3
      refine ⟨trivial, (CallsIn.inRound l (callsIn_wide.2 (eMul o x _))).mono ?_⟩
      rintro e w2 ⟨he, hb⟩
      unfold ev at he
      subst he
      have q1' := p1.keep hb
      have q2' := p2.keep hb
      have q3' := p3.keep hb
      have hs2' := hb.size
      have hs3' := p6.size
      clear c1 c2 c3 c3' c4
      have c1 := q1'.cell
      have c2 := q1'.frozen
      have c3 := q3'.cell
      have c4 := q3'.frozen
      gi_wp2_with fail
      have hI : (i : Int) / 2 ^ (pre.length + 1) = (m : Int) / 2 := by have h := congrArg (fun n : Nat => (n : Int)) HD.out; simpa using h
      rw [hI, HS.out, HSel.out]
      obtain ⟨e1, e2, e3, e4, e5, e6⟩ := eqi_end (y := o * x) (z := (m : Int) / 2) (p5.trans (keepsOthers_of_below hb)) (p6.trans (Keeps.of_below hb)) ⟨_, q1'⟩ q2' ⟨_, _, q3'⟩ (p4.trans (hb.mono p4.size))
      exact ⟨e1, e2, e3, e4, e5, e6, by omega⟩
  case done =>
    intro D V hD ⟨q1, q2, q3, q4, q5⟩ hK
    generalize eqi i p = y at *
    have e1 := q3.cell
    have e2 := q2.cell
    have e3 := q2.frozen
    gi_wp2_with fail
    obtain ⟨Z, hZ⟩ : ∃ Z, (V.setCell ⟨w.heap.size + 1, 0, none⟩ (.int .u64 (fv y.a))).setCell ⟨w.heap.size + 1, 1, none⟩ (.int .u64 (fv y.b)) = Z := ⟨_, rfl⟩
    rw [hZ]
    have bZ : Blk Z (w.heap.size + 1) 27 #[.int .u64 (fv y.a), .int .u64 (fv y.b)] := by rw [← hZ]; exact blk_set2 q2
    have hBZ : Below w.heap.size w Z := by rw [← hZ]; exact below_set2 q4 (by omega)
    have hne : D ≠ w.heap.size + 1 := by omega
    have hKZ : Z.heap[D]? = some (.deferred (some [])) := by
      rw [← hZ]
      repeat rw [Below.heap_setCell _ ⟨w.heap.size + 1, _, none⟩ _ D hne]
      exact hK
    refine ⟨by simp, .inl ⟨_, _, rfl, run_takeDeferred hKZ, ?_⟩⟩
    have bZ' : Blk (Z.putObj D (.deferred none)) (w.heap.size + 1) 27 #[.int .u64 (fv y.a), .int .u64 (fv y.b)] := (World.putObj_heap_other (Ne.symm hne)).trans bZ
    have e4 := bZ'.cell
    refine ⟨.agg #[.int .u64 (fv y.a), .int .u64 (fv y.b)], ?_, ?_⟩
    · simp [results, Tryd.results16, go_sem, e4]
    · exact ⟨by unfold ev; rfl, hBZ.trans (belowK_b (w := w) (Nat.le_refl _) Z D _ _ (by omega) hKZ rfl rfl)⟩

theorem gAccumulate (v d : E) (i : Nat) (p : List E) (hi : i ≤ 1000000) (hp : p.length ≤ 60) (vp : Value) (lo hi' : Nat) (w : World) (h : ExtS lo hi' w vp p) (hh : hi' ≤ w.heap.size) (hL : Laid w) :
    Calls Tryd.prog 20 #[ev v, .int .i64 i, ev d, vp] w (Ret (ev (v + d * eqi i p)) w) := by
  unfold ev
  go_enter Tryd.func20, Tryd.ntmps20
  go_wp2
  refine wp_stk3 fun W hB hz b1 b2 b3 => ?_
  have h2 := Rd.keep h hB
  have HL := hL.keep hB
  have hhW := Nat.le_trans hh hB.size
  have c1 := gw_blk b1
  have c2 := gw_blk b2
  refine wp_region_rg 7 [(4, Spec.val (.agg #[.int .u64 (fv (eqi i p).a), .int .u64 (fv (eqi i p).b)])), (5, Spec.val (.agg #[.int .u64 (fv (d * eqi i p).a), .int .u64 (fv (d * eqi i p).b)])), (6, Spec.val (.agg #[.int .u64 (fv (v + d * eqi i p).a), .int .u64 (fv (v + d * eqi i p).b)]))] (by kernel_rfl) (by kernel_rfl) (by kernel_rfl) trivial ?_
  refine rg_det rfl rfl rfl (fun K hK => ?_)
  go_big_quiet_op
  refine hK _ ?_; clear hK K
  refine rg_det rfl rfl rfl (fun K hK => ?_)
  go_big_quiet_op
  refine hK _ ?_; clear hK K
  refine rg_det rfl rfl rfl (fun K hK => ?_)
  go_big_quiet_op
  refine hK _ ?_; clear hK K
  refine rg_det rfl rfl rfl (fun K hK => ?_)
  go_big_quiet_op
  refine hK _ ?_; clear hK K
  refine rg_val rfl rfl (fun W1 hW1 hF => step_callv en_attestor_mle_EqIndex (gEqIndex i p hi hp _ lo hi' W1 (Rd.keep h2 (grw_below hW1)) (Nat.le_trans hhW (grw_below hW1).size) (HL.keep (grw_below hW1))) rfl rfl) ?_
  intro a' ha
  simp only [Act.put, List.setIfInBounds_toArray, List.set_cons_succ, List.set_cons_zero] at ha
  subst ha
  refine rg_val rfl rfl (fun W1 hW1 hF => step_callv en_attestor_ext_Mul (eMul d (eqi i p) W1) rfl rfl) ?_
  intro a' ha
  simp only [Act.put, List.setIfInBounds_toArray, List.set_cons_succ, List.set_cons_zero] at ha
  subst ha
  refine rg_val rfl rfl (fun W1 hW1 hF => step_callv en_attestor_ext_Add (eAdd v (d * eqi i p) W1) rfl rfl) ?_
  intro a' ha
  simp only [Act.put, List.setIfInBounds_toArray, List.set_cons_succ, List.set_cons_zero] at ha
  subst ha
  refine rg_nil (fun w' hw' hF => ?_)
  obtain ⟨z, rfl⟩ := hw'
  simp only [List.drop_succ_cons, List.drop_zero]
  have e1 := (b3.gw z).cell
  have e2 := (b3.gw z).frozen
  go_wp2
  refine bodyPost_ret (v := .agg #[.int .u64 (fv (v + d * eqi i p).a), .int .u64 (fv (v + d * eqi i p).b)]) (by simp [results, Tryd.results20, go_sem, e1]) rfl ⟨rfl, ?_⟩
  exact ((hB.trans (z.h.mono hB.size)).setCell (by show w.heap.size ≤ w.heap.size + 1 + 1; omega) _).setCell (by show w.heap.size ≤ w.heap.size + 1 + 1; omega) _
end Go.Proofs.YtnfiomccgakooaaDoor
