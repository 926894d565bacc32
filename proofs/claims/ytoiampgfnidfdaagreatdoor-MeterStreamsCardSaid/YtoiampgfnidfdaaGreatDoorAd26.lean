/-
  The functions of package mle over the iterator of weights: EqIndex and Accumulate, by contract.
  The program's add: amounts added at every point of an epoch.
-/
import Derived.Test.YtoiampgfnidfdaaGreatDoorPa
import Derived.Sort.CutIn
import Derived.Test.YtoiampgfnidfdaaGreatDoorCs26
namespace Go.Proofs.YtoiampgfnidfdaaGreatDoor
open Go.RowKit
attribute [local go_sem] Oper.semAt_some

theorem eqi_snoc (i : Nat) (p : List E) (x : E) : eqi i (p ++ [x]) = eqi i p * sel i p.length x := by
  unfold eqi
  rw [List.length_append, List.length_singleton, wt, wt_append p x i p.length (Nat.le_refl _), getD_append_last]
theorem keeps_set {S : Nat → Prop} {A B : World} (h : Keeps S A B) (p : Addr) (v : Value) (hp : ¬ S p.block) : Keeps S A (B.setCell p v) :=
  ⟨Nat.le_trans h.size (by simp [World.setCell]), fun g hg hl => (Below.heap_setCell B p v g (fun e => hp (e ▸ hg))).trans (h.same g hg hl)⟩
theorem eqi_end {w W w2 : World} {y : E} {z : Int} (hk : KeepsOthers W w2) (hs : Keeps (fun g => g < w.heap.size) W w2) (q1 : ∃ z0, Blk w2 w.heap.size 3 #[z0]) (q2 : Blk w2 (w.heap.size + 1) 86 #[.int .u64 0, .int .u64 0]) (q3 : ∃ c d, Blk w2 (w.heap.size + 1 + 1) 86 #[c, d]) (q4 : Below w.heap.size w w2) :
    KeepsOthers W (((w2.setCell ⟨w.heap.size + 1 + 1, 0, none⟩ (.int .u64 (fv y.a))).setCell ⟨w.heap.size + 1 + 1, 1, none⟩ (.int .u64 (fv y.b))).setCell ⟨w.heap.size, 0, none⟩ (.int .i64 z)) ∧ Keeps (fun g => g < w.heap.size) W (((w2.setCell ⟨w.heap.size + 1 + 1, 0, none⟩ (.int .u64 (fv y.a))).setCell ⟨w.heap.size + 1 + 1, 1, none⟩ (.int .u64 (fv y.b))).setCell ⟨w.heap.size, 0, none⟩ (.int .i64 z)) ∧
    Blk (((w2.setCell ⟨w.heap.size + 1 + 1, 0, none⟩ (.int .u64 (fv y.a))).setCell ⟨w.heap.size + 1 + 1, 1, none⟩ (.int .u64 (fv y.b))).setCell ⟨w.heap.size, 0, none⟩ (.int .i64 z)) w.heap.size 3 #[.int .i64 z] ∧ Blk (((w2.setCell ⟨w.heap.size + 1 + 1, 0, none⟩ (.int .u64 (fv y.a))).setCell ⟨w.heap.size + 1 + 1, 1, none⟩ (.int .u64 (fv y.b))).setCell ⟨w.heap.size, 0, none⟩ (.int .i64 z)) (w.heap.size + 1) 86 #[.int .u64 0, .int .u64 0] ∧
    Blk (((w2.setCell ⟨w.heap.size + 1 + 1, 0, none⟩ (.int .u64 (fv y.a))).setCell ⟨w.heap.size + 1 + 1, 1, none⟩ (.int .u64 (fv y.b))).setCell ⟨w.heap.size, 0, none⟩ (.int .i64 z)) (w.heap.size + 1 + 1) 86 #[.int .u64 (fv y.a), .int .u64 (fv y.b)] ∧ Below w.heap.size w (((w2.setCell ⟨w.heap.size + 1 + 1, 0, none⟩ (.int .u64 (fv y.a))).setCell ⟨w.heap.size + 1 + 1, 1, none⟩ (.int .u64 (fv y.b))).setCell ⟨w.heap.size, 0, none⟩ (.int .i64 z)) := by
  obtain ⟨z0, q1⟩ := q1
  obtain ⟨c, d, q3⟩ := q3
  refine ⟨((hk.trans (KeepsOthers.setCell _ _ _)).trans (KeepsOthers.setCell _ _ _)).trans (KeepsOthers.setCell _ _ _), ?_, ?_, ?_, ?_, ?_⟩
  · exact keeps_set (keeps_set (keeps_set hs _ _ (by simp; omega)) _ _ (by simp; omega)) _ _ (by simp)
  · exact (blk_far2 q1 (by omega)).set_ 0 _
  · exact (blk_far2 q2 (by omega)).far (p := ⟨w.heap.size, 0, none⟩) (by show w.heap.size + 1 ≠ w.heap.size; omega) _
  · exact (blk_set2 q3).far (p := ⟨w.heap.size, 0, none⟩) (by show w.heap.size + 1 + 1 ≠ w.heap.size; omega) _
  · exact (below_set2 q4 (by omega)).setCell (p := ⟨w.heap.size, 0, none⟩) (Nat.le_refl _) _
set_option maxRecDepth 100000 in
set_option maxHeartbeats 4000000 in
theorem gEqIndex (i : Nat) (p : List E) (hi : i ≤ 1000000) (hpl : p.length ≤ 60) (v : Value) (lo hi' : Nat) (w : World) (hp : ExtS lo hi' w v p) (hhi : hi' ≤ w.heap.size) (h1 : Laid w) :
    Calls Tryz.prog 130 #[.int .i64 i, v] w (Ret (ev (eqi i p)) w) := by
  obtain ⟨A, cap, rfl⟩ := hp.len
  refine (callsIn_wide (n := 3)).1 ?_
  refine callsIn_of_wp_marks Tryz.func130 rfl trivial ?_ rfl
  simp only [Tryz.ntmps130, List.size_toArray, List.length_cons, List.length_nil, Nat.reduceAdd, Nat.reduceSub, Array.replicate_succ, Array.replicate_zero, List.push_toArray, List.append_toArray, List.nil_append, List.cons_append]
  gi_upto_region 1 with (fail)
  refine stk2 (M := fun W => Code.wpIn _ _ _ _ _ _ W) fun Wa hBa hza bIa bRa => ?_
  have hsa : Wa.heap.size = w.heap.size + 1 + 1 := hza.out
  have g1 := (h1.keep hBa).1
  have g2 := (h1.keep hBa).2.1
  have g3 : Wa.heap.size ≠ 1 := by have := (h1.keep hBa).2.2; omega
  gi_upto_region 2 with (fail)
  refine stk1 (M := fun W => Code.wpIn _ _ _ _ _ _ W) fun Wb hBb hzb bOb => ?_
  have hsb : Wb.heap.size = w.heap.size + 1 + 1 + 1 := by rw [hzb.out, hsa]
  rw [hsa] at bOb
  have bIb := bIa.keep hBb
  have bRb := bRa.keep hBb
  have hBw := hBa.trans (hBb.mono (by omega))
  clear g1 g2 g3 hza hzb
  gi_wp2_with fail
  refine ⟨trivial, (callsIn_wide.2 (wWeights _ _ _ _)).mono ?_⟩
  rintro e w2 ⟨rfl, rfl⟩
  gi_wp2_with fail
  refine stk1 (M := fun W => Code.wpIn _ _ _ _ _ _ W) fun W2 hB22 hz22 bP => ?_
  have hs2 : W2.heap.size = w.heap.size + 1 + 1 + 1 + 1 := by rw [hz22.out, hsb]
  rw [hsb] at bP
  have bI := bIb.keep hB22
  have bR := bRb.keep hB22
  have bO := bOb.keep hB22
  have hB2 := hBw.trans (hB22.mono (by omega))
  clear hz22 hsb hsa bIa bRa bOb bIb bRb hBa hBb hBw hB22
  have hp2 : ExtS lo w.heap.size W2 (.slice A p.length cap) p := (hp.below hB2 hhi).wide (Nat.le_refl _) hhi
  refine wpIn_seq2 (wIter p (.slice A p.length cap) 2 lo w.heap.size (w.heap.size + 3) (by decide) W2 hp2 (bP.cell 0) (h1.keep hB2) h1.2.2 (by omega) (by omega)) (by decide) rfl (enters_of Tryz.func163 (by kernel_rfl) rfl) (fun g hg => by show g < W2.heap.size; have : g < w.heap.size := hg; omega)
    (fun pre W => Blk W w.heap.size 3 #[.int .i64 ((i / 2 ^ pre.length : Nat) : Int)] ∧ Blk W (w.heap.size + 1) 86 #[.int .u64 0, .int .u64 0] ∧ Blk W (w.heap.size + 1 + 1) 86 #[.int .u64 (fv (eqi i pre).a), .int .u64 (fv (eqi i pre).b)] ∧ Below w.heap.size w W ∧ W2.heap.size ≤ W.heap.size)
    ?hI (fun pre W h => h.2.2.2.2) ?h0 6 86 (fun x => #[.int .u64 (fv (1 - x).a), .int .u64 (fv (1 - x).b)]) 7 86 (fun x => #[.int .u64 (fv x.a), .int .u64 (fv x.b)]) ?assign ?body ?done
  case hI =>
    rintro pre W W' row ⟨q1, q2, q3, q4, q5⟩ hg hr
    exact ⟨blk_own (β := Unit) () W W' row q1 hg hr, blk_own (β := Unit) () W W' row q2 hg hr, blk_own (β := Unit) () W W' row q3 hg hr, ownFrom_below (β := Unit) (Nat.le_refl _) (by omega) () W W' row q4 hg hr, Nat.le_trans q5 hg.size⟩
  case h0 => exact ⟨by simpa using bI, bR, bO, hB2, Nat.le_refl _⟩
  case assign =>
    intro l x W K hK
    simp only [boxAct, ev, List.setIfInBounds_toArray, List.set_cons_succ, List.set_cons_zero] at hK ⊢
    gi_wp2_with fail
    exact hK _ _ rfl rfl
  case body =>
    rintro l pre x Bx W a' rfl ⟨q1, q2, q3, q4, q5⟩ hBx bZ bX hlt
    simp only [boxAct, ev, List.setIfInBounds_toArray, List.set_cons_succ, List.set_cons_zero]
    have hm : i / 2 ^ pre.length ≤ 1000000 := Nat.le_trans (Nat.div_le_self _ _) hi
    have HS := Lib.hid (eqi_snoc i pre x)
    have HD := Lib.hid (show i / 2 ^ (pre.length + 1) = i / 2 ^ pre.length / 2 by rw [Nat.pow_succ, Nat.div_div_eq_div_mul])
    have hsel : sel i pre.length x = if i / 2 ^ pre.length % 2 = 1 then x else 1 - x := rfl
    generalize i / 2 ^ pre.length = m at *
    generalize eqi i pre = o at *
    have hbit : bits .and .i64 (m : Int) 1 = ((m % 2 : Nat) : Int) := by
      have := i64_and_nat m 1 (by omega) (by omega)
      rwa [Nat.and_one_is_mod] at this
    have c1 := q1.cell
    have c2 := bX.cell
    have c3 := bZ.frozen
    have c3' := bZ.cell
    have c4 := q3.cell
    have hne1 := q1.lt
    have hBx1 := bX.lt
    rcases Nat.mod_two_eq_zero_or_one m with h2 | h2
    · rw [h2] at hbit hsel
      rw [if_neg (by decide)] at hsel
      replace hbit : bits .and .i64 (m : Int) 1 = 0 := hbit
      have HSel := Lib.hid hsel
      clear hsel
      gi_wp2_with fail
      refine ⟨trivial, (CallsIn.inRound l (callsIn_wide.2 (eMul o (1 - x) _))).mono ?_⟩
      rintro e w2 ⟨he, hb⟩
      unfold ev at he
      subst he
      have q1' := q1.keep hb
      have q2' := q2.keep hb
      have q3' := q3.keep hb
      have hs2' := hb.size
      clear c1 c2 c3 c3' c4
      have c1 := q1'.cell
      have c2 := q1'.frozen
      have c3 := q3'.cell
      have c4 := q3'.frozen
      gi_wp2_with fail
      have hI : (i : Int) / 2 ^ (pre.length + 1) = (m : Int) / 2 := by have h := congrArg (fun n : Nat => (n : Int)) HD.out; simpa using h
      rw [hI, HS.out, HSel.out]
      obtain ⟨e1, e2, e3, e4, e5, e6⟩ := eqi_end (y := o * (1 - x)) (z := (m : Int) / 2) (keepsOthers_of_below hb) (Keeps.of_below hb) ⟨_, q1'⟩ q2' ⟨_, _, q3'⟩ (q4.trans (hb.mono q4.size))
      exact ⟨e1, e2, e3, e4, e5, e6, by omega⟩
    · rw [h2] at hbit hsel
      rw [if_pos rfl] at hsel
      replace hbit : bits .and .i64 (m : Int) 1 = 1 := hbit
      have HSel := Lib.hid hsel
      clear hsel
      gi_wp2_with fail
      obtain ⟨W3, hW3⟩ : ∃ W3, (W.setCell ⟨Bx, 0, none⟩ (.int .u64 (fv x.a))).setCell ⟨Bx, 1, none⟩ (.int .u64 (fv x.b)) = W3 := ⟨_, rfl⟩
      have p1 : Blk W3 w.heap.size 3 #[.int .i64 (m : Int)] := by rw [← hW3]; exact blk_far2 q1 (by omega)
      have p2 : Blk W3 (w.heap.size + 1) 86 #[.int .u64 0, .int .u64 0] := by rw [← hW3]; exact blk_far2 q2 (by omega)
      have p3 : Blk W3 (w.heap.size + 1 + 1) 86 #[.int .u64 (fv o.a), .int .u64 (fv o.b)] := by rw [← hW3]; exact blk_far2 q3 (by omega)
      have p4 : Below w.heap.size w W3 := by rw [← hW3]; exact below_set2 q4 (by omega)
      have p5 : KeepsOthers W W3 := by rw [← hW3]; exact (KeepsOthers.setCell _ _ _).trans (KeepsOthers.setCell _ _ _)
      have p6 : Keeps (fun g => g < w.heap.size) W W3 := by rw [← hW3]; exact keeps_set (keeps_set (Keeps.refl _) _ _ (by simp; omega)) _ _ (by simp; omega)
      rw [hW3]
      clear hW3
      refine ⟨trivial, (CallsIn.inRound l (callsIn_wide.2 (eMul o x _))).mono ?_⟩
      rintro e w2 ⟨he, hb⟩
      unfold ev at he
      subst he
      have q1' := p1.keep hb
      have q2' := p2.keep hb
      have q3' := p3.keep hb
      have hs2' := hb.size
      have hs3' := p6.size
      clear c1 c2 c3 c3' c4
      have c1 := q1'.cell
      have c2 := q1'.frozen
      have c3 := q3'.cell
      have c4 := q3'.frozen
      gi_wp2_with fail
      have hI : (i : Int) / 2 ^ (pre.length + 1) = (m : Int) / 2 := by have h := congrArg (fun n : Nat => (n : Int)) HD.out; simpa using h
      rw [hI, HS.out, HSel.out]
      obtain ⟨e1, e2, e3, e4, e5, e6⟩ := eqi_end (y := o * x) (z := (m : Int) / 2) (p5.trans (keepsOthers_of_below hb)) (p6.trans (Keeps.of_below hb)) ⟨_, q1'⟩ q2' ⟨_, _, q3'⟩ (p4.trans (hb.mono p4.size))
      exact ⟨e1, e2, e3, e4, e5, e6, by omega⟩
  case done =>
    intro D V hD ⟨q1, q2, q3, q4, q5⟩ hK
    generalize eqi i p = y at *
    have e1 := q3.cell
    have e2 := q2.cell
    have e3 := q2.frozen
    gi_wp2_with fail
    obtain ⟨Z, hZ⟩ : ∃ Z, (V.setCell ⟨w.heap.size + 1, 0, none⟩ (.int .u64 (fv y.a))).setCell ⟨w.heap.size + 1, 1, none⟩ (.int .u64 (fv y.b)) = Z := ⟨_, rfl⟩
    rw [hZ]
    have bZ : Blk Z (w.heap.size + 1) 86 #[.int .u64 (fv y.a), .int .u64 (fv y.b)] := by rw [← hZ]; exact blk_set2 q2
    have hBZ : Below w.heap.size w Z := by rw [← hZ]; exact below_set2 q4 (by omega)
    have hne : D ≠ w.heap.size + 1 := by omega
    have hKZ : Z.heap[D]? = some (.deferred (some [])) := by
      rw [← hZ]
      repeat rw [Below.heap_setCell _ ⟨w.heap.size + 1, _, none⟩ _ D hne]
      exact hK
    refine ⟨by simp, .inl ⟨_, _, rfl, run_takeDeferred hKZ, ?_⟩⟩
    have bZ' : Blk (Z.putObj D (.deferred none)) (w.heap.size + 1) 86 #[.int .u64 (fv y.a), .int .u64 (fv y.b)] := (World.putObj_heap_other (Ne.symm hne)).trans bZ
    have e4 := bZ'.cell
    refine ⟨.agg #[.int .u64 (fv y.a), .int .u64 (fv y.b)], ?_, ?_⟩
    · simp [results, Tryz.results130, go_sem, e4]
    · exact ⟨by unfold ev; rfl, hBZ.trans (belowK_b (w := w) (Nat.le_refl _) Z D _ _ (by omega) hKZ rfl rfl)⟩

set_option maxRecDepth 100000 in
set_option maxHeartbeats 1000000 in
theorem gAccumulate (v d : E) (i : Nat) (p : List E) (hi : i ≤ 1000000) (hp : p.length ≤ 60) (vp : Value) (lo hi' : Nat) (w : World) (h : ExtS lo hi' w vp p) (hh : hi' ≤ w.heap.size) (hL : Laid w) :
    Calls Tryz.prog 103 #[ev v, .int .i64 i, ev d, vp] w (Ret (ev (v + d * eqi i p)) w) := by
  unfold ev
  go_enter Tryz.func103, Tryz.ntmps103
  go_wp2
  refine wp_stk3 fun W hB hz b1 b2 b3 => ?_
  have h2 := Rd.keep h hB
  have HL := hL.keep hB
  have hhW := Nat.le_trans hh hB.size
  have c1 := gw_blk b1
  have c2 := gw_blk b2
  refine wp_region_rg 7 [(4, Spec.val (.agg #[.int .u64 (fv (eqi i p).a), .int .u64 (fv (eqi i p).b)])), (5, Spec.val (.agg #[.int .u64 (fv (d * eqi i p).a), .int .u64 (fv (d * eqi i p).b)])), (6, Spec.val (.agg #[.int .u64 (fv (v + d * eqi i p).a), .int .u64 (fv (v + d * eqi i p).b)]))] (by kernel_rfl) (by kernel_rfl) (by kernel_rfl) trivial ?_
  iterate 4 (refine rg_det rfl rfl rfl (fun K hK => ?_); go_big_quiet_op; refine hK _ ?_; clear hK K)
  refine rg_val rfl rfl (fun W1 hW1 hF => step_callv en_attestor_mle_EqIndex (gEqIndex i p hi hp _ lo hi' W1 (Rd.keep h2 (grw_below hW1)) (Nat.le_trans hhW (grw_below hW1).size) (HL.keep (grw_below hW1))) rfl rfl) ?_
  intro a' ha
  simp only [Act.put, List.setIfInBounds_toArray, List.set_cons_succ, List.set_cons_zero] at ha
  subst ha
  refine rg_val rfl rfl (fun W1 hW1 hF => step_callv en_attestor_ext_Mul (eMul d (eqi i p) W1) rfl rfl) ?_
  intro a' ha
  simp only [Act.put, List.setIfInBounds_toArray, List.set_cons_succ, List.set_cons_zero] at ha
  subst ha
  refine rg_val rfl rfl (fun W1 hW1 hF => step_callv en_attestor_ext_Add (eAdd v (d * eqi i p) W1) rfl rfl) ?_
  intro a' ha
  simp only [Act.put, List.setIfInBounds_toArray, List.set_cons_succ, List.set_cons_zero] at ha
  subst ha
  refine rg_nil (fun w' hw' hF => ?_)
  obtain ⟨z, rfl⟩ := hw'
  simp only [List.drop_succ_cons, List.drop_zero]
  have e1 := (b3.gw z).cell
  have e2 := (b3.gw z).frozen
  go_wp2
  refine bodyPost_ret (v := .agg #[.int .u64 (fv (v + d * eqi i p).a), .int .u64 (fv (v + d * eqi i p).b)]) (by simp [results, Tryz.results103, go_sem, e1]) rfl ⟨rfl, ?_⟩
  exact ((hB.trans (z.h.mono hB.size)).setCell (by show w.heap.size ≤ w.heap.size + 1 + 1; omega) _).setCell (by show w.heap.size ≤ w.heap.size + 1 + 1; omega) _
end Go.Proofs.YtoiampgfnidfdaaGreatDoor
namespace Go.Proofs.YtoiampgfnidfdaaGreatDoor
open Go.RowKit

theorem en_slices_Clone___attestor_api_Ext_attestor_api_Ext2 : ∀ args w, (callFunc 84 args).run Tryz.prog w = .ok (.enter 84 args) w := enters_of Tryz.func84 (by kernel_rfl) rfl
def ai (l : List Int) : List Value := l.map fun n => Value.int .i64 n
theorem am_under : Tryz.prog.underlying 108 = some (.array 5 2) := by kernel_rfl
theorem am_size : (Tryz.prog.info? 108).map (·.size) = some 5 := by kernel_rfl
theorem run_ixA {l : List Int} {k : Nat} {x : Int} (h : l.length = 5) (hk : k < 5) (hx : l[k]? = some x) (w : World) : (Instr.index 108 (.agg (ai l).toArray) (.int .i64 (k : Int))).run Tryz.prog w = .ok (.int .i64 x) w := by
  have hlt := (List.getElem?_eq_some_iff.1 hx).1
  have i8 : (Tryz.prog.info? 2).map (·.size) = some 1 := by kernel_rfl
  obtain ⟨i, hi, hs⟩ : ∃ i, Tryz.prog.info? 2 = some i ∧ i.size = 1 := by
    cases h : Tryz.prog.info? 2 with
    | none => rw [h] at i8; cases i8
    | some i => rw [h] at i8; exact ⟨i, rfl, by simpa using i8⟩
  have h1 : (k : Int) < 5 := by omega
  have h2 : (ai l)[k]? = some (.int .i64 x) := by simp [ai, hx]
  have h3 : k < (ai l).length := by simp [ai, h, hk]
  generalize ai l = q at *
  obtain ⟨_, h4⟩ := List.getElem?_eq_some_iff.1 h2
  simp [Instr.index, asIntOf, run_underlying am_under, run_underlying Tryz.underlying2, part, sizeOf, typeInfo, hi, hs, h1, h4, h2, h3]
  omega
def ptK (j : Nat) (amts : List Int) (pts : List Pt) (k : Nat) : List Pt := (pts.take k).map (addP j amts) ++ pts.drop k
theorem ptK_zero (j : Nat) (amts : List Int) (pts : List Pt) : ptK j amts pts 0 = pts := by simp [ptK]
theorem ptK_all (j : Nat) (amts : List Int) (pts : List Pt) : ptK j amts pts pts.length = pts.map (addP j amts) := by simp [ptK]
theorem ptK_get (j : Nat) (amts : List Int) (pts : List Pt) (k : Nat) (p : Pt) (h : pts[k]? = some p) : (ptK j amts pts k)[k]? = some p := by
  have hl := (List.getElem?_eq_some_iff.1 h).1
  unfold ptK
  rw [List.getElem?_append_right (by simp; omega)]
  simp only [List.length_map, List.length_take, Nat.min_eq_left (Nat.le_of_lt hl), Nat.sub_self, List.getElem?_drop, Nat.add_zero]
  exact h
theorem ptK_next (j : Nat) (amts : List Int) (pts : List Pt) (k : Nat) (p : Pt) (h : pts[k]? = some p) : ptK j amts pts (k + 1) = (ptK j amts pts k).set k (addP j amts p) := by
  have hl := (List.getElem?_eq_some_iff.1 h).1
  unfold ptK
  rw [List.take_add_one, h, List.map_append, List.set_append_right _ _ (by simp; omega)]
  simp only [Option.toList_some, List.map_cons, List.map_nil, List.length_map, List.length_take, Nat.min_eq_left (Nat.le_of_lt hl), Nat.sub_self, List.append_assoc]
  rw [List.drop_eq_getElem_cons hl, List.set_cons_zero]
  rfl
def vlK (j : Nat) (amts : List Int) (p : Pt) (c : Nat) : List E := (addP j amts p).V.take c ++ p.V.drop c
theorem addV_len (j : Nat) (amts : List Int) (p : Pt) (h : p.V.length = 5) (ha : amts.length = 5) : (addP j amts p).V.length = 5 := by simp [addP, h, ha]
theorem vlK_len (j : Nat) (amts : List Int) (p : Pt) (c : Nat) (hc : c ≤ 5) (h : p.V.length = 5) (ha : amts.length = 5) : (vlK j amts p c).length = 5 := by
  unfold vlK
  rw [List.length_append, List.length_take, List.length_drop, addV_len j amts p h ha, h]
  omega
theorem vlK_zero (j : Nat) (amts : List Int) (p : Pt) : vlK j amts p 0 = p.V := by simp [vlK]
theorem vlK_all (j : Nat) (amts : List Int) (p : Pt) (h : p.V.length = 5) (ha : amts.length = 5) : vlK j amts p 5 = (addP j amts p).V := by
  unfold vlK
  rw [List.drop_eq_nil_of_le (by omega), List.append_nil, List.take_of_length_le (by rw [addV_len j amts p h ha]; exact Nat.le_refl _)]
theorem vlK_get (j : Nat) (amts : List Int) (p : Pt) (c : Nat) (v : E) (h : p.V.length = 5) (ha : amts.length = 5) (hv : p.V[c]? = some v) : (vlK j amts p c)[c]? = some v := by
  have hl := (List.getElem?_eq_some_iff.1 hv).1
  have hal := addV_len j amts p h ha
  unfold vlK
  rw [List.getElem?_append_right (by rw [List.length_take]; omega), List.length_take, List.getElem?_drop, show c + (c - min c (addP j amts p).V.length) = c by omega]
  exact hv
theorem vlK_next (j : Nat) (amts : List Int) (p : Pt) (c : Nat) (v : E) (n : Int) (h : p.V.length = 5) (ha : amts.length = 5) (hv : p.V[c]? = some v) (hn : amts[c]? = some n) : vlK j amts p (c + 1) = (vlK j amts p c).set c (v + eb (fz n) * eqi j p.R) := by
  have hl := (List.getElem?_eq_some_iff.1 hv).1
  have hal := addV_len j amts p h ha
  have hg : (addP j amts p).V[c]? = some (v + eb (fz n) * eqi j p.R) := by
    unfold addP
    simp [List.getElem?_zipWith, hv, hn]
  unfold vlK
  rw [List.take_add_one, hg, List.set_append_right _ _ (by rw [List.length_take]; omega), List.length_take, Nat.min_eq_left (by omega), Nat.sub_self, List.append_assoc, List.drop_eq_getElem_cons hl, List.set_cons_zero]
  rfl
theorem vlK_same (j : Nat) (amts : List Int) (p : Pt) (c : Nat) (v : E) (h : p.V.length = 5) (ha : amts.length = 5) (hv : p.V[c]? = some v) (hn : amts[c]? = some 0) : vlK j amts p (c + 1) = vlK j amts p c := by
  rw [vlK_next j amts p c v 0 h ha hv hn, eb_fz0, E.zero_mul, E.add_zero]
  exact set_self26 _ _ _ (vlK_get j amts p c v h ha hv)
theorem ptc_set (us : List PtW) (i j : Nat) (u u' : PtW) (x : Value) (hu : us[i]? = some u) (hj : (ptc u).set j x = ptc u') (h5 : j < 3) : (us.flatMap ptc).set (i * 3 + j) x = (us.set i u').flatMap ptc := by
  have hi := (List.getElem?_eq_some_iff.1 hu).1
  induction us generalizing i with
  | nil => cases hu
  | cons y us ih =>
    rcases i with _ | i
    · cases hu
      rw [List.flatMap_cons, List.set_cons_zero, List.flatMap_cons, Nat.zero_mul, Nat.zero_add, List.set_append_left _ _ (by rw [ptc_len]; exact h5), hj]
    · rw [List.flatMap_cons, List.set_cons_succ, List.flatMap_cons, List.set_append_right _ _ (by rw [ptc_len, Nat.succ_mul]; omega), ptc_len, show (i + 1) * 3 + j - 3 = i * 3 + j by rw [Nat.succ_mul]; omega]
      rw [ih i (by simpa using hu) (by simpa using hi)]
def SP (w0 : Bse) (N gE : Nat) (v : Value) (g : Nat) : Prop := (InB w0 g ∨ N ≤ g) ∧ v.ownBlock ≠ some g ∧ g ≠ gE
def PtsN (w0 : Bse) (N gE : Nat) (W : World) (v : Value) (ps : List PtW) (pts : List Pt) : Prop := W.ownsRow N 80 3 v ps.length (ps.flatMap ptc) ∧ ∀ X, Keeps (SP w0 N gE v) W X → Al (PtIn X) ps pts
theorem ChS.ptsN {w0 : Bse} {w W : World} {N gE i : Nat} {us : List EpW} {u : EpW} {rest : List Value} {ps : List PtW} {e : Ep} (h : ChS w0 w W N gE us i u rest ps e) : PtsN w0 N gE W u.p ps e.pts :=
  ⟨h.own, fun X hX => h.pts.mono fun _ _ hp => hp.old ((h.h0.below h.hB).keeps hX fun g hg => by
    have h1 := h.h0.1
    have h2 := h.hw
    have h3 := h.hN
    have h4 := hg.2
    exact ⟨.inl hg, fun e => by have := (own_block h.own e).1; omega, by omega⟩)⟩
theorem PtsN.keep {w0 : Bse} {W X : World} {N gE : Nat} {v : Value} {ps : List PtW} {pts : List Pt} (h : PtsN w0 N gE W v ps pts) (hb : Below W.heap.size W X) : PtsN w0 N gE X v ps pts :=
  ⟨own_below h.1 (Nat.le_refl _) hb, fun Y hY => h.2 Y ((Keeps.of_below hb).trans hY)⟩
theorem own_setC {w : World} {base n size g cap idx : Nat} {e : TypeId} {cs : List Value} {x : Value} (h : w.ownsRow base e size (.slice (some ⟨g, 0, none⟩) n cap) n cs) (hi : idx < cs.length) : (w.setCell ⟨g, idx, none⟩ x).ownsRow base e size (.slice (some ⟨g, 0, none⟩) n cap) n (cs.set idx x) := by
  obtain ⟨h1, h2⟩ := h
  rcases h2 with ⟨h2, _⟩ | ⟨g', cap', cur, hv, q1, q2, q3, q4, q5, q6⟩
  · cases h2
  · cases hv
    have hb : Blk w g e cur := q2
    refine ⟨by rw [List.length_set]; exact h1, .inr ⟨g, cap, cur.setIfInBounds idx x, rfl, q1, hb.set_ idx x, q3, q4, by simp [q5], ?_⟩⟩
    rw [Array.toList_setIfInBounds, ← q6, List.take_set]
theorem ptK_len (j : Nat) (amts : List Int) (pts : List Pt) (k : Nat) : (ptK j amts pts k).length = pts.length := by
  unfold ptK
  rw [List.length_append, List.length_map, List.length_take, List.length_drop]
  omega
theorem ep_cell {W : World} {gE i j : Nat} {us : List EpW} {u : EpW} {rest : List Value} {x : Value} (h : Blk W gE 75 ((us.set i u).flatMap epc ++ rest).toArray) (hi : i < us.length) (hj : (epc u)[j]? = some x) : W.cell? ⟨gE, i * 5 + j, none⟩ = some x := by
  rw [h.cell]
  have h1 := flat_get epc_len (us.set i u) i j u x (List.getElem?_set_self hi) hj
  simp only [List.getElem?_toArray]
  rw [List.getElem?_append_left (List.getElem?_eq_some_iff.1 h1).1]
  exact h1
attribute [local irreducible] wpRg
set_option maxRecDepth 100000 in
set_option maxHeartbeats 4000000 in
theorem gAddM (w0 : Bse) (w W : World) (N gE i : Nat) (us : List EpW) (u : EpW) (rest : List Value) (ps : List PtW) (e : Ep) (hC : ChS w0 w W N gE us i u rest ps e) (amts : List Int) (ha5 : amts.length = 5) (ha : ∀ n ∈ amts, -9223372036854775808 ≤ n ∧ n ≤ 9223372036854775807)
    (j : Nat) (hj : j ≤ 1000000) (hp : e.pts.length ≤ 1000) (hpt : ∀ p ∈ e.pts, p.R.length ≤ 60 ∧ p.V.length = 5) (hL : Laid w) :
    Calls Tryz.prog 59 #[.pointer (some ⟨gE, i * 5, none⟩), .int .i64 (j : Int), .agg (ai amts).toArray] W fun r W2 => (∃ v, r = .returned v) ∧ ∃ ps', PtsN w0 N gE W2 u.p ps' (e.pts.map (addP j amts)) ∧ Blk W2 gE 75 ((us.set i u).flatMap epc ++ rest).toArray ∧ Below N W W2 := by
  obtain ⟨S, hS⟩ : ∃ S, S = Value.agg (ai amts).toArray := ⟨_, rfl⟩
  rw [← hS]
  have HH := Lib.hid hC
  have HA := Lib.hid ha
  have HP := Lib.hid hpt
  have hpn := Lib.hid hC.ptsN
  have hb1 := hC.b
  have hN := hC.hN
  have hwN := hC.hw
  have HL := Lib.hid (hL.keep hC.hB)
  have hone : 1 < N := by have := hL.2.2; omega
  have hpl : ps.length = e.pts.length := hC.pts.1
  have c3 := hC.cell 3 _ rfl
  obtain ⟨Ap, cp, hup⟩ := own_lenR hC.own
  have hup' := hup
  rw [hup] at c3 hpn
  rw [hpl] at c3 hpn
  clear hC ha hpt hL
  go_enter Tryz.func59, Tryz.ntmps59
  go_upto_region 1 with (fail)
  refine wp_stk1 fun X hX hXz b5 => ?_
  have b5' : Blk X W.heap.size 108 (ai amts).toArray := by first | exact b5 | (rw [hS] at b5; exact b5)
  have lE := hb1.lt
  have hXs : X.heap.size = W.heap.size + 1 := hXz.out
  have HS := Lib.hid hS
  have c3X := (hX.cell (p := ⟨gE, i * 5 + 3, none⟩) lE).trans c3
  have hbX := hb1.keep hX
  have hpX := Lib.hid (hpn.out.keep hX)
  have hNX : Below N W X := hX.mono (by omega)
  clear b5 hXz hS c3 hb1 hpn
  go_wp2_with fail
  go_loopw [16] (fun q wr => ∃ (k : Nat) (ps1 : List PtW), k ≤ e.pts.length ∧ q = .int .i64 k ∧ PtsN w0 N gE wr (.slice Ap e.pts.length cp) ps1 (ptK j amts e.pts k) ∧ Blk wr gE 75 ((us.set i u).flatMap epc ++ rest).toArray ∧ Blk wr W.heap.size 108 (ai amts).toArray ∧ Below N W wr) (fun q _ => e.pts.length - (intOf q).toNat)
  case atStart => exact ⟨0, ps, Nat.zero_le _, rfl, by rw [ptK_zero]; exact hpX.out, hbX, b5', hNX⟩
  case round =>
    clear hbX b5' hpX hNX c3X
    obtain ⟨k, ps1, hk, rfl, hpn, hb1, b5, hBr⟩ := hrel
    by_cases hlt : k < e.pts.length
    · obtain ⟨p, hp'⟩ : ∃ p, e.pts[k]? = some p := ⟨e.pts[k], List.getElem?_eq_getElem hlt⟩
      obtain ⟨hR60, hV5⟩ := HP.out p (List.mem_of_getElem? hp')
      have hpk := ptK_get j amts e.pts k p hp'
      obtain ⟨u1, p1, hu1, hp1, hin⟩ := (hpn.2 wr (Keeps.refl _)).get (k := k) (by rw [ptK_len]; exact hlt)
      obtain rfl : p1 = p := Option.some.inj (hp1.symm.trans hpk)
      obtain ⟨hr1, hv1, hus1⟩ := hin
      obtain ⟨r1A, r1c, hr1v⟩ := Rd.len hr1
      obtain ⟨v1A, v1c, hv1v⟩ := Rd.len hv1
      obtain ⟨ur, uv, uu⟩ := u1
      dsimp only at hr1 hv1 hus1 hr1v hv1v
      subst hr1v
      subst hv1v
      subst hus1
      have hv1' : Rd 0 wr.heap.size 2 wr (.slice v1A p1.V.length v1c) p1.V.length (p1.V.flatMap ec) := hv1
      rw [hV5] at hv1 hv1' hu1
      have hl1 : ps1.length = e.pts.length := by rw [(hpn.2 wr (Keeps.refl _)).1, ptK_len]
      obtain ⟨gP, cP, restP, hvP, hcP, hgP, hgP2, bP⟩ := (own_a hpn.1).form (by omega)
      rw [hl1] at hvP hcP
      cases hvP
      have kP : ∀ q x, (ptc ⟨.slice r1A p1.R.length r1c, .slice v1A 5 v1c, p1.used⟩)[q]? = some x → wr.cell? ⟨gP, k * 3 + q, none⟩ = some x := fun q x hq => by
        rw [bP.cell]
        have h1 := flat_get ptc_len ps1 k q _ x hu1 hq
        simp only [List.getElem?_toArray]
        rw [List.getElem?_append_left (List.getElem?_eq_some_iff.1 h1).1]
        exact h1
      have k0 := kP 0 _ rfl
      have k1 := kP 1 _ rfl
      have k2 := kP 2 _ rfl
      rw [Nat.add_zero] at k0
      obtain ⟨ip, hip, ip0, ip1, ip2⟩ := info_parts pt_info
      have HPN := Lib.hid hpn
      have HU1 := Lib.hid hu1
      clear hpn hpk hp1 hu1
      go_upto_region 3 with (fail)
      refine wp_region_lit ?_
      iterate 3 (refine wpList_plain rfl fun K hK => ?_; go_big_op; refine hK _ _ ?_; clear hK K)
      refine wpList_plain rfl fun K2 hK2 => wp_of_step (stepAt_mono (fun v7 w7 hh => ?_) (step_new0 hip ip0 rfl))
      obtain ⟨rfl, rfl⟩ := hh
      refine hK2 _ _ ?_
      clear hK2 K2
      try simp only [Act.put, List.setIfInBounds_toArray, List.set_cons_succ, List.set_cons_zero]
      have b7 : Blk (wr.alloc (.cells (Value.agg #[.slice none 0 0, .slice none 0 0, .bool false]).cells 80)) wr.heap.size 80 #[.slice none 0 0, .slice none 0 0, .bool false] := World.alloc_heap_new wr _
      have B7 := (Below.refl _ wr).alloc (Nat.le_refl _) (.cells (Value.agg #[.slice none 0 0, .slice none 0 0, .bool false]).cells 80)
      have s7 : (wr.alloc (.cells (Value.agg #[.slice none 0 0, .slice none 0 0, .bool false]).cells 80)).heap.size = wr.heap.size + 1 := by simp
      generalize wr.alloc (.cells (Value.agg #[.slice none 0 0, .slice none 0 0, .bool false]).cells 80) = w7 at *
      iterate 1 (refine wpList_plain rfl fun K hK => ?_; go_big_op; refine hK _ _ ?_; clear hK K)
      refine wpList_put rfl 80 (.tmp 7) (.tmp 20) rfl rfl (cells := [.slice r1A p1.R.length r1c, .slice v1A 5 v1c, .bool p1.used]) rfl b7 (by simp) (by simp [hip, ip1]) rfl (spl_all _ _ rfl) fun X3 hX3 bX3 => ?_
      have BX3 : Below wr.heap.size wr X3 := below_put B7 hX3 (Nat.le_refl _)
      have s3 : X3.heap.size = wr.heap.size + 1 := by rw [hX3.size, s7]
      clear b7 B7 s7 hX3 k0 k1 k2
      obtain ⟨g7, hg7⟩ : ∃ g, g = wr.heap.size := ⟨_, rfl⟩
      rw [← hg7] at bX3 s3 ⊢
      have c70 := bX3.cell 0
      have c71 := bX3.cell 1
      simp only [List.getElem?_toArray, List.getElem?_cons_zero, List.getElem?_cons_succ] at c70 c71
      have l7 := bX3.lt
      have h7a : wr.heap.size ≤ g7 := by omega
      clear hg7 s3
      try simp only [Act.put, List.setIfInBounds_toArray, List.set_cons_succ, List.set_cons_zero]
      go_upto_region 4 with (fail)
      refine wp_region_lit ?_
      iterate 2 (refine wpList_plain rfl fun K hK => ?_; go_big_op; refine hK _ _ ?_; clear hK K)
      refine wpList_plain rfl fun K6 hK6 => wp_of_step (stepAt_mono (fun v23 w23 hh => ?_) (step_callr en_slices_Clone___attestor_api_Ext_attestor_api_Ext2 (gCloneEx 5 (p1.V.flatMap ec) (by omega) (fun x hx => by obtain ⟨y, _, hy⟩ := List.mem_flatMap.1 hx; exact ec_one y x hy) _ _ _ X3 (Rd.keep hv1' BX3)) rfl rfl))
      obtain ⟨o23, B23⟩ := hh
      refine hK6 _ _ ?_
      clear hK6 K6
      try simp only [Act.put, List.setIfInBounds_toArray, List.set_cons_succ, List.set_cons_zero]
      obtain ⟨gv, cv, restv, rfl, hcv, hgv, hgv2, bv⟩ := o23.form (by omega)
      iterate 1 (refine wpList_plain rfl fun K hK => ?_; go_big_op; refine hK _ _ ?_; clear hK K)
      have hBX3 := hBr.trans (BX3.mono (by omega))
      have B23N := hBX3.trans (B23.mono (by omega))
      have b5w := (b5.keep BX3).keep B23
      have hb1w := (hb1.keep BX3).keep B23
      have bPw := (bP.keep BX3).keep B23
      have b7w := bX3.keep B23
      have Bw := BX3.trans (B23.mono BX3.size)
      have hr1w := hr1.keep Bw
      have hgvs : wr.heap.size < gv := by omega
      have lPw := bPw.lt
      have lEw := hb1w.lt
      have l5w := b5w.lt
      have lwr := b5.lt
      have lPr := bP.lt
      have lEr := hb1.lt
      have h7v : g7 < gv := by omega
      have hPv : gP < gv := by omega
      have hEv : gE < gv := by omega
      have h5v : W.heap.size < gv := by omega
      have hgN : N ≤ gv := by omega
      clear c70 c71 l7 o23 bX3 B23 BX3 hBX3 hgv
      try simp only [Act.put, List.setIfInBounds_toArray, List.set_cons_succ, List.set_cons_zero]
      go_upto_region 5 with (fail)
      refine wp_region_lit ?_
      refine wpList_plain rfl fun K9 hK9 => wp_of_step (stepAt_mono (fun v24 w24 hh => ?_) (step_loadR0 (cs := ai amts) am_under rfl (by rw [am_size]; simp [ai, ha5]) rfl rfl (blk_range b5w)))
      obtain ⟨rfl, rfl⟩ := hh
      refine hK9 _ _ ?_
      clear hK9 K9
      try simp only [Act.put, List.setIfInBounds_toArray, List.set_cons_succ, List.set_cons_zero]
      obtain ⟨S24, hS24⟩ : ∃ S, S = Value.agg (ai amts).toArray := ⟨_, rfl⟩
      rw [← hS24]
      have HS24 := Lib.hid hS24
      clear hS24
      have bv0 : Blk w24 gv 86 ((vlK j amts p1 0).flatMap ec ++ restv).toArray := by rw [vlK_zero]; exact bv
      clear bv
      obtain ⟨wo, hwo⟩ : ∃ wo, wo = wr := ⟨_, rfl⟩
      subst hwo
      go_wp2_with fail
      go_loopw [25] (fun q wq => ∃ c : Nat, c ≤ 5 ∧ q = .int .i64 c ∧ Blk wq gv 86 ((vlK j amts p1 c).flatMap ec ++ restv).toArray ∧ Below gv w24 wq) (fun q _ => 5 - (intOf q).toNat)
      case atStart => exact ⟨0, Nat.zero_le _, rfl, bv0, Below.refl _ _ |>.mono (Nat.le_of_lt hgv2)⟩
      case round =>
        clear bv0
        obtain ⟨c, hc, rfl, bv, hBq⟩ := hrel
        by_cases hc5 : c < 5
        · obtain ⟨n, hn⟩ : ∃ n, amts[c]? = some n := ⟨amts[c]'(by omega), List.getElem?_eq_getElem (by omega)⟩
          obtain ⟨v, hv⟩ : ∃ v, p1.V[c]? = some v := ⟨p1.V[c]'(by omega), List.getElem?_eq_getElem (by omega)⟩
          obtain ⟨hna, hnb⟩ := HA.out n (List.mem_of_getElem? hn)
          have hix := run_ixA ha5 hc5 hn
          rw [← HS24.out] at hix
          by_cases hn0 : n = 0
          · subst hn0
            have HV := Lib.hid (vlK_same j amts p1 c v hV5 ha5 hv hn)
            clear hn hv
            go_wp2_with fail
            exact ⟨⟨c + 1, by omega, by go_num, by rw [HV.out]; exact bv, hBq⟩, by simp [intOf]; omega⟩
          · have HV := Lib.hid (vlK_next j amts p1 c v n hV5 ha5 hv hn)
            have hvg := vlK_get j amts p1 c v hV5 ha5 hv
            have hvl := vlK_len j amts p1 c (by omega) hV5 ha5
            clear hn hv
            generalize vlK j amts p1 c = V0 at *
            obtain ⟨s1, s2⟩ := blk_cellP bv hvg
            have c70 := (b7w.below hBq (by omega)).cell 0
            simp only [List.getElem?_toArray, List.getElem?_cons_zero] at c70
            have l7q := (b7w.below hBq (by omega)).lt
            have lvq := bv.lt
            have z1 := gw_cell lvq s1
            have z2 := gw_cell lvq s2
            have z3 := gw_cell l7q c70
            have hBwq : Below wo.heap.size wo wr := Bw.trans (hBq.mono (by omega))
            have hr1q := hr1.keep hBwq
            have hLq := HL.out.below (hBr.trans (hBwq.mono (by omega))) hone
            go_upto_region 9 with (fail)
            refine wp_region_rg 13 [(8, Spec.val (.agg #[.int .u64 (fv ((eb (fz n))).a), .int .u64 (fv ((eb (fz n))).b)])), (11, Spec.val (.agg #[.int .u64 (fv ((v + eb (fz n) * eqi j p1.R)).a), .int .u64 (fv ((v + eb (fz n) * eqi j p1.R)).b)]))] (by kernel_rfl) (by kernel_rfl) (by kernel_rfl) trivial ?_
            iterate 8 (refine rg_det rfl rfl rfl (fun K hK => ?_); go_big_quiet_op; refine hK _ ?_; clear hK K)
            refine rg_val rfl rfl (fun W1 hW1 hF => step_callv en_attestor_ext_FromInt ((show Calls Tryz.prog 104 #[.int .i64 n] W1 (Ret (ev (eb (fz n))) W1) from eFromInt n hna hnb W1)) rfl rfl) ?_
            intro a' ha
            simp only [Act.put, List.setIfInBounds_toArray, List.set_cons_succ, List.set_cons_zero] at ha
            subst ha
            iterate 2 (refine rg_det rfl rfl rfl (fun K hK => ?_); go_big_quiet_op; refine hK _ ?_; clear hK K)
            refine rg_val rfl rfl (fun W1 hW1 hF => step_callv en_attestor_mle_Accumulate (gAccumulate v (eb (fz n)) j p1.R hj hR60 _ 0 wr.heap.size W1 (Rd.wide (Rd.keep hr1q (grw_below hW1)) (Nat.le_refl _) (Nat.le_refl _)) (grw_below hW1).size (hLq.keep (grw_below hW1))) rfl rfl) ?_
            intro a' ha
            simp only [Act.put, List.setIfInBounds_toArray, List.set_cons_succ, List.set_cons_zero] at ha
            subst ha
            refine rg_det rfl rfl rfl (fun K hK => ?_)
            go_big_quiet_op
            refine hK _ ?_; clear hK K
            refine rg_nil (fun w' hw' hF => ?_)
            obtain ⟨z, rfl⟩ := hw'
            simp only [List.drop_succ_cons, List.drop_zero]
            have bvz := bv.keep z.h
            have hBz := hBq.trans (z.h.mono (Nat.le_trans (Nat.le_of_lt hgv2) hBq.size))
            obtain ⟨t1, t2⟩ := blk_cellP bvz hvg
            have fv9 := bvz.frozen
            generalize v + eb (fz n) * eqi j p1.R = y at *
            have hlV : c < V0.length := by omega
            clear hF z1 z2 z3 s1 s2 c70 hr1q hLq hBwq bv hBq hvg hvl hix
            go_wp2_with fail
            exact ⟨⟨c + 1, by omega, by go_num, by rw [HV.out]; exact blk_setP bvz c y hlV, below_setE hBz (Nat.le_refl _)⟩, by simp [intOf]; omega⟩
        · obtain rfl : c = 5 := by omega
          rw [vlK_all j amts p1 hV5 ha5] at bv
          have b5q := b5w.below hBq h5v
          have hb1q := hb1w.below hBq hEv
          have bPq := bPw.below hBq hPv
          have hBwq : Below wo.heap.size wo wr := Bw.trans (hBq.mono (by omega))
          have c3q : wr.cell? ⟨gE, i * 5 + 3, none⟩ = some (.slice (some ⟨gP, 0, none⟩) e.pts.length cp) := ep_cell hb1q HH.out.hi (by rw [← hpl, ← hup']; rfl)
          have fP := bPq.frozen
          have kP1 := (hBwq.cell (p := ⟨gP, k * 3 + 1, none⟩) lPr).trans (kP 1 _ rfl)
          have lEq := hb1q.lt
          have lPq := bPq.lt
          go_upto_region 12 with (fail)
          obtain ⟨u2, hu2⟩ : ∃ u2 : PtW, u2 = ⟨.slice r1A p1.R.length r1c, .slice (some ⟨gv, 0, none⟩) 5 cv, p1.used⟩ := ⟨_, rfl⟩
          have howr := own_below HPN.out.1 (Nat.le_refl _) hBwq
          rw [hl1] at howr
          have hkl : k * 3 + 1 < (ps1.flatMap ptc).length := by rw [flat_length ptc_len, hl1]; omega
          have hown2 := own_setC (idx := k * 3 + 1) (x := Value.slice (some ⟨gv, 0, none⟩) 5 cv) howr hkl
          rw [ptc_set ps1 k 1 _ u2 _ HU1.out (by rw [hu2]; rfl) (by decide)] at hown2
          obtain ⟨Z, hZ⟩ : ∃ Z, Z = wr.setCell ⟨gP, k * 3 + 1, none⟩ (.slice (some ⟨gv, 0, none⟩) 5 cv) := ⟨_, rfl⟩
          have hZp : Put wr Z gP := by rw [hZ]; exact Put.set _ _ _ _
          rw [← hZ] at hown2 ⊢
          have hgPW : gP < W.heap.size := (own_block HH.out.own (by rw [hup']; rfl)).2
          have b5Z := hZp.blk b5q (by omega)
          have hb1Z := hZp.blk hb1q (by have := own_block HPN.out.1 rfl; intro hc; exact HH.out.ne (by rw [hup']; simp [Value.ownBlock]; omega))
          have bvZ := hZp.blk bv (by omega)
          have hBZ : Below N W Z := below_put (hBr.trans (hBwq.mono (by omega))) hZp hgP
          have hal2 : ∀ Y, Keeps (SP w0 N gE (.slice (some ⟨gP, 0, none⟩) e.pts.length cp)) Z Y → Al (PtIn Y) (ps1.set k u2) (ptK j amts e.pts (k + 1)) := fun Y hY => by
            have hk1 : Keeps (SP w0 N gE (.slice (some ⟨gP, 0, none⟩) e.pts.length cp)) wo Y := ((Keeps.of_below hBwq).trans (keeps_put hZp (fun h => h.2.1 rfl))).trans hY
            have hA1 := HPN.out.2 Y hk1
            obtain ⟨q1, q2, hq1, hq2, hq3⟩ := hA1.get (k := k) (by rw [ptK_len]; exact hlt)
            obtain rfl := Option.some.inj (HU1.out.symm.trans hq1)
            obtain rfl : q2 = p1 := Option.some.inj (hq2.symm.trans (ptK_get j amts e.pts k p1 hp'))
            rw [ptK_next j amts e.pts k q2 hp']
            refine hA1.set ⟨?_, ?_, ?_⟩
            · rw [hu2]; exact hq3.1
            · rw [hu2]
              have hbY : Blk Y gv 86 ((addP j amts q2).V.flatMap ec ++ restv).toArray := (hY.same gv ⟨.inr hgN, by simp [Value.ownBlock]; omega, by omega⟩ bvZ.lt).trans bvZ
              have h5 := addV_len j amts q2 hV5 ha5
              refine ⟨by rw [flat_length ec_len], by omega, _, cv, by rw [h5], by omega, fun _ => ⟨gv, 0, rfl, Nat.zero_le _, hbY.lt, hbY.lt, fun x y hy => ?_⟩⟩
              rw [Nat.zero_add, hbY.cell]
              simp only [List.getElem?_toArray]
              rw [List.getElem?_append_left (List.getElem?_eq_some_iff.1 hy).1]
              exact hy
            · rw [hu2]; rfl
          have hpn2 : PtsN w0 N gE Z (.slice (some ⟨gP, 0, none⟩) e.pts.length cp) (ps1.set k u2) (ptK j amts e.pts (k + 1)) := by
            refine ⟨?_, hal2⟩
            rw [List.length_set, hl1]
            exact hown2
          clear hal2 hown2 howr kP1 fP c3q bPq hb1q b5q bv hBq hBwq hZ hZp bvZ
          go_wp2_with fail
          exact ⟨⟨k + 1, ps1.set k u2, by omega, by go_num, hpn2, hb1Z, b5Z, hBZ⟩, by simp [intOf]; omega⟩
    · obtain rfl : k = e.pts.length := by omega
      rw [ptK_all] at hpn
      go_wp2_with fail
      go_end0
      exact ⟨⟨_, rfl⟩, ps1, by rw [hup']; have := hpn; rw [hpl]; exact this, hb1, hBr⟩
end Go.Proofs.YtoiampgfnidfdaaGreatDoor
