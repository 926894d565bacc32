/-
  The arguments of the statements of chapter 05, as 'made' hands them back.
-/
import Derived.Test.YtnfiomccgakooaaDoorMr3
import Derived.Test.YtnfiomccgakooaaDoorPut
namespace Go.Proofs.YtnfiomccgakooaaDoor
open Go.RowKit

structure Q5 where
  T : List Raw
  P : List Raw
  Q : List Raw
  N : Int
def Q5.n (q : Q5) : Nat := (q.N % 7).toNat
def Q5.t (q : Q5) : List E := mdT q.T (2 ^ q.n)
def Q5.p (q : Q5) : List E := madeAll q.P q.n
def Q5.s (q : Q5) : List E := madeAll q.Q q.n
/-- A query as it lies. -/
structure Q5S (N : Nat) (w : World) (q : Q5) (vT vP vQ : Value) : Prop where
  T : RawS 0 N w vT q.T
  P : RawS 0 N w vP q.P
  Q : RawS 0 N w vQ q.Q
  K : 0 ≤ q.N ∧ q.N < 256
theorem Q5.n6 (q : Q5) : q.n ≤ 6 := by unfold Q5.n; omega
theorem Q5.t_len (q : Q5) : q.t.length = 2 ^ q.n := mdT_length _ _
theorem Q5.p_len (q : Q5) : q.p.length = q.n := madeAll_length _ _
theorem Q5.s_len (q : Q5) : q.s.length = q.n := madeAll_length _ _
def qv5 (vT vP vQ : Value) (q : Q5) : Value := .agg #[vT, vP, vQ, .int .u8 q.N]
theorem RawS.keep5 {lo hi : Nat} {w w' : World} {v : Value} {xs : List Raw} (h : RawS lo hi w v xs) (hb : Below w.heap.size w w') : RawS lo hi w' v xs := ⟨h.1.keep hb, h.2⟩
theorem Q5S.keep {N : Nat} {w w' : World} {q : Q5} {vT vP vQ : Value} (h : Q5S N w q vT vP vQ) (hb : Below w.heap.size w w') : Q5S N w' q vT vP vQ :=
  ⟨RawS.keep5 h.T hb, RawS.keep5 h.P hb, RawS.keep5 h.Q hb, h.K⟩
/-- What lies apart: three ranges of blocks. -/
def Apart (n m k l : Nat) : Prop := m ≤ k ∨ l ≤ n
set_option maxRecDepth 100000 in
set_option maxHeartbeats 4000000 in
theorem lMade5 (q : Q5) (vT vP vQ : Value) (N : Nat) (w : World) (h : Q5S N w q vT vP vQ) (hN : N ≤ w.heap.size) :
    Calls Tryd.prog 7 #[qv5 vT vP vQ q] w (fun e w' => ∃ a b c n1 m1 n2 m2 n3 m3, e = .returned (.tuple #[a, b, c]) ∧ OwnX q.t n1 m1 a w' ∧ OwnX q.p n2 m2 b w' ∧ OwnX q.s n3 m3 c w' ∧
      (w.heap.size ≤ n1 ∧ w.heap.size ≤ n2 ∧ w.heap.size ≤ n3 ∧ m1 ≤ w'.heap.size ∧ m2 ≤ w'.heap.size ∧ m3 ≤ w'.heap.size) ∧ (Apart n1 m1 n2 m2 ∧ Apart n1 m1 n3 m3 ∧ Apart n2 m2 n3 m3) ∧ Below w.heap.size w w') := by
  obtain ⟨k0, k1⟩ := h.K
  unfold qv5
  have hn6 := q.n6
  go_enter Tryd.func7, Tryd.ntmps7
  go_wp2_with fail
  refine wp_stk1 fun W hB hz b1 => ?_
  have hk : q.N % 7 = ((q.n : Nat) : Int) := by unfold Q5.n; omega
  try rw [hk]
  have c1 := gw_blk b1
  have hNW := Nat.le_trans hN hB.size
  have h' := h.keep hB
  have hn8 : q.n ≤ 8 := by omega
  have hn1 : q.n ≤ 1000 := by omega
  clear h hk
  refine wp_region_rg 12 [(3, Spec.rel (OwnX q.t) (SlF q.t.length)), (7, Spec.rel (OwnX q.p) (SlF q.p.length)), (11, Spec.rel (OwnX q.s) (SlF q.s.length))] (by kernel_rfl) (by kernel_rfl) (by kernel_rfl) ⟨fit_own, fit_own, fit_own, trivial⟩ ?_
  refine rg_det rfl rfl rfl (fun K hK => ?_)
  go_big_quiet_op
  refine hK _ ?_; clear hK K
  refine rg_det rfl rfl rfl (fun K hK => ?_)
  go_big_quiet_op
  refine hK _ ?_; clear hK K
  refine rg_det rfl rfl rfl (fun K hK => ?_)
  go_big_quiet_op
  refine hK _ ?_; clear hK K
  refine rg_rel rfl rfl (fun W1 hW1 hF => step_callr en_attestor_attestorref05_Made (rMadeW q.T q.n hn8 vT N W1 (RawS.keep5 h'.T (grw_below hW1)) (Nat.le_trans hNW (grw_below hW1).size)) rfl rfl) ?_
  intro n3 m3 v3 hn3 hm3 hd3 hf3 a' ha
  simp only [Act.put, List.setIfInBounds_toArray, List.set_cons_succ, List.set_cons_zero] at ha
  subst ha
  obtain ⟨A3, cap3, rfl⟩ := hf3
  refine rg_det rfl rfl rfl (fun K hK => ?_)
  go_big_quiet_op
  refine hK _ ?_; clear hK K
  refine rg_det rfl rfl rfl (fun K hK => ?_)
  go_big_quiet_op
  refine hK _ ?_; clear hK K
  refine rg_det rfl rfl rfl (fun K hK => ?_)
  go_big_quiet_op
  refine hK _ ?_; clear hK K
  refine rg_rel rfl rfl (fun W1 hW1 hF => step_callr en_attestor_attestorref02_MadeAll (xMadeAllW q.P q.n hn1 vP N W1 (RawS.keep5 h'.P (grw_below hW1)) (Nat.le_trans hNW (grw_below hW1).size)) rfl rfl) ?_
  intro n7 m7 v7 hn7 hm7 hd7 hf7 a' ha
  simp only [Act.put, List.setIfInBounds_toArray, List.set_cons_succ, List.set_cons_zero] at ha
  subst ha
  obtain ⟨A7, cap7, rfl⟩ := hf7
  refine rg_det rfl rfl rfl (fun K hK => ?_)
  go_big_quiet_op
  refine hK _ ?_; clear hK K
  refine rg_det rfl rfl rfl (fun K hK => ?_)
  go_big_quiet_op
  refine hK _ ?_; clear hK K
  refine rg_det rfl rfl rfl (fun K hK => ?_)
  go_big_quiet_op
  refine hK _ ?_; clear hK K
  refine rg_rel rfl rfl (fun W1 hW1 hF => step_callr en_attestor_attestorref02_MadeAll (xMadeAllW q.Q q.n hn1 vQ N W1 (RawS.keep5 h'.Q (grw_below hW1)) (Nat.le_trans hNW (grw_below hW1).size)) rfl rfl) ?_
  intro n11 m11 v11 hn11 hm11 hd11 hf11 a' ha
  simp only [Act.put, List.setIfInBounds_toArray, List.set_cons_succ, List.set_cons_zero] at ha
  subst ha
  obtain ⟨A11, cap11, rfl⟩ := hf11
  refine rg_nil (fun w' hw' hF => ?_)
  obtain ⟨z, rfl⟩ := hw'
  simp only [List.drop_succ_cons, List.drop_zero]
  obtain ⟨hm11, t11⟩ := end_last hF
  obtain ⟨hm7, t7⟩ := end_last (end_init hF)
  obtain ⟨hm3, t3⟩ := end_last (end_init (end_init hF))
  have d73 := hd7 (n3, m3) (by simp)
  have d113 := hd11 (n3, m3) (by simp)
  have d117 := hd11 (n7, m7) (by simp)
  simp only at d73 d113 d117
  have hws := hB.size
  have hzs := z.h.size
  clear hF c1 hd3 hd7 hd11
  go_wp2_with fail
  refine bodyPost_ret (v := .tuple #[.slice A3 q.t.length cap3, .slice A7 q.p.length cap7, .slice A11 q.s.length cap11]) (by simp [results, Tryd.results7, go_sem]) rfl ⟨_, _, _, n3, m3, n7, m7, n11, m11, rfl, t3, t7, t11, ?_, ?_, hB.trans (z.h.mono hB.size)⟩
  · exact ⟨by omega, by omega, by omega, by omega, by omega, by omega⟩
  · exact ⟨d73.symm, d113.symm, d117.symm⟩
end Go.Proofs.YtnfiomccgakooaaDoor
