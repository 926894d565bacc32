/-
  The query that a statement of chapter 17 makes of what comes in.
-/
import Derived.Test.YtbmgngoeiadmmaaDoorInts
namespace Go.Proofs.YtbmgngoeiadmmaaDoor
open Go.RowKit

structure Qy where
  L : List Rg
  U : List Raw
  P : List Raw
  Q : List Raw
  x0 : Int
  x1 : Int
  y0 : Int
  y1 : Int
  K : Int
def Qy.k (q : Qy) : Nat := (q.K % 4).toNat
def Qy.gs (q : Qy) : List Gt := madeG q.L q.k 12
def Qy.us (q : Qy) : List E := madeAll q.U q.gs.length
def Qy.p (q : Qy) : List E := madeAll q.P q.k
def Qy.q (q : Qy) : List E := madeAll q.Q q.k
def Qy.x (q : Qy) : E := em q.x0 q.x1
def Qy.y (q : Qy) : E := em q.y0 q.y1
/-- A query as it lies: its slices, and its value. -/
structure QyS (N : Nat) (w : World) (q : Qy) (vL vU vP vQ : Value) : Prop where
  L : RawG 0 N w vL q.L
  U : RawS 0 N w vU q.U
  P : RawS 0 N w vP q.P
  Q : RawS 0 N w vQ q.Q
  x0 : Word q.x0
  x1 : Word q.x1
  y0 : Word q.y0
  y1 : Word q.y1
  K : 0 ≤ q.K ∧ q.K < 256
theorem RawS.keep {lo hi : Nat} {w w' : World} {v : Value} {xs : List Raw} (h : RawS lo hi w v xs) (hb : Below w.heap.size w w') : RawS lo hi w' v xs := ⟨h.1.keep hb, h.2⟩
theorem RawG.keep {lo hi : Nat} {w w' : World} {v : Value} {xs : List Rg} (h : RawG lo hi w v xs) (hb : Below w.heap.size w w') : RawG lo hi w' v xs := ⟨h.1.keep hb, h.2⟩
theorem Qy.gs_len (q : Qy) : q.gs.length ≤ 12 := by unfold Qy.gs madeG; rw [List.length_map]; exact List.length_take_le _ _
set_option maxRecDepth 100000 in
set_option maxHeartbeats 4000000 in
theorem lMade (q : Qy) (vL vU vP vQ : Value) (N : Nat) (w : World) (h : QyS N w q vL vU vP vQ) (hN : N ≤ w.heap.size) :
    Calls Tryd.prog 12 #[.agg #[vL, vU, vP, vQ, .int .u64 q.x0, .int .u64 q.x1, .int .u64 q.y0, .int .u64 q.y1, .int .u8 q.K]] w (fun e w' => ∃ a b c d, e = .returned (.tuple #[a, b, endsV c d q.x q.y]) ∧
      GateS w.heap.size w'.heap.size w' a q.gs ∧ ExtS w.heap.size w'.heap.size w' b q.us ∧ ExtS w.heap.size w'.heap.size w' c q.p ∧ ExtS w.heap.size w'.heap.size w' d q.q ∧ Below w.heap.size w w') := by
  obtain ⟨k0, k1⟩ := h.K
  go_enter Tryd.func12, Tryd.ntmps12
  go_wp2_with fail
  have hk : q.K % 4 = ((q.k : Nat) : Int) := by unfold Qy.k; omega
  have hk3 : q.k ≤ 3 := by unfold Qy.k; omega
  rw [hk]
  refine calls_stk2 fun W hB hz b1 b2 => ?_
  have hNW := Nat.le_trans hN hB.size
  refine (gMade q.L q.k 12 hk3 (by decide) vL N W (RawG.keep h.L hB) hNW).mono ?_
  rintro e w2 ⟨v2, rfl, hg, hb2⟩
  have hglen := q.gs_len
  have hg' : GateS W.heap.size w2.heap.size w2 v2 q.gs := hg
  obtain ⟨Ag, capg, rfl⟩ := hg'.len
  have hB2 := hB.trans (hb2.mono hB.size)
  have hU := RawS.keep h.U hB2
  have hP := RawS.keep h.P hB2
  have hQ := RawS.keep h.Q hB2
  have b1' := b1.keep hb2
  have b2' := b2.keep hb2
  have c1 := gw_blk b1'
  have hN2 := Nat.le_trans hN hB2.size
  have hw1 : w.heap.size + 1 < w2.heap.size := b2'.lt
  clear hk
  go_wp2_with fail
  refine wp_region_rg 27 [(5, Spec.rel (ExtA q.us) (SlF q.us.length)), (10, Spec.rel (ExtA q.p) (SlF q.p.length)), (15, Spec.rel (ExtA q.q) (SlF q.q.length)), (19, Spec.val (.agg #[.int .u64 (fv (q.x).a), .int .u64 (fv (q.x).b)])), (23, Spec.val (.agg #[.int .u64 (fv (q.y).a), .int .u64 (fv (q.y).b)]))] (by kernel_rfl) (by kernel_rfl) (by kernel_rfl) ⟨fit_ext, fit_ext, fit_ext, trivial⟩ ?_
  refine rg_det rfl rfl rfl (fun K hK => ?_)
  go_big_quiet_op
  refine hK _ ?_; clear hK K
  refine rg_det rfl rfl rfl (fun K hK => ?_)
  go_big_quiet_op
  refine hK _ ?_; clear hK K
  refine rg_det rfl rfl rfl (fun K hK => ?_)
  go_big_quiet_op
  refine hK _ ?_; clear hK K
  refine rg_det rfl rfl rfl (fun K hK => ?_)
  go_big_quiet_op
  refine hK _ ?_; clear hK K
  refine rg_det rfl rfl rfl (fun K hK => ?_)
  go_big_quiet_op
  refine hK _ ?_; clear hK K
  refine rg_rel rfl rfl (fun W1 hW1 hF => step_callr en_attestor_attestorref02_MadeAll (xMadeAll q.U q.gs.length (by omega) vU N W1 (RawS.keep hU (grw_below hW1)) (Nat.le_trans hN2 (grw_below hW1).size)) rfl rfl) ?_
  intro n5 m5 v5 hn5 hm5 hd5 hf5 a' ha
  simp only [Act.put, List.setIfInBounds_toArray, List.set_cons_succ, List.set_cons_zero] at ha
  subst ha
  obtain ⟨A5, cap5, rfl⟩ := hf5
  refine rg_det rfl rfl rfl (fun K hK => ?_)
  go_big_quiet_op
  refine hK _ ?_; clear hK K
  refine rg_det rfl rfl rfl (fun K hK => ?_)
  go_big_quiet_op
  refine hK _ ?_; clear hK K
  refine rg_det rfl rfl rfl (fun K hK => ?_)
  go_big_quiet_op
  refine hK _ ?_; clear hK K
  refine rg_det rfl rfl rfl (fun K hK => ?_)
  go_big_quiet_op
  refine hK _ ?_; clear hK K
  refine rg_rel rfl rfl (fun W1 hW1 hF => step_callr en_attestor_attestorref02_MadeAll (xMadeAll q.P q.k (by omega) vP N W1 (RawS.keep hP (grw_below hW1)) (Nat.le_trans hN2 (grw_below hW1).size)) rfl rfl) ?_
  intro n10 m10 v10 hn10 hm10 hd10 hf10 a' ha
  simp only [Act.put, List.setIfInBounds_toArray, List.set_cons_succ, List.set_cons_zero] at ha
  subst ha
  obtain ⟨A10, cap10, rfl⟩ := hf10
  refine rg_det rfl rfl rfl (fun K hK => ?_)
  go_big_quiet_op
  refine hK _ ?_; clear hK K
  refine rg_det rfl rfl rfl (fun K hK => ?_)
  go_big_quiet_op
  refine hK _ ?_; clear hK K
  refine rg_det rfl rfl rfl (fun K hK => ?_)
  go_big_quiet_op
  refine hK _ ?_; clear hK K
  refine rg_det rfl rfl rfl (fun K hK => ?_)
  go_big_quiet_op
  refine hK _ ?_; clear hK K
  refine rg_rel rfl rfl (fun W1 hW1 hF => step_callr en_attestor_attestorref02_MadeAll (xMadeAll q.Q q.k (by omega) vQ N W1 (RawS.keep hQ (grw_below hW1)) (Nat.le_trans hN2 (grw_below hW1).size)) rfl rfl) ?_
  intro n15 m15 v15 hn15 hm15 hd15 hf15 a' ha
  simp only [Act.put, List.setIfInBounds_toArray, List.set_cons_succ, List.set_cons_zero] at ha
  subst ha
  obtain ⟨A15, cap15, rfl⟩ := hf15
  refine rg_det rfl rfl rfl (fun K hK => ?_)
  go_big_quiet_op
  refine hK _ ?_; clear hK K
  refine rg_det rfl rfl rfl (fun K hK => ?_)
  go_big_quiet_op
  refine hK _ ?_; clear hK K
  refine rg_det rfl rfl rfl (fun K hK => ?_)
  go_big_quiet_op
  refine hK _ ?_; clear hK K
  refine rg_val rfl rfl (fun W1 hW1 hF => step_callv en_attestor_attestorref02_Made (xMade q.x0 q.x1 h.x0.1 h.x0.2 h.x1.1 h.x1.2 W1) rfl rfl) ?_
  intro a' ha
  simp only [Act.put, List.setIfInBounds_toArray, List.set_cons_succ, List.set_cons_zero] at ha
  subst ha
  refine rg_det rfl rfl rfl (fun K hK => ?_)
  go_big_quiet_op
  refine hK _ ?_; clear hK K
  refine rg_det rfl rfl rfl (fun K hK => ?_)
  go_big_quiet_op
  refine hK _ ?_; clear hK K
  refine rg_det rfl rfl rfl (fun K hK => ?_)
  go_big_quiet_op
  refine hK _ ?_; clear hK K
  refine rg_val rfl rfl (fun W1 hW1 hF => step_callv en_attestor_attestorref02_Made (xMade q.y0 q.y1 h.y0.1 h.y0.2 h.y1.1 h.y1.2 W1) rfl rfl) ?_
  intro a' ha
  simp only [Act.put, List.setIfInBounds_toArray, List.set_cons_succ, List.set_cons_zero] at ha
  subst ha
  refine rg_det rfl rfl rfl (fun K hK => ?_)
  go_big_quiet_op
  refine hK _ ?_; clear hK K
  refine rg_det rfl rfl rfl (fun K hK => ?_)
  go_big_quiet_op
  refine hK _ ?_; clear hK K
  refine rg_det rfl rfl rfl (fun K hK => ?_)
  go_big_quiet_op
  refine hK _ ?_; clear hK K
  refine rg_nil (fun w' hw' hF => ?_)
  obtain ⟨z, rfl⟩ := hw'
  simp only [List.drop_succ_cons, List.drop_zero]
  obtain ⟨hm15, t15⟩ := end_last hF
  obtain ⟨hm10, t10⟩ := end_last (end_init hF)
  obtain ⟨hm5, t5⟩ := end_last (end_init (end_init hF))
  clear hF c1
  have b2z := b2'.gw z
  have e1 := b2z.cell
  have e2 := b2z.frozen
  go_wp2_with fail
  obtain ⟨X, hX⟩ : ∃ X, ((((((z.w.setCell ⟨w.heap.size + 1, 0, none⟩ (.slice A10 q.p.length cap10)).setCell ⟨w.heap.size + 1, 1, none⟩ (.slice A15 q.q.length cap15)).setCell ⟨w.heap.size + 1, 2, none⟩ (.int .u64 (fv q.x.a))).setCell ⟨w.heap.size + 1, 3, none⟩ (.int .u64 (fv q.x.b))).setCell ⟨w.heap.size + 1, 4, none⟩ (.int .u64 (fv q.y.a))).setCell ⟨w.heap.size + 1, 5, none⟩ (.int .u64 (fv q.y.b))) = X := ⟨_, rfl⟩
  have bX : Blk X (w.heap.size + 1) 33 #[.slice A10 q.p.length cap10, .slice A15 q.q.length cap15, .int .u64 (fv q.x.a), .int .u64 (fv q.x.b), .int .u64 (fv q.y.a), .int .u64 (fv q.y.b)] := by
    rw [← hX]; exact (((((b2z.set_ 0 _).set_ 1 _).set_ 2 _).set_ 3 _).set_ 4 _).set_ 5 _
  have hzs := z.h.size
  have hXs : X.heap.size = z.w.heap.size := by rw [← hX]; simp
  have hXB : Below (w.heap.size + 1) z.w X := by
    rw [← hX]
    exact ((((((Below.refl _ _).setCell (p := ⟨w.heap.size + 1, 0, none⟩) (Nat.le_refl _) _).setCell (p := ⟨w.heap.size + 1, 1, none⟩) (Nat.le_refl _) _).setCell (p := ⟨w.heap.size + 1, 2, none⟩) (Nat.le_refl _) _).setCell (p := ⟨w.heap.size + 1, 3, none⟩) (Nat.le_refl _) _).setCell (p := ⟨w.heap.size + 1, 4, none⟩) (Nat.le_refl _) _).setCell (p := ⟨w.heap.size + 1, 5, none⟩) (Nat.le_refl _) _
  have hXo : ∀ g, g ≠ w.heap.size + 1 → X.heap[g]? = z.w.heap[g]? := fun g hg => by
    rw [← hX]
    repeat rw [Below.heap_setCell _ _ _ g (by exact hg)]
  rw [hX]
  clear hX e1 e2
  have e1 := bX.cell
  have hWs : W.heap.size = w.heap.size + 1 + 1 := hz.out
  have hW2 := hb2.size
  have hO : Below w.heap.size w X := (hB2.trans (z.h.mono hB2.size)).trans (hXB.mono (Nat.le_succ _))
  refine bodyPost_ret (v := .tuple #[.slice Ag q.gs.length capg, .slice A5 q.us.length cap5, endsV (.slice A10 q.p.length cap10) (.slice A15 q.q.length cap15) q.x q.y]) (by simp [results, Tryd.results12, go_sem, e1, endsV]) rfl ⟨_, _, _, _, rfl, ?_, ?_, ?_, ?_, hO⟩
  · exact (Rd.other (hg'.keep z.h) (by omega) fun g h1 h2 h3 => hXo g (by omega)).wide (by omega) (by omega)
  · exact (Rd.other t5 (by omega) fun g h1 h2 h3 => hXo g (by omega)).wide (by omega) (by omega)
  · exact (Rd.other t10 (by omega) fun g h1 h2 h3 => hXo g (by omega)).wide (by omega) (by omega)
  · exact (Rd.other t15 (by omega) fun g h1 h2 h3 => hXo g (by omega)).wide (by omega) (by omega)
end Go.Proofs.YtbmgngoeiadmmaaDoor
