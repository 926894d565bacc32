/-
  WiringPoint: the walk.
-/
import Derived.Test.YtbmgngoeiadmmaaDoorLay
namespace Go.Proofs.YtbmgngoeiadmmaaDoor
open Go.RowKit

theorem point_affine (p q : List E) (gs : List Gt) (us : List E) (t y : E) : point p q gs us 0 y + t * (point p q gs us 1 y - point p q gs us 0 y) = point p q gs us t y := by
  unfold point poly
  apply E.ext_ <;> simp only [mul_a, mul_b, add_a, add_b, sub_a, sub_b, zero_a, zero_b, one_a, one_b] <;> grind
set_option maxRecDepth 100000 in
set_option maxHeartbeats 8000000 in
theorem wkPoint (q : Qy) (vL vU vP vQ : Value) (r : Raw) (w : World) (h : QyS w.heap.size w q vL vU vP vQ) (hr : Word r.1 ∧ Word r.2) (hL : Laid w) :
    Calls Tryd.prog 5 #[qv vL vU vP vQ q, .agg #[.int .u64 r.1, .int .u64 r.2]] w (Ret (.bool true) w) := by
  unfold qv
  obtain ⟨i0, hi0, iz0, iz1, iz2⟩ := info_parts ext_info
  obtain ⟨j0, hj0, hjz0, hjz1, hjz2⟩ := info_parts ends_info
  go_enter Tryd.func5, Tryd.ntmps5
  go_wp2_with fail
  refine calls_stk2 fun W1 hB1 hz1 b1 b2 => ?_
  refine (lSanity W1 (hL.keep hB1)).mono ?_
  rintro e w2 ⟨rfl, hb2⟩
  have hB2 := hB1.trans (hb2.mono hB1.size)
  have b2' := b2.keep hb2
  have e1 := (b1.keep hb2).cell
  go_wp2_with fail
  refine (lMade q vL vU vP vQ w.heap.size w2 (h.keep hB2) hB2.size).mono ?_
  rintro e w3 ⟨a, b, c, d, rfl, m1, m2, m3, m4, hb3⟩
  obtain ⟨Ac, capc, rfl⟩ := Rd.len m3
  obtain ⟨Ad, capd, rfl⟩ := Rd.len m4
  have hB3 := hB2.trans (hb3.mono hB2.size)
  have Ly := lay_made h.K.1 m1 m2 m3 m4 (hL.keep hB3)
  have b3 := b2'.keep hb3
  clear e1 h
  unfold endsV
  go_wp2_with fail
  refine wp_stk1 fun W4 hB4 hz4 b4 => ?_
  have Ly4 := Ly.keep hB4
  have b34 := b3.keep hB4
  have c1 := gw_blk b4
  have c2 := gw_blk b34
  refine wp_region_rg 7 [(3, .rel (ExtA (coefs q.p q.q q.gs q.us)) (SlF 4)), (5, .val (.agg #[.int .u64 (fv (em r.1 r.2).a), .int .u64 (fv (em r.1 r.2).b)])), (6, .rel (New 27 #[.int .u64 0, .int .u64 0]) (NewF))] (by kernel_rfl) (by kernel_rfl) (by kernel_rfl) ⟨fit_ext, fit_new, trivial⟩ ?_
  refine rg_det rfl rfl rfl (fun K hK => ?_)
  go_big_quiet_op
  refine hK _ ?_; clear hK K
  refine rg_det rfl rfl rfl (fun K hK => ?_)
  go_big_quiet_op
  refine hK _ ?_; clear hK K
  refine rg_det rfl rfl rfl (fun K hK => ?_)
  go_big_quiet_op
  refine hK _ ?_; clear hK K
  refine rg_rel rfl rfl (fun W1 hW1 hF => step_callr en_attestor_wiring_Coefficients ((Ly4.grw hW1).coef q.x q.y) rfl rfl) ?_
  intro n3 m3 v3 hn3 hm3 hd3 hf3 a' ha
  simp only [Act.put, List.setIfInBounds_toArray, List.set_cons_succ, List.set_cons_zero] at ha
  subst ha
  obtain ⟨A3, cap3, rfl⟩ := hf3
  refine rg_det rfl rfl rfl (fun K hK => ?_)
  go_big_quiet_op
  refine hK _ ?_; clear hK K
  refine rg_val rfl rfl (fun W1 hW1 hF => step_callv en_attestor_attestorref02_Made (xMade r.1 r.2 hr.1.1 hr.1.2 hr.2.1 hr.2.2 W1) rfl rfl) ?_
  intro a' ha
  simp only [Act.put, List.setIfInBounds_toArray, List.set_cons_succ, List.set_cons_zero] at ha
  subst ha
  refine rg_rel rfl rfl (fun W1 hW1 hF => step_new hi0 iz0 rfl) ?_
  intro n6 m6 v6 hn6 hm6 hd6 hf6 a' ha
  simp only [Act.put, List.setIfInBounds_toArray, List.set_cons_succ, List.set_cons_zero] at ha
  subst ha
  obtain rfl := hf6
  refine rg_nil (fun w' hw' hF => ?_)
  obtain ⟨z, rfl⟩ := hw'
  simp only [List.drop_succ_cons, List.drop_zero]
  obtain ⟨hm6, -, hl6, b6⟩ := end_last hF
  obtain ⟨hm3, t3⟩ := end_last (end_init hF)
  have d63 := hd6 (n3, m3) (by simp)
  simp only at d63
  have hB4' := hB3.trans (hB4.mono hB3.size)
  have hBz := hB4'.trans (z.h.mono hB4'.size)
  have Lz := Ly4.keep z.h
  have b3z := b34.gw z
  have b4z := b4.gw z
  have hW4 : w3.heap.size < W4.heap.size := b4.lt
  have s3 := hB3.size
  have s4 := hB4'.size
  have szz := z.h.size
  clear hF c1 c2 hd3 hd6
  have e1 := b6.cell
  have e2 := b6.frozen
  go_wp2_with fail
  refine set2 (M := fun W => Code.wp _ _ _ _ W) b6 fun X hX bX => ?_
  obtain ⟨T, hT⟩ : ∃ T, em r.1 r.2 = T := ⟨_, rfl⟩
  have bX : Blk X n6 27 #[.int .u64 (fv T.a), .int .u64 (fv T.b)] := by rw [← hT]; exact bX
  have hBX : Below W4.heap.size W4 X := below_put z.h hX hn6
  have LX := Ly4.keep hBX
  have b4X := b4.keep hBX
  have tX : ExtS n3 m3 X _ (coefs q.p q.q q.gs q.us) := hX.rd t3 (by omega)
  have hwX : Below w.heap.size w X := hB4'.trans (hBX.mono hB4'.size)
  have hXs := hX.size
  rw [hT]
  clear e1 e2 t3 b6 b3z b4z Lz hX hBz
  have c4 := gw_blk b4X
  refine wp_region_late 8 [1,2,3] [(4, .rel (New 33 #[.slice none 0 0, .slice none 0 0, .int .u64 0, .int .u64 0, .int .u64 0, .int .u64 0]) (NewF)), (5, .rel (New 33 #[.slice none 0 0, .slice none 0 0, .int .u64 0, .int .u64 0, .int .u64 0, .int .u64 0]) (NewF)), (6, .rel (New 33 #[.slice none 0 0, .slice none 0 0, .int .u64 0, .int .u64 0, .int .u64 0, .int .u64 0]) (NewF)), (7, .rel (New 33 #[.slice none 0 0, .slice none 0 0, .int .u64 0, .int .u64 0, .int .u64 0, .int .u64 0]) (NewF))] (by kernel_rfl) (by kernel_rfl) (by kernel_rfl) (by kernel_rfl) (by intro _ _ d _ _ h; cases d <;> exact h) ⟨fit_new, fit_new, fit_new, fit_new, trivial⟩ ?_
  refine rg_det rfl rfl rfl (fun K hK => ?_)
  go_big_quiet_op
  refine hK _ ?_; clear hK K
  refine rg_det rfl rfl rfl (fun K hK => ?_)
  go_big_quiet_op
  refine hK _ ?_; clear hK K
  refine rg_det rfl rfl rfl (fun K hK => ?_)
  go_big_quiet_op
  refine hK _ ?_; clear hK K
  refine rg_det rfl rfl rfl (fun K hK => ?_)
  go_big_quiet_op
  refine hK _ ?_; clear hK K
  refine rg_rel rfl rfl (fun W1 hW1 hF => step_new hj0 hjz0 rfl) ?_
  intro ne4 me4 ve4 hne4 hme4 hde4 hfe4 a' ha
  simp only [Act.put, List.setIfInBounds_toArray, List.set_cons_succ, List.set_cons_zero] at ha
  subst ha
  obtain rfl := hfe4
  refine rg_rel rfl rfl (fun W1 hW1 hF => step_new hj0 hjz0 rfl) ?_
  intro ne5 me5 ve5 hne5 hme5 hde5 hfe5 a' ha
  simp only [Act.put, List.setIfInBounds_toArray, List.set_cons_succ, List.set_cons_zero] at ha
  subst ha
  obtain rfl := hfe5
  refine rg_rel rfl rfl (fun W1 hW1 hF => step_new hj0 hjz0 rfl) ?_
  intro ne6 me6 ve6 hne6 hme6 hde6 hfe6 a' ha
  simp only [Act.put, List.setIfInBounds_toArray, List.set_cons_succ, List.set_cons_zero] at ha
  subst ha
  obtain rfl := hfe6
  refine rg_rel rfl rfl (fun W1 hW1 hF => step_new hj0 hjz0 rfl) ?_
  intro ne7 me7 ve7 hne7 hme7 hde7 hfe7 a' ha
  simp only [Act.put, List.setIfInBounds_toArray, List.set_cons_succ, List.set_cons_zero] at ha
  subst ha
  obtain rfl := hfe7
  refine rg_nil (fun w' hw' hF => ?_)
  obtain ⟨z2, rfl⟩ := hw'
  simp only [List.drop_succ_cons, List.drop_zero]
  obtain ⟨-, -, l7, f7⟩ := end_last hF
  obtain ⟨-, -, l6, f6⟩ := end_last (end_init hF)
  obtain ⟨-, -, l5, f5⟩ := end_last (end_init (end_init hF))
  obtain ⟨-, -, l4, f4⟩ := end_last (end_init (end_init (end_init hF)))
  have k54 := hde5 (ne4, me4) (by simp)
  have k64 := hde6 (ne4, me4) (by simp)
  have k65 := hde6 (ne5, me5) (by simp)
  have k74 := hde7 (ne4, me4) (by simp)
  have k75 := hde7 (ne5, me5) (by simp)
  have k76 := hde7 (ne6, me6) (by simp)
  simp only at k54 k64 k65 k74 k75 k76
  clear hF c4 hde4 hde5 hde6 hde7
  obtain ⟨V, hV⟩ : ∃ V : List Value, V = [.slice Ac q.p.length capc, .slice Ad q.q.length capd, .int .u64 (fv q.x.a), .int .u64 (fv q.x.b), .int .u64 (fv q.y.a), .int .u64 (fv q.y.b)] := ⟨_, rfl⟩
  refine wpListC_put (cells := V) (new := V.toArray) rfl _ _ _ rfl rfl (by rw [hV]; rfl) f4 (by rw [hV]; exact Nat.le_refl _) (by rw [hV]; kernel_rfl) (by rw [hV]; rfl) (by rw [hV]; rfl) ⟨z2, rfl⟩ hne4 fun X1 p1 w1 g1 => ?_
  refine wpListC_put (cells := V) (new := V.toArray) rfl _ _ _ rfl rfl (by rw [hV]; rfl) (p1.blk f5 (by omega)) (by rw [hV]; exact Nat.le_refl _) (by rw [hV]; kernel_rfl) (by rw [hV]; rfl) (by rw [hV]; rfl) g1 hne5 fun X2 p2 w2 g2 => ?_
  refine wpListC_put (cells := V) (new := V.toArray) rfl _ _ _ rfl rfl (by rw [hV]; rfl) (p2.blk (p1.blk f6 (by omega)) (by omega)) (by rw [hV]; exact Nat.le_refl _) (by rw [hV]; kernel_rfl) (by rw [hV]; rfl) (by rw [hV]; rfl) g2 hne6 fun X3 p3 w3' g3 => ?_
  refine wpListC_put (cells := V) (new := V.toArray) rfl _ _ _ rfl rfl (by rw [hV]; rfl) (p3.blk (p2.blk (p1.blk f7 (by omega)) (by omega)) (by omega)) (by rw [hV]; exact Nat.le_refl _) (by rw [hV]; kernel_rfl) (by rw [hV]; rfl) (by rw [hV]; rfl) g3 hne7 fun X4 p4 w4' g4 => ?_
  have r4 := p4.blk (p3.blk (p2.blk w1 (by omega)) (by omega)) (by omega)
  have r5 := p4.blk (p3.blk w2 (by omega)) (by omega)
  have r6 := p4.blk w3' (by omega)
  have r7 := w4'
  have hXX := grw_below g4
  clear f4 f5 f6 f7 w1 w2 w3' w4' p1 p2 p3 p4 g1 g2 g3 g4
  rw [hV] at r4 r5 r6 r7
  refine wpListC_nil ?_
  have LX4 := LX.keep hXX
  have tX4 := Rd.keep tX hXX
  have bX4 := bX.keep hXX
  have b44 := b4X.keep hXX
  have hw4X := hwX.trans (hXX.mono hwX.size)
  have e0 := r4.frozen
  have e1 := r4.cell
  go_wp2_with fail
  refine set2 (M := fun W => Calls _ _ _ W _) r4 fun X5 p5 s4 => ?_
  have hX5 : Below X.heap.size X X5 := hXX.trans (p5.below hne4)
  have LX5 := LX.keep hX5
  have tX5 := Rd.keep tX hX5
  have s4 : Blk X5 ne4 33 #[.slice Ac q.p.length capc, .slice Ad q.q.length capd, .int .u64 (fv (0 : E).a), .int .u64 (fv (0 : E).b), .int .u64 (fv q.y.a), .int .u64 (fv q.y.b)] := s4
  have s5 := p5.blk r5 (by omega)
  have s6 := p5.blk r6 (by omega)
  have s7 := p5.blk r7 (by omega)
  have hsX5 := hX5.size
  clear r4 r5 r6 r7 LX4 tX4 bX4 b44 hw4X e0 e1 p5 hXX
  refine (xOne _).mono ?_
  rintro e X6 ⟨he, hb6⟩
  unfold ev at he
  subst he
  have hX6 := hX5.trans (hb6.mono hX5.size)
  have s4 := s4.keep hb6
  have s5 := s5.keep hb6
  have s6 := s6.keep hb6
  have s7 := s7.keep hb6
  have bX6 := bX.keep hX6
  have e5 := s5.frozen
  have e6 := s6.frozen
  have e7 := s7.frozen
  have e5' := s5.cell
  have e6' := s6.cell
  have e7' := s7.cell
  have eX := bX6.cell
  have n65 : ¬ (n6 = ne5) := by omega
  have n66 : ¬ (n6 = ne6) := by omega
  have m56 : ¬ (ne5 = ne6) := by omega
  have m57 : ¬ (ne5 = ne7) := by omega
  have m67 : ¬ (ne6 = ne7) := by omega
  have m65 : ¬ (ne6 = ne5) := by omega
  have m75 : ¬ (ne7 = ne5) := by omega
  have m76 : ¬ (ne7 = ne6) := by omega
  go_wp2_with fail
  refine set2 (M := fun W => Code.wp _ _ _ _ ((((W.setCell _ _).setCell _ _).setCell _ _).setCell _ _)) s5 fun X7 p7 u5 => ?_
  have u6 := p7.blk s6 (by omega)
  have u7 := p7.blk s7 (by omega)
  have u4 := p7.blk s4 (by omega)
  refine set2 (M := fun W => Code.wp _ _ _ _ ((W.setCell _ _).setCell _ _)) u6 fun X8 p8 v6 => ?_
  have v5 := p8.blk u5 (by omega)
  have v7 := p8.blk u7 (by omega)
  have v4 := p8.blk u4 (by omega)
  refine set2 (M := fun W => Code.wp _ _ _ _ W) v7 fun X9 p9 x7 => ?_
  have x4 := p9.blk v4 (by omega)
  have x5 := p9.blk v5 (by omega)
  have x6 := p9.blk v6 (by omega)
  have x4 : Blk X9 ne4 33 #[.slice Ac q.p.length capc, .slice Ad q.q.length capd, .int .u64 (fv (0 : E).a), .int .u64 (fv (0 : E).b), .int .u64 (fv q.y.a), .int .u64 (fv q.y.b)] := x4
  have x5 : Blk X9 ne5 33 #[.slice Ac q.p.length capc, .slice Ad q.q.length capd, .int .u64 (fv (1 : E).a), .int .u64 (fv (1 : E).b), .int .u64 (fv q.y.a), .int .u64 (fv q.y.b)] := x5
  have x6 : Blk X9 ne6 33 #[.slice Ac q.p.length capc, .slice Ad q.q.length capd, .int .u64 (fv T.a), .int .u64 (fv T.b), .int .u64 (fv q.y.a), .int .u64 (fv q.y.b)] := x6
  have x7 : Blk X9 ne7 33 #[.slice Ac q.p.length capc, .slice Ad q.q.length capd, .int .u64 (fv q.x.a), .int .u64 (fv q.x.b), .int .u64 (fv T.a), .int .u64 (fv T.b)] := x7
  have hX9 : Below X.heap.size X X9 := below_put (below_put (below_put hX6 p7 hne5) p8 hne6) p9 hne7
  clear e5 e6 e7 e5' e6' e7' eX s4 s5 s6 s7 u4 u5 u6 u7 v4 v5 v6 v7 p7 p8 p9 n65 n66 m56 m57 m67 m65 m75 m76 hb6 hX6 hX5 LX5 tX5
  have L9 := LX.keep hX9
  have t9 : ExtS _ _ X9 (.slice A3 4 cap3) [coef q.p q.q q.gs q.us 0, coef q.p q.q q.gs q.us 1, coef q.p q.q q.gs q.us 2, coef q.p q.q q.gs q.us 3] := Rd.keep tX hX9
  have b9 := bX.keep hX9
  have y9 := b4X.keep hX9
  have hw9 := hwX.trans (hX9.mono hwX.size)
  have q4 := gw_blk x4
  have q5 := gw_blk x5
  refine wp_region_rg 10 [(3, .val (.agg #[.int .u64 (fv (point q.p q.q q.gs q.us 0 q.y).a), .int .u64 (fv (point q.p q.q q.gs q.us 0 q.y).b)])), (7, .val (.agg #[.int .u64 (fv (point q.p q.q q.gs q.us 1 q.y).a), .int .u64 (fv (point q.p q.q q.gs q.us 1 q.y).b)])), (8, .rel (New 27 #[.int .u64 0, .int .u64 0]) (NewF)), (9, .rel (New 27 #[.int .u64 0, .int .u64 0]) (NewF))] (by kernel_rfl) (by kernel_rfl) (by kernel_rfl) ⟨fit_new, fit_new, trivial⟩ ?_
  refine rg_det rfl rfl rfl (fun K hK => ?_)
  go_big_quiet_op
  refine hK _ ?_; clear hK K
  refine rg_det rfl rfl rfl (fun K hK => ?_)
  go_big_quiet_op
  refine hK _ ?_; clear hK K
  refine rg_det rfl rfl rfl (fun K hK => ?_)
  go_big_quiet_op
  refine hK _ ?_; clear hK K
  refine rg_val rfl rfl (fun W1 hW1 hF => step_callv en_attestor_wiring_Point ((L9.grw hW1).point 0 q.y) rfl rfl) ?_
  intro a' ha
  simp only [Act.put, List.setIfInBounds_toArray, List.set_cons_succ, List.set_cons_zero] at ha
  subst ha
  refine rg_det rfl rfl rfl (fun K hK => ?_)
  go_big_quiet_op
  refine hK _ ?_; clear hK K
  refine rg_det rfl rfl rfl (fun K hK => ?_)
  go_big_quiet_op
  refine hK _ ?_; clear hK K
  refine rg_det rfl rfl rfl (fun K hK => ?_)
  go_big_quiet_op
  refine hK _ ?_; clear hK K
  refine rg_val rfl rfl (fun W1 hW1 hF => step_callv en_attestor_wiring_Point ((L9.grw hW1).point 1 q.y) rfl rfl) ?_
  intro a' ha
  simp only [Act.put, List.setIfInBounds_toArray, List.set_cons_succ, List.set_cons_zero] at ha
  subst ha
  refine rg_rel rfl rfl (fun W1 hW1 hF => step_new hi0 iz0 rfl) ?_
  intro ng8 mg8 vg8 hng8 hmg8 hdg8 hfg8 a' ha
  simp only [Act.put, List.setIfInBounds_toArray, List.set_cons_succ, List.set_cons_zero] at ha
  subst ha
  obtain rfl := hfg8
  refine rg_rel rfl rfl (fun W1 hW1 hF => step_new hi0 iz0 rfl) ?_
  intro ng9 mg9 vg9 hng9 hmg9 hdg9 hfg9 a' ha
  simp only [Act.put, List.setIfInBounds_toArray, List.set_cons_succ, List.set_cons_zero] at ha
  subst ha
  obtain rfl := hfg9
  refine rg_nil (fun w' hw' hF => ?_)
  obtain ⟨z3, rfl⟩ := hw'
  simp only [List.drop_succ_cons, List.drop_zero]
  obtain ⟨-, -, l9, f9⟩ := end_last hF
  obtain ⟨-, -, l8, f8⟩ := end_last (end_init hF)
  have k98 := hdg9 (ng8, mg8) (by simp)
  simp only at k98
  clear hF q4 q5 hdg8 hdg9
  have e8 := f8.frozen
  have e9 := f9.frozen
  have e8c := f8.cell
  have e9c := f9.cell
  have m89 : ¬ (ng8 = ng9) := by omega
  have m98 : ¬ (ng9 = ng8) := by omega
  have hpp : ∀ x y, poly (coef q.p q.q q.gs q.us 0) (coef q.p q.q q.gs q.us 1) (coef q.p q.q q.gs q.us 2) (coef q.p q.q q.gs q.us 3) x y = point q.p q.q q.gs q.us x y := fun _ _ => rfl
  have HP := Lib.hid hpp
  clear hpp
  obtain ⟨P0, hP0⟩ : ∃ P0, point q.p q.q q.gs q.us 0 q.y = P0 := ⟨_, rfl⟩
  obtain ⟨P1, hP1⟩ : ∃ P1, point q.p q.q q.gs q.us 1 q.y = P1 := ⟨_, rfl⟩
  have HA := Lib.hid (show P0 + T * (P1 - P0) = point q.p q.q q.gs q.us T q.y by rw [← hP0, ← hP1]; exact point_affine q.p q.q q.gs q.us T q.y)
  rw [hP0, hP1]
  go_wp2_with fail
  refine set2 (M := fun W => Code.wp _ _ _ _ ((W.setCell _ _).setCell _ _)) f8 fun XA pA f8' => ?_
  refine set2 (M := fun W => Code.wp _ _ _ _ W) (pA.blk f9 (by omega)) fun XB pB f9' => ?_
  have fA : Blk XB ng8 27 #[.int .u64 (fv P0.a), .int .u64 (fv P0.b)] := pB.blk f8' (by omega)
  have fB : Blk XB ng9 27 #[.int .u64 (fv P1.a), .int .u64 (fv P1.b)] := f9'
  have hXB : Below X9.heap.size X9 XB := below_put (below_put z3.h pA hng8) pB hng9
  have LB := L9.keep hXB
  have tB := Rd.keep t9 hXB
  have bB := b9.keep hXB
  have yB := y9.keep hXB
  have g6 := x6.keep hXB
  have g7 := x7.keep hXB
  have hwB := hw9.trans (hXB.mono hw9.size)
  clear f8 f9 f8' f9' e8 e9 e8c e9c pA pB m89 m98 L9 t9 b9 y9 x4 x5 x6 x7
  have c0 := gw_blk yB
  have c1 := gw_blk bB
  have c2 := gw_blk fA
  have c3 := gw_blk fB
  have c5 := gw_blk g6
  have c6 := gw_blk g7
  refine wp_region_rg 40 [(3, .val (.agg #[.int .u64 (fv (point q.p q.q q.gs q.us q.x q.y).a), .int .u64 (fv (point q.p q.q q.gs q.us q.x q.y).b)])), (9, .val (.agg #[.int .u64 (fv (point q.p q.q q.gs q.us q.x q.y).a), .int .u64 (fv (point q.p q.q q.gs q.us q.x q.y).b)])), (15, .val (.agg #[.int .u64 (fv (point q.p q.q q.gs q.us T q.y).a), .int .u64 (fv (point q.p q.q q.gs q.us T q.y).b)])), (20, .val (.agg #[.int .u64 (fv (P1 - P0).a), .int .u64 (fv (P1 - P0).b)])), (21, .val (.agg #[.int .u64 (fv (T * (P1 - P0)).a), .int .u64 (fv (T * (P1 - P0)).b)])), (22, .val (.agg #[.int .u64 (fv (point q.p q.q q.gs q.us T q.y).a), .int .u64 (fv (point q.p q.q q.gs q.us T q.y).b)])), (29, .val (.agg #[.int .u64 (fv (point q.p q.q q.gs q.us q.x T).a), .int .u64 (fv (point q.p q.q q.gs q.us q.x T).b)])), (34, .val (.agg #[.int .u64 (fv (point q.p q.q q.gs q.us q.x T).a), .int .u64 (fv (point q.p q.q q.gs q.us q.x T).b)]))] (by kernel_rfl) (by kernel_rfl) (by kernel_rfl) trivial ?_
  refine rg_det rfl rfl rfl (fun K hK => ?_)
  go_big_quiet_op
  refine hK _ ?_; clear hK K
  refine rg_det rfl rfl rfl (fun K hK => ?_)
  go_big_quiet_op
  refine hK _ ?_; clear hK K
  refine rg_det rfl rfl rfl (fun K hK => ?_)
  go_big_quiet_op
  refine hK _ ?_; clear hK K
  refine rg_val rfl rfl (fun W1 hW1 hF => step_callv en_attestor_wiring_Point ((LB.grw hW1).point q.x q.y) rfl rfl) ?_
  intro a' ha
  simp only [Act.put, List.setIfInBounds_toArray, List.set_cons_succ, List.set_cons_zero] at ha
  subst ha
  refine rg_det rfl rfl rfl (fun K hK => ?_)
  go_big_quiet_op
  refine hK _ ?_; clear hK K
  refine rg_det rfl rfl rfl (fun K hK => ?_)
  go_big_quiet_op
  refine hK _ ?_; clear hK K
  refine rg_det rfl rfl rfl (fun K hK => ?_)
  go_big_quiet_op
  refine hK _ ?_; clear hK K
  refine rg_det rfl rfl rfl (fun K hK => ?_)
  go_big_quiet_op
  refine hK _ ?_; clear hK K
  refine rg_det rfl rfl rfl (fun K hK => ?_)
  go_big_quiet_op
  refine hK _ ?_; clear hK K
  refine rg_val rfl rfl (fun W1 hW1 hF => step_callv en_attestor_attestorref17_Value ((by rw [← HP.out]; exact gValue _ _ _ _ _ _ _ _ _ W1 (Rd.keep tB (grw_below hW1)))) rfl rfl) ?_
  intro a' ha
  simp only [Act.put, List.setIfInBounds_toArray, List.set_cons_succ, List.set_cons_zero] at ha
  subst ha
  refine rg_det rfl rfl rfl (fun K hK => ?_)
  go_big_quiet_op
  refine hK _ ?_; clear hK K
  refine rg_det rfl rfl rfl (fun K hK => ?_)
  go_big_quiet_op
  refine hK _ ?_; clear hK K
  refine rg_det rfl rfl rfl (fun K hK => ?_)
  go_big_quiet_op
  refine hK _ ?_; clear hK K
  refine rg_det rfl rfl rfl (fun K hK => ?_)
  go_big_quiet_op
  refine hK _ ?_; clear hK K
  refine rg_det rfl rfl rfl (fun K hK => ?_)
  go_big_quiet_op
  refine hK _ ?_; clear hK K
  refine rg_val rfl rfl (fun W1 hW1 hF => step_callv en_attestor_wiring_Point ((LB.grw hW1).point T q.y) rfl rfl) ?_
  intro a' ha
  simp only [Act.put, List.setIfInBounds_toArray, List.set_cons_succ, List.set_cons_zero] at ha
  subst ha
  refine rg_det rfl rfl rfl (fun K hK => ?_)
  go_big_quiet_op
  refine hK _ ?_; clear hK K
  refine rg_det rfl rfl rfl (fun K hK => ?_)
  go_big_quiet_op
  refine hK _ ?_; clear hK K
  refine rg_det rfl rfl rfl (fun K hK => ?_)
  go_big_quiet_op
  refine hK _ ?_; clear hK K
  refine rg_det rfl rfl rfl (fun K hK => ?_)
  go_big_quiet_op
  refine hK _ ?_; clear hK K
  refine rg_val rfl rfl (fun W1 hW1 hF => step_callv en_attestor_ext_Sub (eSub P1 P0 W1) rfl rfl) ?_
  intro a' ha
  simp only [Act.put, List.setIfInBounds_toArray, List.set_cons_succ, List.set_cons_zero] at ha
  subst ha
  refine rg_val rfl rfl (fun W1 hW1 hF => step_callv en_attestor_ext_Mul (eMul T (P1 - P0) W1) rfl rfl) ?_
  intro a' ha
  simp only [Act.put, List.setIfInBounds_toArray, List.set_cons_succ, List.set_cons_zero] at ha
  subst ha
  refine rg_val rfl rfl (fun W1 hW1 hF => step_callv en_attestor_ext_Add ((by rw [← HA.out]; exact eAdd P0 (T * (P1 - P0)) W1)) rfl rfl) ?_
  intro a' ha
  simp only [Act.put, List.setIfInBounds_toArray, List.set_cons_succ, List.set_cons_zero] at ha
  subst ha
  refine rg_det rfl rfl rfl (fun K hK => ?_)
  go_big_quiet_op
  refine hK _ ?_; clear hK K
  refine rg_det rfl rfl rfl (fun K hK => ?_)
  go_big_quiet_op
  refine hK _ ?_; clear hK K
  refine rg_det rfl rfl rfl (fun K hK => ?_)
  go_big_quiet_op
  refine hK _ ?_; clear hK K
  refine rg_det rfl rfl rfl (fun K hK => ?_)
  go_big_quiet_op
  refine hK _ ?_; clear hK K
  refine rg_det rfl rfl rfl (fun K hK => ?_)
  go_big_quiet_op
  refine hK _ ?_; clear hK K
  refine rg_det rfl rfl rfl (fun K hK => ?_)
  go_big_quiet_op
  refine hK _ ?_; clear hK K
  refine rg_val rfl rfl (fun W1 hW1 hF => step_callv en_attestor_wiring_Point ((LB.grw hW1).point q.x T) rfl rfl) ?_
  intro a' ha
  simp only [Act.put, List.setIfInBounds_toArray, List.set_cons_succ, List.set_cons_zero] at ha
  subst ha
  refine rg_det rfl rfl rfl (fun K hK => ?_)
  go_big_quiet_op
  refine hK _ ?_; clear hK K
  refine rg_det rfl rfl rfl (fun K hK => ?_)
  go_big_quiet_op
  refine hK _ ?_; clear hK K
  refine rg_det rfl rfl rfl (fun K hK => ?_)
  go_big_quiet_op
  refine hK _ ?_; clear hK K
  refine rg_det rfl rfl rfl (fun K hK => ?_)
  go_big_quiet_op
  refine hK _ ?_; clear hK K
  refine rg_val rfl rfl (fun W1 hW1 hF => step_callv en_attestor_attestorref17_Value ((by rw [← HP.out]; exact gValue _ _ _ _ _ _ _ _ _ W1 (Rd.keep tB (grw_below hW1)))) rfl rfl) ?_
  intro a' ha
  simp only [Act.put, List.setIfInBounds_toArray, List.set_cons_succ, List.set_cons_zero] at ha
  subst ha
  refine rg_det rfl rfl rfl (fun K hK => ?_)
  go_big_quiet_op
  refine hK _ ?_; clear hK K
  refine rg_det rfl rfl rfl (fun K hK => ?_)
  go_big_quiet_op
  refine hK _ ?_; clear hK K
  refine rg_det rfl rfl rfl (fun K hK => ?_)
  go_big_quiet_op
  refine hK _ ?_; clear hK K
  refine rg_det rfl rfl rfl (fun K hK => ?_)
  go_big_quiet_op
  refine hK _ ?_; clear hK K
  refine rg_det rfl rfl rfl (fun K hK => ?_)
  go_big_quiet_op
  refine hK _ ?_; clear hK K
  refine rg_nil (fun w' hw' hF => ?_)
  obtain ⟨z4, rfl⟩ := hw'
  simp only [List.drop_succ_cons, List.drop_zero]
  clear hF c0 c1 c2 c3 c5 c6
  go_wp2_with fail
  go_ret
  exact ⟨rfl, hwB.trans (z4.h.mono hwB.size)⟩
end Go.Proofs.YtbmgngoeiadmmaaDoor
