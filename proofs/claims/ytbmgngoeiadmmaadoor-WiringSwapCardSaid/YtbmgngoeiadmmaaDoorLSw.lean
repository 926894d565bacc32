/-
  WiringSwap: the walk.
-/
import Derived.Test.YtbmgngoeiadmmaaDoorLay
namespace Go.Proofs.YtbmgngoeiadmmaaDoor
open Go.RowKit

def swapG (g : Gt) : Gt := ⟨g.R, g.L, g.c, g.b, g.a, g.d⟩
theorem swap_zip (gs : List Gt) (us : List E) : (gs.map swapG).zip us = (gs.zip us).map fun t => (swapG t.1, t.2) := by
  rw [List.zip_map_left]; rfl
theorem swap_wgt (p q : List E) (t : Gt × E) : wgt q p (swapG t.1, t.2) = wgt p q t := by
  unfold wgt swapG
  simp only
  rw [E.mul_comm (eqi t.1.R q)]
theorem swap_coef (p q : List E) (gs : List Gt) (us : List E) (k k' : Nat) (h : ∀ g : Gt, gk (swapG g) k' = gk g k) : coef q p (gs.map swapG) us k' = coef p q gs us k := by
  unfold coef
  rw [swap_zip, List.map_map]
  congr 1
  apply List.map_congr_left
  intro t _
  simp only [Function.comp]
  rw [swap_wgt, h]
theorem swap_coefs (p q : List E) (gs : List Gt) (us : List E) : coefs q p (gs.map swapG) us = [coef p q gs us 0, coef p q gs us 2, coef p q gs us 1, coef p q gs us 3] := by
  show [coef q p (gs.map swapG) us 0, coef q p (gs.map swapG) us 1, coef q p (gs.map swapG) us 2, coef q p (gs.map swapG) us 3] = _
  rw [swap_coef p q gs us 0 0 (fun _ => rfl), swap_coef p q gs us 2 1 (fun _ => rfl), swap_coef p q gs us 1 2 (fun _ => rfl), swap_coef p q gs us 3 3 (fun _ => rfl)]
theorem swap_point (p q : List E) (gs : List Gt) (us : List E) (x y : E) : point q p (gs.map swapG) us y x = point p q gs us x y := by
  unfold point
  rw [swap_coef p q gs us 0 0 (fun _ => rfl), swap_coef p q gs us 2 1 (fun _ => rfl), swap_coef p q gs us 1 2 (fun _ => rfl), swap_coef p q gs us 3 3 (fun _ => rfl)]
  unfold poly
  apply E.ext_ <;> simp only [mul_a, mul_b, add_a, add_b] <;> grind
theorem coefs_four (p q : List E) (gs : List Gt) (us : List E) : coefs p q gs us = [coef p q gs us 0, coef p q gs us 1, coef p q gs us 2, coef p q gs us 3] := rfl
def swCells (gs : List Gt) (j : Nat) : List Value := ((gs.take j).map swapG).flatMap gc
set_option maxRecDepth 100000 in
set_option maxHeartbeats 8000000 in
theorem wkSwap (q : Qy) (vL vU vP vQ : Value) (w : World) (h : QyS w.heap.size w q vL vU vP vQ) (hL : Laid w) :
    Calls Tryd.prog 9 #[qv vL vU vP vQ q] w (Ret (.bool true) w) := by
  unfold qv
  obtain ⟨i0, hi0, iz0, iz1, iz2⟩ := info_parts gate_info
  have hgl := q.gs_len
  go_enter Tryd.func9, Tryd.ntmps9
  go_wp2_with fail
  refine calls_stk1 fun W1 hB1 hz1 b1 => ?_
  refine (lSanity W1 (hL.keep hB1)).mono ?_
  rintro e w2 ⟨rfl, hb2⟩
  have hB2 := hB1.trans (hb2.mono hB1.size)
  have e1 := (b1.keep hb2).cell
  go_wp2_with fail
  refine (lMade q vL vU vP vQ w.heap.size w2 (h.keep hB2) hB2.size).mono ?_
  rintro e w3 ⟨a, b, c, d, rfl, m1, m2, m3, m4, hb3⟩
  obtain ⟨Aa, capa, rfl⟩ := Rd.len m1
  obtain ⟨Ac, capc, rfl⟩ := Rd.len m3
  obtain ⟨Ad, capd, rfl⟩ := Rd.len m4
  have hB3 := hB2.trans (hb3.mono hB2.size)
  have Ly := lay_made h.K.1 m1 m2 m3 m4 (hL.keep hB3)
  clear e1 h m1 m2 m3 m4
  unfold endsV
  generalize q.gs = gs at *
  generalize q.us = us at *
  generalize q.p = pp at *
  generalize q.q = qq at *
  generalize q.x = x at *
  generalize q.y = y at *
  go_wp2_with fail
  refine wp_stk2 fun W4 hB4 hz4 b4 b5 => ?_
  go_loopw [7, 8] (fun v i wr => ∃ j : Nat, j ≤ gs.length ∧ i = .int .i64 j ∧ wr.ownsRow (w3.heap.size + 1) 46 6 v j (swCells gs j) ∧ Below (w3.heap.size + 1) W4 wr) (fun _ i _ => gs.length - (intOf i).toNat)
  case atStart => exact ⟨0, Nat.zero_le _, rfl, ⟨by simp [swCells], .inr ⟨w3.heap.size + 1, 0, #[], rfl, Nat.le_refl _, b5, Nat.le_refl _, Nat.zero_le _, rfl, by simp [swCells]⟩⟩, Below.refl _ _⟩
  case round =>
    obtain ⟨j, hj, rfl, hown, hB⟩ := hrel
    have hBr3 : Below w3.heap.size w3 wr := hB4.trans (hB.mono (Nat.le_succ _))
    have Lr := Ly.keep hBr3
    have hW4s : W4.heap.size = w3.heap.size + 1 + 1 := hz4.out
    have hrs := hB.size
    have b4r := b4.below hB (Nat.lt_succ_self _)
    have hBwr := hB3.trans (hBr3.mono hB3.size)
    by_cases hlt : j < gs.length
    · obtain ⟨g, off, cap', hv, q1, q2, q3, q4, q5⟩ := gates_cells Lr.hl (by omega)
      cases hv
      obtain ⟨p, hp⟩ : ∃ p, gs[j]? = some p := ⟨gs[j], List.getElem?_eq_getElem hlt⟩
      obtain ⟨d1, d2, d3, d4, d5, d6⟩ := q5 j p hp
      have x1 := gw_cell q4 d1
      have x2 := gw_cell q4 d2
      have x3 := gw_cell q4 d3
      have x4 := gw_cell q4 d4
      have x5 := gw_cell q4 d5
      have x6 := gw_cell q4 d6
      have hf : swCells gs (j + 1) = swCells gs j ++ gc (swapG p) := by unfold swCells; rw [List.take_add_one, hp]; simp
      have HF := Lib.hid hf
      clear q5 d1 d2 d3 d4 d5 d6 hf Lr Ly hp
      go_wp2_with fail
      refine wp_region_rg 33 [(32, .rel (Lit 46 1 #[.int .i64 p.R, .int .i64 p.L, .int .u64 (fv p.c), .int .u64 (fv p.b), .int .u64 (fv p.a), .int .u64 (fv p.d)]) AnyV)] (by kernel_rfl) (by kernel_rfl) (by kernel_rfl) ⟨fit_of (stable_lit), trivial⟩ ?_
      refine rg_det rfl rfl rfl (fun K hK => ?_)
      go_big_quiet_op
      refine hK _ ?_; clear hK K
      refine rg_det rfl rfl rfl (fun K hK => ?_)
      go_big_quiet_op
      refine hK _ ?_; clear hK K
      refine rg_det rfl rfl rfl (fun K hK => ?_)
      go_big_quiet_op
      refine hK _ ?_; clear hK K
      refine rg_det rfl rfl rfl (fun K hK => ?_)
      go_big_quiet_op
      refine hK _ ?_; clear hK K
      refine rg_det rfl rfl rfl (fun K hK => ?_)
      go_big_quiet_op
      refine hK _ ?_; clear hK K
      refine rg_det rfl rfl rfl (fun K hK => ?_)
      go_big_quiet_op
      refine hK _ ?_; clear hK K
      refine rg_det rfl rfl rfl (fun K hK => ?_)
      go_big_quiet_op
      refine hK _ ?_; clear hK K
      refine rg_det rfl rfl rfl (fun K hK => ?_)
      go_big_quiet_op
      refine hK _ ?_; clear hK K
      refine rg_det rfl rfl rfl (fun K hK => ?_)
      go_big_quiet_op
      refine hK _ ?_; clear hK K
      refine rg_det rfl rfl rfl (fun K hK => ?_)
      go_big_quiet_op
      refine hK _ ?_; clear hK K
      refine rg_det rfl rfl rfl (fun K hK => ?_)
      go_big_quiet_op
      refine hK _ ?_; clear hK K
      refine rg_det rfl rfl rfl (fun K hK => ?_)
      go_big_quiet_op
      refine hK _ ?_; clear hK K
      refine rg_det rfl rfl rfl (fun K hK => ?_)
      go_big_quiet_op
      refine hK _ ?_; clear hK K
      refine rg_det rfl rfl rfl (fun K hK => ?_)
      go_big_quiet_op
      refine hK _ ?_; clear hK K
      refine rg_det rfl rfl rfl (fun K hK => ?_)
      go_big_quiet_op
      refine hK _ ?_; clear hK K
      refine rg_det rfl rfl rfl (fun K hK => ?_)
      go_big_quiet_op
      refine hK _ ?_; clear hK K
      refine rg_det rfl rfl rfl (fun K hK => ?_)
      go_big_quiet_op
      refine hK _ ?_; clear hK K
      refine rg_det rfl rfl rfl (fun K hK => ?_)
      go_big_quiet_op
      refine hK _ ?_; clear hK K
      refine rg_det rfl rfl rfl (fun K hK => ?_)
      go_big_quiet_op
      refine hK _ ?_; clear hK K
      refine rg_det rfl rfl rfl (fun K hK => ?_)
      go_big_quiet_op
      refine hK _ ?_; clear hK K
      refine rg_det rfl rfl rfl (fun K hK => ?_)
      go_big_quiet_op
      refine hK _ ?_; clear hK K
      refine rg_det rfl rfl rfl (fun K hK => ?_)
      go_big_quiet_op
      refine hK _ ?_; clear hK K
      refine rg_det rfl rfl rfl (fun K hK => ?_)
      go_big_quiet_op
      refine hK _ ?_; clear hK K
      refine rg_det rfl rfl rfl (fun K hK => ?_)
      go_big_quiet_op
      refine hK _ ?_; clear hK K
      refine rg_det rfl rfl rfl (fun K hK => ?_)
      go_big_quiet_op
      refine hK _ ?_; clear hK K
      refine rg_det rfl rfl rfl (fun K hK => ?_)
      go_big_quiet_op
      refine hK _ ?_; clear hK K
      refine rg_det rfl rfl rfl (fun K hK => ?_)
      go_big_quiet_op
      refine hK _ ?_; clear hK K
      refine rg_det rfl rfl rfl (fun K hK => ?_)
      go_big_quiet_op
      refine hK _ ?_; clear hK K
      refine rg_det rfl rfl rfl (fun K hK => ?_)
      go_big_quiet_op
      refine hK _ ?_; clear hK K
      refine rg_det rfl rfl rfl (fun K hK => ?_)
      go_big_quiet_op
      refine hK _ ?_; clear hK K
      refine rg_det rfl rfl rfl (fun K hK => ?_)
      go_big_quiet_op
      refine hK _ ?_; clear hK K
      refine rg_det rfl rfl rfl (fun K hK => ?_)
      go_big_quiet_op
      refine hK _ ?_; clear hK K
      refine rg_rel rfl rfl (fun W1 hW1 hF => step_lit1 Tryd.underlying22 hi0 iz0 iz1 (by decide) (by decide) rfl rfl rfl) ?_
      intro n32 m32 v32 hn32 hm32 hd32 hf32 a' ha
      simp only [Act.put, List.setIfInBounds_toArray, List.set_cons_succ, List.set_cons_zero] at ha
      subst ha
      refine rg_nil (fun w' hw' hF => ?_)
      obtain ⟨z, rfl⟩ := hw'
      simp only [List.drop_succ_cons, List.drop_zero]
      obtain ⟨hm, rfl, hlt', bl⟩ := end_last hF
      clear hF x1 x2 x3 x4 x5 x6
      go_wp2_with (at_builtin; refine wpList_app1 rfl _ _ rfl Tryd.underlying22 hi0 iz0 iz1 iz2 rfl (by decide) (cl := gc (swapG p)) rfl (gc_one _) rfl rfl (own_below hown (Nat.le_refl _) z.h) ?hsrc ?h63 ?hby ?hbase ?_)
      case hsrc => exact bl
      case h63 => unfold maxLen; omega
      case hby => omega
      case hbase => have := z.h.size; omega
      intro v1 w4 hown4 hgrow hB5
      go_wp2
      exact ⟨⟨j + 1, by omega, by go_num, by rw [HF.out]; exact hown4, (hB.trans (z.h.mono (by omega))).trans hB5⟩, by simp [intOf]; omega⟩
    · obtain rfl : j = gs.length := by omega
      unfold swCells at hown
      rw [List.take_of_length_le (Nat.le_refl _)] at hown
      have gsw : GateS (w3.heap.size + 1) wr.heap.size wr u7 (gs.map swapG) := by
        have := Rd.of_own hown (by omega) (Nat.le_refl _)
        unfold GateS
        rw [List.length_map]
        exact this
      obtain ⟨As, caps, rfl⟩ := gsw.len
      have Lsw : Lay wr (gs.map swapG) us qq pp (.slice As (gs.map swapG).length caps) b (.slice Ad qq.length capd) (.slice Ac pp.length capc) :=
        ⟨gsw.wide (Nat.zero_le _) (Nat.le_refl _), Lr.hu, Lr.hq, Lr.hp, Lr.laid, by rw [List.length_map]; exact Lr.len, fun g hg => by
          obtain ⟨g', hg', rfl⟩ := List.mem_map.1 hg
          exact ⟨(Lr.ok g' hg').2, (Lr.ok g' hg').1⟩, Lr.ql, Lr.pl⟩
      have e1 := b4r.cell
      clear hown gsw Ly
      go_wp2_with fail
      refine wp_stk1 fun W6 hB6 hz6 b6 => ?_
      have Lr6 := Lr.keep hB6
      have Ls6 := Lsw.keep hB6
      have b46 := b4r.keep hB6
      have c1 := gw_blk b46
      have c2 := gw_blk b6
      clear e1
      refine wp_region_rg 8 [(3, .rel (ExtA (coefs pp qq gs us)) (SlF 4)), (7, .rel (ExtA (coefs qq pp (gs.map swapG) us)) (SlF 4))] (by kernel_rfl) (by kernel_rfl) (by kernel_rfl) ⟨fit_ext, fit_ext, trivial⟩ ?_
      refine rg_det rfl rfl rfl (fun K hK => ?_)
      go_big_quiet_op
      refine hK _ ?_; clear hK K
      refine rg_det rfl rfl rfl (fun K hK => ?_)
      go_big_quiet_op
      refine hK _ ?_; clear hK K
      refine rg_det rfl rfl rfl (fun K hK => ?_)
      go_big_quiet_op
      refine hK _ ?_; clear hK K
      refine rg_rel rfl rfl (fun W1 hW1 hF => step_callr en_attestor_wiring_Coefficients ((Lr6.grw hW1).coef x y) rfl rfl) ?_
      intro n3 m3 v3 hn3 hm3 hd3 hf3 a' ha
      simp only [Act.put, List.setIfInBounds_toArray, List.set_cons_succ, List.set_cons_zero] at ha
      subst ha
      obtain ⟨A3, cap3, rfl⟩ := hf3
      refine rg_det rfl rfl rfl (fun K hK => ?_)
      go_big_quiet_op
      refine hK _ ?_; clear hK K
      refine rg_det rfl rfl rfl (fun K hK => ?_)
      go_big_quiet_op
      refine hK _ ?_; clear hK K
      refine rg_det rfl rfl rfl (fun K hK => ?_)
      go_big_quiet_op
      refine hK _ ?_; clear hK K
      refine rg_rel rfl rfl (fun W1 hW1 hF => step_callr en_attestor_wiring_Coefficients ((Ls6.grw hW1).coef y x) rfl rfl) ?_
      intro n7 m7 v7 hn7 hm7 hd7 hf7 a' ha
      simp only [Act.put, List.setIfInBounds_toArray, List.set_cons_succ, List.set_cons_zero] at ha
      subst ha
      obtain ⟨A7, cap7, rfl⟩ := hf7
      refine rg_nil (fun w' hw' hF => ?_)
      obtain ⟨z, rfl⟩ := hw'
      simp only [List.drop_succ_cons, List.drop_zero]
      obtain ⟨hm7, t7⟩ := end_last hF
      obtain ⟨hm3, t3⟩ := end_last (end_init hF)
      rw [swap_coefs] at t7
      rw [coefs_four] at t3
      have hBz : Below w.heap.size w z.w := (hBwr.trans (hB6.mono hBwr.size)).trans (z.h.mono (Nat.le_trans hBwr.size hB6.size))
      have Lr7 := Lr6.keep z.h
      have Ls7 := Ls6.keep z.h
      have c1' := b46.gw z
      have c2' := b6.gw z
      clear hF c1 c2
      obtain ⟨g3, o3, cap3', hv3, p1, p2, p3, p4, ⟨k0, k1⟩, ⟨k2, k3⟩, ⟨k4, k5⟩, k6, k7⟩ := four_cells t3
      obtain ⟨g7, o7, cap7', hv7, q1, q2, q3, q4, ⟨l0, l1⟩, ⟨l2, l3⟩, ⟨l4, l5⟩, l6, l7⟩ := four_cells t7
      cases hv3
      cases hv7
      have HP := Lib.hid (swap_point pp qq gs us x y)
      have PX : ∀ W', Below z.w.heap.size z.w W' → Calls Tryd.prog 18 #[.slice As (gs.map swapG).length caps, b, endsV (.slice Ad qq.length capd) (.slice Ac pp.length capc) y x] W' (Ret (ev (point pp qq gs us x y)) W') := fun W' hW => by
        rw [← HP.out]; exact (Ls7.keep hW).point y x
      replace PX := Lib.hid PX
      clear t3 t7 HP
      generalize coef pp qq gs us 0 = f0 at *
      generalize coef pp qq gs us 1 = f1 at *
      generalize coef pp qq gs us 2 = f2 at *
      generalize coef pp qq gs us 3 = f3 at *
      generalize hpt : point pp qq gs us x y = pt at *
      go_wp2_with fail
      have v0 := gw_cell p4 k0
      have v1 := gw_cell p4 k1
      have v2 := gw_cell p4 k2
      have v3 := gw_cell p4 k3
      have v4 := gw_cell p4 k4
      have v5 := gw_cell p4 k5
      have v6 := gw_cell p4 k6
      have v7 := gw_cell p4 k7
      have r0 := gw_cell q4 l0
      have r1 := gw_cell q4 l1
      have r2 := gw_cell q4 l2
      have r3 := gw_cell q4 l3
      have r4 := gw_cell q4 l4
      have r5 := gw_cell q4 l5
      have r6 := gw_cell q4 l6
      have r7 := gw_cell q4 l7
      have r8 := gw_blk c1'
      have r9 := gw_blk c2'
      refine wp_region_rg 48 [(38, .val (.agg #[.int .u64 (fv (pt).a), .int .u64 (fv (pt).b)])), (42, .val (.agg #[.int .u64 (fv (pt).a), .int .u64 (fv (pt).b)]))] (by kernel_rfl) (by kernel_rfl) (by kernel_rfl) trivial ?_
      refine rg_det rfl rfl rfl (fun K hK => ?_)
      go_big_quiet_op
      refine hK _ ?_; clear hK K
      refine rg_det rfl rfl rfl (fun K hK => ?_)
      go_big_quiet_op
      refine hK _ ?_; clear hK K
      refine rg_det rfl rfl rfl (fun K hK => ?_)
      go_big_quiet_op
      refine hK _ ?_; clear hK K
      refine rg_det rfl rfl rfl (fun K hK => ?_)
      go_big_quiet_op
      refine hK _ ?_; clear hK K
      refine rg_det rfl rfl rfl (fun K hK => ?_)
      go_big_quiet_op
      refine hK _ ?_; clear hK K
      refine rg_det rfl rfl rfl (fun K hK => ?_)
      go_big_quiet_op
      refine hK _ ?_; clear hK K
      refine rg_det rfl rfl rfl (fun K hK => ?_)
      go_big_quiet_op
      refine hK _ ?_; clear hK K
      refine rg_det rfl rfl rfl (fun K hK => ?_)
      go_big_quiet_op
      refine hK _ ?_; clear hK K
      refine rg_det rfl rfl rfl (fun K hK => ?_)
      go_big_quiet_op
      refine hK _ ?_; clear hK K
      refine rg_det rfl rfl rfl (fun K hK => ?_)
      go_big_quiet_op
      refine hK _ ?_; clear hK K
      refine rg_det rfl rfl rfl (fun K hK => ?_)
      go_big_quiet_op
      refine hK _ ?_; clear hK K
      refine rg_det rfl rfl rfl (fun K hK => ?_)
      go_big_quiet_op
      refine hK _ ?_; clear hK K
      refine rg_det rfl rfl rfl (fun K hK => ?_)
      go_big_quiet_op
      refine hK _ ?_; clear hK K
      refine rg_det rfl rfl rfl (fun K hK => ?_)
      go_big_quiet_op
      refine hK _ ?_; clear hK K
      refine rg_det rfl rfl rfl (fun K hK => ?_)
      go_big_quiet_op
      refine hK _ ?_; clear hK K
      refine rg_det rfl rfl rfl (fun K hK => ?_)
      go_big_quiet_op
      refine hK _ ?_; clear hK K
      refine rg_det rfl rfl rfl (fun K hK => ?_)
      go_big_quiet_op
      refine hK _ ?_; clear hK K
      refine rg_det rfl rfl rfl (fun K hK => ?_)
      go_big_quiet_op
      refine hK _ ?_; clear hK K
      refine rg_det rfl rfl rfl (fun K hK => ?_)
      go_big_quiet_op
      refine hK _ ?_; clear hK K
      refine rg_det rfl rfl rfl (fun K hK => ?_)
      go_big_quiet_op
      refine hK _ ?_; clear hK K
      refine rg_det rfl rfl rfl (fun K hK => ?_)
      go_big_quiet_op
      refine hK _ ?_; clear hK K
      refine rg_det rfl rfl rfl (fun K hK => ?_)
      go_big_quiet_op
      refine hK _ ?_; clear hK K
      refine rg_det rfl rfl rfl (fun K hK => ?_)
      go_big_quiet_op
      refine hK _ ?_; clear hK K
      refine rg_det rfl rfl rfl (fun K hK => ?_)
      go_big_quiet_op
      refine hK _ ?_; clear hK K
      refine rg_det rfl rfl rfl (fun K hK => ?_)
      go_big_quiet_op
      refine hK _ ?_; clear hK K
      refine rg_det rfl rfl rfl (fun K hK => ?_)
      go_big_quiet_op
      refine hK _ ?_; clear hK K
      refine rg_det rfl rfl rfl (fun K hK => ?_)
      go_big_quiet_op
      refine hK _ ?_; clear hK K
      refine rg_det rfl rfl rfl (fun K hK => ?_)
      go_big_quiet_op
      refine hK _ ?_; clear hK K
      refine rg_det rfl rfl rfl (fun K hK => ?_)
      go_big_quiet_op
      refine hK _ ?_; clear hK K
      refine rg_det rfl rfl rfl (fun K hK => ?_)
      go_big_quiet_op
      refine hK _ ?_; clear hK K
      refine rg_det rfl rfl rfl (fun K hK => ?_)
      go_big_quiet_op
      refine hK _ ?_; clear hK K
      refine rg_det rfl rfl rfl (fun K hK => ?_)
      go_big_quiet_op
      refine hK _ ?_; clear hK K
      refine rg_det rfl rfl rfl (fun K hK => ?_)
      go_big_quiet_op
      refine hK _ ?_; clear hK K
      refine rg_det rfl rfl rfl (fun K hK => ?_)
      go_big_quiet_op
      refine hK _ ?_; clear hK K
      refine rg_det rfl rfl rfl (fun K hK => ?_)
      go_big_quiet_op
      refine hK _ ?_; clear hK K
      refine rg_det rfl rfl rfl (fun K hK => ?_)
      go_big_quiet_op
      refine hK _ ?_; clear hK K
      refine rg_det rfl rfl rfl (fun K hK => ?_)
      go_big_quiet_op
      refine hK _ ?_; clear hK K
      refine rg_det rfl rfl rfl (fun K hK => ?_)
      go_big_quiet_op
      refine hK _ ?_; clear hK K
      refine rg_val rfl rfl (fun W1 hW1 hF => step_callv en_attestor_wiring_Point ((by rw [← hpt]; exact (Lr7.grw hW1).point x y)) rfl rfl) ?_
      intro a' ha
      simp only [Act.put, List.setIfInBounds_toArray, List.set_cons_succ, List.set_cons_zero] at ha
      subst ha
      refine rg_det rfl rfl rfl (fun K hK => ?_)
      go_big_quiet_op
      refine hK _ ?_; clear hK K
      refine rg_det rfl rfl rfl (fun K hK => ?_)
      go_big_quiet_op
      refine hK _ ?_; clear hK K
      refine rg_det rfl rfl rfl (fun K hK => ?_)
      go_big_quiet_op
      refine hK _ ?_; clear hK K
      refine rg_val rfl rfl (fun W1 hW1 hF => step_callv en_attestor_wiring_Point (PX.out W1 (grw_below hW1)) rfl rfl) ?_
      intro a' ha
      simp only [Act.put, List.setIfInBounds_toArray, List.set_cons_succ, List.set_cons_zero] at ha
      subst ha
      refine rg_det rfl rfl rfl (fun K hK => ?_)
      go_big_quiet_op
      refine hK _ ?_; clear hK K
      refine rg_det rfl rfl rfl (fun K hK => ?_)
      go_big_quiet_op
      refine hK _ ?_; clear hK K
      refine rg_det rfl rfl rfl (fun K hK => ?_)
      go_big_quiet_op
      refine hK _ ?_; clear hK K
      refine rg_det rfl rfl rfl (fun K hK => ?_)
      go_big_quiet_op
      refine hK _ ?_; clear hK K
      refine rg_det rfl rfl rfl (fun K hK => ?_)
      go_big_quiet_op
      refine hK _ ?_; clear hK K
      refine rg_nil (fun w' hw' hF => ?_)
      obtain ⟨y2, rfl⟩ := hw'
      simp only [List.drop_succ_cons, List.drop_zero]
      clear hF v0 v1 v2 v3 v4 v5 v6 v7 r0 r1 r2 r3 r4 r5 r6 r7 r8 r9
      go_wp2_with fail
      go_ret
      exact ⟨rfl, hBz.trans (y2.h.mono hBz.size)⟩
end Go.Proofs.YtbmgngoeiadmmaaDoor
