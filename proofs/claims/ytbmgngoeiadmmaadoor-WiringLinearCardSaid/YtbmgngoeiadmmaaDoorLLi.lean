/-
  WiringLinear: the walk.
-/
import Derived.Test.YtbmgngoeiadmmaaDoorLay
import Derived.Test.YtbmgngoeiadmmaaDoorGrow
import Derived.Test.YtbmgngoeiadmmaaDoorRgS
namespace Go.Proofs.YtbmgngoeiadmmaaDoor
open Go.RowKit

def sumV (us vs : List E) (f : E) : List E := List.zipWith (fun u v => u + f * v) us vs
def sumCells (us vs : List E) (f : E) (j : Nat) : List Value := ((sumV us vs f).take j).flatMap ec
theorem lin_coef (p q : List E) (f : E) (k : Nat) : ∀ (gs : List Gt) (us vs : List E), us.length = gs.length → vs.length = gs.length → coef p q gs us k + f * coef p q gs vs k = coef p q gs (sumV us vs f) k
  | [], us, vs, h1, h2 => by
    unfold coef
    simp only [List.zip_nil_left, List.map_nil, esum, E.mul_zero, E.zero_add]
  | g :: gs, u :: us, v :: vs, h1, h2 => by
    have ih := lin_coef p q f k gs us vs (by simpa using h1) (by simpa using h2)
    have e : ∀ us, coef p q (g :: gs) us k = (match us with | [] => 0 | u :: us => wgt p q (g, u) * eb (gk g k) + coef p q gs us k) := fun us => by
      cases us <;> rfl
    have es : sumV (u :: us) (v :: vs) f = (u + f * v) :: sumV us vs f := rfl
    rw [es, e, e, e]
    simp only
    rw [← ih]
    unfold wgt
    simp only
    rw [E.mul_add]
    generalize eqi g.L p * eqi g.R q = m
    generalize coef p q gs us k = c1
    generalize coef p q gs vs k = c2
    generalize eb (gk g k) = c3
    apply E.ext_ <;> simp only [mul_a, mul_b, add_a, add_b] <;> grind
  | _ :: _, [], _, h1, _ => by simp at h1
  | _ :: _, _ :: _, [], _, h2 => by simp at h2
theorem sumV_get {us vs : List E} {f : E} {j : Nat} {u v : E} (hu : us[j]? = some u) (hv : vs[j]? = some v) : sumCells us vs f (j + 1) = sumCells us vs f j ++ ec (u + f * v) := by
  have h : (sumV us vs f)[j]? = some (u + f * v) := by unfold sumV; rw [List.getElem?_zipWith, hu, hv]
  unfold sumCells
  rw [List.take_add_one, h, List.flatMap_append]
  simp
theorem sumV_len {us vs : List E} {f : E} (h : vs.length = us.length) : (sumV us vs f).length = us.length := by unfold sumV; rw [List.length_zipWith, h, Nat.min_self]
theorem coefs_get (p q : List E) (gs : List Gt) (us : List E) (k : Nat) (h : k < 4) : (coefs p q gs us)[k]? = some (coef p q gs us k) := by
  unfold coefs
  rw [List.getElem?_map, List.getElem?_range h, Option.map_some]
set_option maxRecDepth 100000 in
set_option maxHeartbeats 8000000 in
theorem wkLinear (q : Qy) (vL vU vP vQ vO : Value) (O : List Raw) (r : Raw) (w : World) (h : QyS w.heap.size w q vL vU vP vQ) (hO : RawS 0 w.heap.size w vO O) (hr : Word r.1 ∧ Word r.2) (hL : Laid w) :
    Calls Tryd.prog 6 #[qv vL vU vP vQ q, vO, .agg #[.int .u64 r.1, .int .u64 r.2]] w (Ret (.bool true) w) := by
  unfold qv
  obtain ⟨i0, hi0, iz0, iz1, iz2⟩ := info_parts ext_info
  have hgl := q.gs_len
  have hul := q.us_len
  have HUL := Lib.hid hul
  clear hul
  go_enter Tryd.func6, Tryd.ntmps6
  go_wp2_with fail
  refine calls_stk2 fun W1 hB1 hz1 b1 b2 => ?_
  refine (lSanity W1 (hL.keep hB1)).mono ?_
  rintro e w2 ⟨rfl, hb2⟩
  have hB2 := hB1.trans (hb2.mono hB1.size)
  have e1 := (b1.keep hb2).cell
  have b2' := b2.keep hb2
  go_wp2_with fail
  refine (lMade q vL vU vP vQ w.heap.size w2 (h.keep hB2) hB2.size).mono ?_
  rintro e w3 ⟨a, b, c, d, rfl, m1, m2, m3, m4, hb3⟩
  obtain ⟨Aa, capa, rfl⟩ := Rd.len m1
  obtain ⟨Ab, capb, rfl⟩ := Rd.len m2
  obtain ⟨Ac, capc, rfl⟩ := Rd.len m3
  obtain ⟨Ad, capd, rfl⟩ := Rd.len m4
  have hB3 := hB2.trans (hb3.mono hB2.size)
  have Ly := lay_made h.K.1 m1 m2 m3 m4 (hL.keep hB3)
  have b23 := b2'.keep hb3
  have hO3 := RawS.keep hO hB3
  clear e1 h m1 m2 m3 m4
  unfold endsV
  generalize q.gs = gs at *
  generalize q.us = us at *
  generalize q.p = pp at *
  generalize q.q = qq at *
  generalize q.x = x at *
  generalize q.y = y at *
  go_wp2_with fail
  refine wp_stk1 fun W4 hB4 hz4 b4 => ?_
  have Ly4 := Ly.keep hB4
  have b24 := b23.keep hB4
  have hO4 := RawS.keep hO3 hB4
  have c1 := gw_blk b24
  have hBw4 := hB3.trans (hB4.mono hB3.size)
  have hNW := hBw4.size
  refine wp_region_swap 9 6 undef [(3, .rel (ExtA (madeAll O gs.length)) (SlF (madeAll O gs.length).length)), (5, .val (.agg #[.int .u64 (fv (em r.1 r.2).a), .int .u64 (fv (em r.1 r.2).b)])), (6, .rel (Lit 27 0 #[]) (LitF 0)), (7, .rel (New 27 #[.int .u64 0, .int .u64 0]) (NewF))] (by kernel_rfl) (by kernel_rfl) (by kernel_rfl) rfl rfl rfl rfl ⟨fit_ext, fit_lit, fit_new, trivial⟩ ?_ ?_
  refine rg_det rfl rfl rfl (fun K hK => ?_)
  go_big_quiet_op
  refine hK _ ?_; clear hK K
  refine rg_det rfl rfl rfl (fun K hK => ?_)
  go_big_quiet_op
  refine hK _ ?_; clear hK K
  refine rg_det rfl rfl rfl (fun K hK => ?_)
  go_big_quiet_op
  refine hK _ ?_; clear hK K
  refine rg_rel rfl rfl (fun W1 hW1 hF => step_callr en_attestor_attestorref02_MadeAll (xMadeAll O gs.length (by omega) vO w.heap.size W1 (RawS.keep hO4 (grw_below hW1)) (Nat.le_trans hNW (grw_below hW1).size)) rfl rfl) ?_
  intro n3 m3 v3 hn3 hm3 hd3 hf3 a' ha
  simp only [Act.put, List.setIfInBounds_toArray, List.set_cons_succ, List.set_cons_zero] at ha
  subst ha
  obtain ⟨A3, cap3, rfl⟩ := hf3
  refine rg_det rfl rfl rfl (fun K hK => ?_)
  go_big_quiet_op
  refine hK _ ?_; clear hK K
  refine rg_val rfl rfl (fun W1 hW1 hF => step_callv en_attestor_attestorref02_Made (xMade r.1 r.2 hr.1.1 hr.1.2 hr.2.1 hr.2.2 W1) rfl rfl) ?_
  intro a' ha
  simp only [Act.put, List.setIfInBounds_toArray, List.set_cons_succ, List.set_cons_zero] at ha
  subst ha
  refine rg_rel rfl rfl (fun W1 hW1 hF => step_lit0 Tryd.underlying23 hi0 iz0 rfl) ?_
  intro n6 m6 v6 hn6 hm6 hd6 hf6 a' ha
  simp only [Act.put, List.setIfInBounds_toArray, List.set_cons_succ, List.set_cons_zero] at ha
  subst ha
  obtain rfl := hf6
  refine rg_rel rfl rfl (fun W1 hW1 hF => step_new hi0 iz0 rfl) ?_
  intro n7 m7 v7 hn7 hm7 hd7 hf7 a' ha
  simp only [Act.put, List.setIfInBounds_toArray, List.set_cons_succ, List.set_cons_zero] at ha
  subst ha
  obtain rfl := hf7
  refine rg_det rfl rfl rfl (fun K hK => ?_)
  go_big_quiet_op
  refine hK _ ?_; clear hK K
  refine rg_nil (fun w' hw' hF => ?_)
  obtain ⟨z, rfl⟩ := hw'
  simp only [List.drop_succ_cons, List.drop_zero]
  rotate_left 1
  refine rg_det rfl rfl rfl (fun K hK => ?_)
  go_big_quiet_op
  refine hK _ ?_; clear hK K
  refine rg_det rfl rfl rfl (fun K hK => ?_)
  go_big_quiet_op
  refine hK _ ?_; clear hK K
  refine rg_det rfl rfl rfl (fun K hK => ?_)
  go_big_quiet_op
  refine hK _ ?_; clear hK K
  refine rg_rel rfl rfl (fun W1 hW1 hF => step_callr en_attestor_attestorref02_MadeAll (xMadeAll O gs.length (by omega) vO w.heap.size W1 (RawS.keep hO4 (grw_below hW1)) (Nat.le_trans hNW (grw_below hW1).size)) rfl rfl) ?_
  intro n3 m3 v3 hn3 hm3 hd3 hf3 a' ha
  simp only [Act.put, List.setIfInBounds_toArray, List.set_cons_succ, List.set_cons_zero] at ha
  subst ha
  obtain ⟨A3, cap3, rfl⟩ := hf3
  refine rg_det rfl rfl rfl (fun K hK => ?_)
  go_big_quiet_op
  refine hK _ ?_; clear hK K
  refine rg_val rfl rfl (fun W1 hW1 hF => step_callv en_attestor_attestorref02_Made (xMade r.1 r.2 hr.1.1 hr.1.2 hr.2.1 hr.2.2 W1) rfl rfl) ?_
  intro a' ha
  simp only [Act.put, List.setIfInBounds_toArray, List.set_cons_succ, List.set_cons_zero] at ha
  subst ha
  refine rg_pass rfl rfl ?_
  intro a' ha
  simp only [Act.put, List.setIfInBounds_toArray, List.set_cons_succ, List.set_cons_zero] at ha
  subst ha
  refine rg_rel rfl rfl (fun W1 hW1 hF => step_new hi0 iz0 rfl) ?_
  intro n7 m7 v7 hn7 hm7 hd7 hf7 a' ha
  simp only [Act.put, List.setIfInBounds_toArray, List.set_cons_succ, List.set_cons_zero] at ha
  subst ha
  obtain rfl := hf7
  refine rg_det rfl rfl rfl (fun K hK => ?_)
  go_big_quiet_op
  refine hK _ ?_; clear hK K
  refine rg_nil (fun w' hw' hF => ?_)
  obtain ⟨z, rfl⟩ := hw'
  simp only [List.drop_succ_cons, List.drop_zero]
  refine wpList_putS ?_
  intro a' ha
  simp only [Act.put, List.setIfInBounds_toArray, List.set_cons_succ, List.set_cons_zero] at ha
  subst ha
  rotate_right 1
  obtain ⟨hm7, -, hl7, b7⟩ := end_last hF
  obtain ⟨hm6, -, hl6, b6⟩ := end_last (end_init hF)
  obtain ⟨hm3, t3⟩ := end_last (end_init (end_init hF))
  have d63 := hd6 (n3, m3) (by simp)
  have d73 := hd7 (n3, m3) (by simp)
  have d76 := hd7 (n6, m6) (by simp)
  simp only at d63 d73 d76
  rotate_left 1
  obtain ⟨hm7, -, hl7, b7⟩ := end_last hF
  obtain ⟨hm3, t3⟩ := end_last (end_init hF)
  have d73 := hd7 (n3, m3) (by simp)
  simp only at d73
  rotate_right 1
  all_goals
    clear hF c1 hd3 hd7
    have hvl : (madeAll O gs.length).length = gs.length := madeAll_length _ _
    generalize madeAll O gs.length = vs at *
    generalize em r.1 r.2 = f at *
    have e2 := b7.frozen
    have e3 := b7.cell
    have szz := z.h.size
    go_wp2_with fail
  refine set2 (M := fun W => Code.wp _ _ _ _ W) b7 fun X hX bX => ?_
  have bX : Blk X n7 27 #[.int .u64 (fv f.a), .int .u64 (fv f.b)] := bX
  have bX6 := hX.blk b6 (by omega)
  have tX : ExtS n3 m3 X _ vs := hX.rd t3 (by omega)
  have hBX : Below W4.heap.size W4 X := below_put z.h hX hn7
  have hXs := hX.size
  have hm3X : m3 ≤ X.heap.size := by omega
  have hne67 : n6 ≠ n7 := by omega
  have hne63 : n6 < n3 ∨ m3 ≤ n6 := by omega
  have h7X : n7 < X.heap.size := by omega
  have h6X : n6 < X.heap.size := by omega
  clear d76 d63 hd6 hl6 hm6 b6 b7 t3 hX hl7 hm7 d73 e2 e3 hm3 szz hXs
  rotate_left 1
  refine set2 (M := fun W => Code.wp _ _ _ _ (W.alloc (Obj.cells #[] 27))) b7 fun X0 hX bX => ?_
  have bX : Blk X0 n7 27 #[.int .u64 (fv f.a), .int .u64 (fv f.b)] := bX
  have tX : ExtS n3 m3 X0 _ vs := hX.rd t3 (by omega)
  have hBX : Below W4.heap.size W4 X0 := below_put z.h hX hn7
  have hXs := hX.size
  rw [← hXs]
  refine wp_stk1 fun X hB0 hz0 bX6 => ?_
  have bX := bX.keep hB0
  have tX : ExtS n3 m3 X _ vs := Rd.keep tX hB0
  have hBX := hBX.trans (hB0.mono (by omega))
  have hs0 : X.heap.size = X0.heap.size + 1 := hz0.out
  obtain ⟨n6, hn6e⟩ : ∃ n6, n6 = X0.heap.size := ⟨_, rfl⟩
  rw [← hn6e] at bX6 ⊢
  have hn6 : W4.heap.size ≤ n6 := by omega
  have hm3X : m3 ≤ X.heap.size := by omega
  have hne67 : n6 ≠ n7 := by omega
  have hne63 : n6 < n3 ∨ m3 ≤ n6 := by omega
  have h7X : n7 < X.heap.size := by omega
  have h6X : n6 < X.heap.size := by omega
  clear hs0 hn6e hB0 hz0 hXs hX b7 t3 hl7 hm7 d73 e2 e3 hm3 szz
  rotate_right 1
  all_goals
    have bX4 := b4.keep hBX
    have HVL := Lib.hid hvl
    have hB3X : Below w3.heap.size w3 X := hB4.trans (hBX.mono hB4.size)
    have h43 := hB4.size
    clear hvl
    go_loopw [13, 14] (fun v i wr => ∃ j : Nat, j ≤ gs.length ∧ i = .int .i64 j ∧ wr.ownsRow W4.heap.size 27 2 v j (sumCells us vs f j) ∧ OwnAt X n6 v ∧ X.grownBy wr (some n6)) (fun _ i _ => gs.length - (intOf i).toNat)
    case atStart => exact ⟨0, Nat.zero_le _, rfl, ⟨by simp [sumCells], .inr ⟨n6, 0, #[], rfl, hn6, bX6, Nat.le_refl _, Nat.zero_le _, rfl, by simp [sumCells]⟩⟩, ownAt_first, grown_refl _ _⟩
    case round =>
      obtain ⟨j, hj, rfl, hown, hat, hgr⟩ := hrel
      have hB3r : Below w3.heap.size w3 wr := grown_b hB3X hgr (Nat.le_trans h43 hBX.size) (Nat.le_trans h43 hn6)
      have hrs := hgr.size
      have br7 := grown_blk hgr bX (by simp; omega)
      have b4lt := b4.lt; have br4 := grown_blk hgr bX4 (by simp; omega)
      have tr : ExtS n3 m3 wr _ vs := grown_rd hgr tX hne63
      have hBwr := hB3.trans (hB3r.mono hB3.size)
      have hbase : W4.heap.size ≤ wr.heap.size := Nat.le_trans hBX.size hrs
      by_cases hlt : j < gs.length
      · have hU := HUL.out
        have hV := HVL.out
        obtain ⟨g', off', cap'', hv, p1, p2, p3, p4, p5⟩ := exts_cells (Ly.keep hB3r).hu (by omega)
        cases hv
        obtain ⟨g, off, cap', hv, q1, q2, q3, q4, q5⟩ := exts_cells tr (by omega)
        cases hv
        obtain ⟨u, hu⟩ : ∃ u, us[j]? = some u := ⟨us[j], List.getElem?_eq_getElem (by omega)⟩
        obtain ⟨v, hv⟩ : ∃ v, vs[j]? = some v := ⟨vs[j], List.getElem?_eq_getElem (by omega)⟩
        obtain ⟨k1, k2⟩ := p5 j u hu
        obtain ⟨d1, d2⟩ := q5 j v hv
        have hju : j < us.length := by omega
        have hjv : j < vs.length := by omega
        have x1 := gw_cell p4 k1
        have x2 := gw_cell p4 k2
        have x3 := gw_cell q4 d1
        have x4 := gw_cell q4 d2
        have x5 := gw_blk br7
        have HF := Lib.hid (sumV_get (f := f) hu hv)
        clear hU hV p5 q5 Ly tX hu hv k1 k2 d1 d2
        go_wp2_with fail
        refine wp_region_rg 13 [(10, .val (.agg #[.int .u64 (fv (f * v).a), .int .u64 (fv (f * v).b)])), (11, .val (.agg #[.int .u64 (fv (u + f * v).a), .int .u64 (fv (u + f * v).b)])), (12, .rel (Lit 27 1 #[.int .u64 (fv (u + f * v).a), .int .u64 (fv (u + f * v).b)]) AnyV)] (by kernel_rfl) (by kernel_rfl) (by kernel_rfl) ⟨fit_of (stable_lit), trivial⟩ ?_
        refine rg_det rfl rfl rfl (fun K hK => ?_)
        go_big_quiet_op
        refine hK _ ?_; clear hK K
        refine rg_det rfl rfl rfl (fun K hK => ?_)
        go_big_quiet_op
        refine hK _ ?_; clear hK K
        refine rg_det rfl rfl rfl (fun K hK => ?_)
        go_big_quiet_op
        refine hK _ ?_; clear hK K
        refine rg_det rfl rfl rfl (fun K hK => ?_)
        go_big_quiet_op
        refine hK _ ?_; clear hK K
        refine rg_det rfl rfl rfl (fun K hK => ?_)
        go_big_quiet_op
        refine hK _ ?_; clear hK K
        refine rg_det rfl rfl rfl (fun K hK => ?_)
        go_big_quiet_op
        refine hK _ ?_; clear hK K
        refine rg_det rfl rfl rfl (fun K hK => ?_)
        go_big_quiet_op
        refine hK _ ?_; clear hK K
        refine rg_det rfl rfl rfl (fun K hK => ?_)
        go_big_quiet_op
        refine hK _ ?_; clear hK K
        refine rg_det rfl rfl rfl (fun K hK => ?_)
        go_big_quiet_op
        refine hK _ ?_; clear hK K
        refine rg_det rfl rfl rfl (fun K hK => ?_)
        go_big_quiet_op
        refine hK _ ?_; clear hK K
        refine rg_val rfl rfl (fun W1 hW1 hF => step_callv en_attestor_ext_Mul (eMul f v W1) rfl rfl) ?_
        intro a' ha
        simp only [Act.put, List.setIfInBounds_toArray, List.set_cons_succ, List.set_cons_zero] at ha
        subst ha
        refine rg_val rfl rfl (fun W1 hW1 hF => step_callv en_attestor_ext_Add (eAdd u (f * v) W1) rfl rfl) ?_
        intro a' ha
        simp only [Act.put, List.setIfInBounds_toArray, List.set_cons_succ, List.set_cons_zero] at ha
        subst ha
        refine rg_rel rfl rfl (fun W1 hW1 hF => step_lit1 Tryd.underlying23 hi0 iz0 iz1 (by decide) (by decide) rfl rfl rfl) ?_
        intro n12 m12 v12 hn12 hm12 hd12 hf12 a' ha
        simp only [Act.put, List.setIfInBounds_toArray, List.set_cons_succ, List.set_cons_zero] at ha
        subst ha
        refine rg_nil (fun w' hw' hF => ?_)
        obtain ⟨z2, rfl⟩ := hw'
        simp only [List.drop_succ_cons, List.drop_zero]
        obtain ⟨hm, rfl, hlt', bl⟩ := end_last hF
        clear hF x1 x2 x3 x4 x5
        go_wp2_with (at_builtin; refine wpList_app2 rfl _ _ rfl Tryd.underlying23 hi0 iz0 iz1 iz2 rfl (by decide) (cl := ec (u + f * v)) rfl (ec_one _) rfl rfl (own_below hown (Nat.le_refl _) z2.h) hat (grown_below hgr z2.h) ?hsrc ?h63 ?hby ?hbase ?_)
        case hsrc => exact bl
        case h63 => unfold maxLen; omega
        case hby => omega
        case hbase => exact Nat.le_trans hbase z2.h.size
        intro v1 w4 hown4 hat4 hgr4
        go_wp2
        exact ⟨⟨j + 1, by omega, by go_num, by rw [HF.out]; exact hown4, hat4, hgr4⟩, by simp [intOf]; omega⟩
      · obtain rfl : j = gs.length := by omega
        have hS : (sumV us vs f).length = gs.length := by rw [sumV_len (HVL.out.trans HUL.out.symm)]; exact HUL.out
        have gS : ExtS W4.heap.size wr.heap.size wr u13 (sumV us vs f) := by
          unfold sumCells at hown
          rw [List.take_of_length_le (Nat.le_of_eq hS)] at hown
          have := Rd.of_own hown (by omega) (Nat.le_refl _)
          unfold ExtS
          rw [hS]
          exact this
        have hm3r : m3 ≤ wr.heap.size := by omega
        have Lu := Ly.keep hB3r
        obtain ⟨cv, hcv⟩ : ∃ cv, cv = coefs pp qq gs vs := ⟨_, rfl⟩
        have Lv : Lay wr gs vs pp qq _ _ _ _ := ⟨Lu.hl, tr.wide (Nat.zero_le _) hm3r, Lu.hp, Lu.hq, Lu.laid, Nat.le_of_eq HVL.out.symm, Lu.ok, Lu.pl, Lu.ql⟩
        have Ls : Lay wr gs (sumV us vs f) pp qq _ _ _ _ := ⟨Lu.hl, gS.wide (Nat.zero_le _) (Nat.le_refl _), Lu.hp, Lu.hq, Lu.laid, Nat.le_of_eq hS.symm, Lu.ok, Lu.pl, Lu.ql⟩
        clear hown gS Ly hS tr tX
        go_wp2_with fail
        have c4 := gw_blk br4
        refine wp_region_rg 12 [(3, .rel (ExtA (coefs pp qq gs us)) (SlF 4)), (7, .rel (ExtA (coefs pp qq gs vs)) (SlF 4)), (11, .rel (ExtA (coefs pp qq gs (sumV us vs f))) (SlF 4))] (by kernel_rfl) (by kernel_rfl) (by kernel_rfl) ⟨fit_ext, fit_ext, fit_ext, trivial⟩ ?_
        refine rg_det rfl rfl rfl (fun K hK => ?_)
        go_big_quiet_op
        refine hK _ ?_; clear hK K
        refine rg_det rfl rfl rfl (fun K hK => ?_)
        go_big_quiet_op
        refine hK _ ?_; clear hK K
        refine rg_det rfl rfl rfl (fun K hK => ?_)
        go_big_quiet_op
        refine hK _ ?_; clear hK K
        refine rg_rel rfl rfl (fun W1 hW1 hF => step_callr en_attestor_wiring_Coefficients ((Lu.grw hW1).coef x y) rfl rfl) ?_
        intro n3 m3 v3 hn3 hm3 hd3 hf3 a' ha
        simp only [Act.put, List.setIfInBounds_toArray, List.set_cons_succ, List.set_cons_zero] at ha
        subst ha
        obtain ⟨A3, cap3, rfl⟩ := hf3
        refine rg_det rfl rfl rfl (fun K hK => ?_)
        go_big_quiet_op
        refine hK _ ?_; clear hK K
        refine rg_det rfl rfl rfl (fun K hK => ?_)
        go_big_quiet_op
        refine hK _ ?_; clear hK K
        refine rg_det rfl rfl rfl (fun K hK => ?_)
        go_big_quiet_op
        refine hK _ ?_; clear hK K
        refine rg_rel rfl rfl (fun W1 hW1 hF => step_callr en_attestor_wiring_Coefficients ((Lv.grw hW1).coef x y) rfl rfl) ?_
        intro n7 m7 v7 hn7 hm7 hd7 hf7 a' ha
        simp only [Act.put, List.setIfInBounds_toArray, List.set_cons_succ, List.set_cons_zero] at ha
        subst ha
        obtain ⟨A7, cap7, rfl⟩ := hf7
        refine rg_det rfl rfl rfl (fun K hK => ?_)
        go_big_quiet_op
        refine hK _ ?_; clear hK K
        refine rg_det rfl rfl rfl (fun K hK => ?_)
        go_big_quiet_op
        refine hK _ ?_; clear hK K
        refine rg_det rfl rfl rfl (fun K hK => ?_)
        go_big_quiet_op
        refine hK _ ?_; clear hK K
        refine rg_rel rfl rfl (fun W1 hW1 hF => step_callr en_attestor_wiring_Coefficients ((Ls.grw hW1).coef x y) rfl rfl) ?_
        intro n11 m11 v11 hn11 hm11 hd11 hf11 a' ha
        simp only [Act.put, List.setIfInBounds_toArray, List.set_cons_succ, List.set_cons_zero] at ha
        subst ha
        obtain ⟨A11, cap11, rfl⟩ := hf11
        refine rg_nil (fun w' hw' hF => ?_)
        obtain ⟨z2, rfl⟩ := hw'
        simp only [List.drop_succ_cons, List.drop_zero]
        obtain ⟨hm11, t11⟩ := end_last hF
        obtain ⟨hm7, t7⟩ := end_last (end_init hF)
        obtain ⟨hm3', t3⟩ := end_last (end_init (end_init hF))
        have HLC := Lib.hid (fun k => lin_coef pp qq f k gs us vs HUL.out HVL.out)
        have b7z := br7.keep z2.h
        have hBz := hBwr.trans (z2.h.mono hBwr.size)
        clear hF c4
        obtain ⟨ga, oa, capa', hva, pa1, pa2, pa3, pa4, pa5⟩ := exts_cells t3 (Nat.succ_pos _)
        obtain ⟨gb, ob, capb', hvb, pb1, pb2, pb3, pb4, pb5⟩ := exts_cells t7 (Nat.succ_pos _)
        obtain ⟨gc', oc, capc', hvc, pc1, pc2, pc3, pc4, pc5⟩ := exts_cells t11 (Nat.succ_pos _)
        cases hva
        cases hvb
        cases hvc
        clear t3 t7 t11
        go_wp2_with fail
        go_loopw [18] (fun i wr => ∃ k : Nat, k ≤ 4 ∧ i = .int .i64 k ∧ Below z2.w.heap.size z2.w wr) (fun i _ => 4 - (intOf i).toNat)
        case atStart => exact ⟨0, Nat.zero_le _, rfl, Below.refl _ _⟩
        case round =>
          obtain ⟨k, hk, rfl, hB⟩ := hrel
          have hBr := hBz.trans (hB.mono hBz.size)
          by_cases hk4 : k < 4
          · obtain ⟨a1, a2⟩ := pa5 k _ (coefs_get pp qq gs us k hk4)
            obtain ⟨b1, b2⟩ := pb5 k _ (coefs_get pp qq gs vs k hk4)
            obtain ⟨c1, c2⟩ := pc5 k _ (coefs_get pp qq gs (sumV us vs f) k hk4)
            rw [← HLC.out k] at c1 c2
            generalize coef pp qq gs us k = xa at *
            generalize coef pp qq gs vs k = xb at *
            have f1 := gw_cell (W := wr) (Nat.lt_of_lt_of_le pa4 hB.size) ((hB.cell (p := ⟨ga, oa + k * 2, none⟩) pa4).trans a1)
            have f2 := gw_cell (W := wr) (Nat.lt_of_lt_of_le pa4 hB.size) ((hB.cell (p := ⟨ga, oa + k * 2 + 1, none⟩) pa4).trans a2)
            have f3 := gw_cell (W := wr) (Nat.lt_of_lt_of_le pb4 hB.size) ((hB.cell (p := ⟨gb, ob + k * 2, none⟩) pb4).trans b1)
            have f4 := gw_cell (W := wr) (Nat.lt_of_lt_of_le pb4 hB.size) ((hB.cell (p := ⟨gb, ob + k * 2 + 1, none⟩) pb4).trans b2)
            have f5 := gw_cell (W := wr) (Nat.lt_of_lt_of_le pc4 hB.size) ((hB.cell (p := ⟨gc', oc + k * 2, none⟩) pc4).trans c1)
            have f6 := gw_cell (W := wr) (Nat.lt_of_lt_of_le pc4 hB.size) ((hB.cell (p := ⟨gc', oc + k * 2 + 1, none⟩) pc4).trans c2)
            have f7 := gw_blk (b7z.keep hB)
            clear pa5 pb5 pc5 a1 a2 b1 b2 c1 c2 HLC
            go_wp2_with fail
            refine wp_region_rg 16 [(13, .val (.agg #[.int .u64 (fv (f * xb).a), .int .u64 (fv (f * xb).b)])), (14, .val (.agg #[.int .u64 (fv (xa + f * xb).a), .int .u64 (fv (xa + f * xb).b)]))] (by kernel_rfl) (by kernel_rfl) (by kernel_rfl) trivial ?_
            refine rg_det rfl rfl rfl (fun K hK => ?_)
            go_big_quiet_op
            refine hK _ ?_; clear hK K
            refine rg_det rfl rfl rfl (fun K hK => ?_)
            go_big_quiet_op
            refine hK _ ?_; clear hK K
            refine rg_det rfl rfl rfl (fun K hK => ?_)
            go_big_quiet_op
            refine hK _ ?_; clear hK K
            refine rg_det rfl rfl rfl (fun K hK => ?_)
            go_big_quiet_op
            refine hK _ ?_; clear hK K
            refine rg_det rfl rfl rfl (fun K hK => ?_)
            go_big_quiet_op
            refine hK _ ?_; clear hK K
            refine rg_det rfl rfl rfl (fun K hK => ?_)
            go_big_quiet_op
            refine hK _ ?_; clear hK K
            refine rg_det rfl rfl rfl (fun K hK => ?_)
            go_big_quiet_op
            refine hK _ ?_; clear hK K
            refine rg_det rfl rfl rfl (fun K hK => ?_)
            go_big_quiet_op
            refine hK _ ?_; clear hK K
            refine rg_det rfl rfl rfl (fun K hK => ?_)
            go_big_quiet_op
            refine hK _ ?_; clear hK K
            refine rg_det rfl rfl rfl (fun K hK => ?_)
            go_big_quiet_op
            refine hK _ ?_; clear hK K
            refine rg_det rfl rfl rfl (fun K hK => ?_)
            go_big_quiet_op
            refine hK _ ?_; clear hK K
            refine rg_det rfl rfl rfl (fun K hK => ?_)
            go_big_quiet_op
            refine hK _ ?_; clear hK K
            refine rg_det rfl rfl rfl (fun K hK => ?_)
            go_big_quiet_op
            refine hK _ ?_; clear hK K
            refine rg_val rfl rfl (fun W1 hW1 hF => step_callv en_attestor_ext_Mul (eMul f xb W1) rfl rfl) ?_
            intro a' ha
            simp only [Act.put, List.setIfInBounds_toArray, List.set_cons_succ, List.set_cons_zero] at ha
            subst ha
            refine rg_val rfl rfl (fun W1 hW1 hF => step_callv en_attestor_ext_Add (eAdd xa (f * xb) W1) rfl rfl) ?_
            intro a' ha
            simp only [Act.put, List.setIfInBounds_toArray, List.set_cons_succ, List.set_cons_zero] at ha
            subst ha
            refine rg_det rfl rfl rfl (fun K hK => ?_)
            go_big_quiet_op
            refine hK _ ?_; clear hK K
            refine rg_nil (fun w' hw' hF => ?_)
            obtain ⟨z3, rfl⟩ := hw'
            simp only [List.drop_succ_cons, List.drop_zero]
            clear hF f1 f2 f3 f4 f5 f6 f7
            go_wp2_with fail
            refine ⟨⟨k + 1, by omega, by go_num, hB.trans (z3.h.mono hB.size)⟩, by simp [intOf]; omega⟩
          · obtain rfl : k = 4 := by omega
            go_wp2_with fail
            go_ret
            exact ⟨rfl, hBr⟩
end Go.Proofs.YtbmgngoeiadmmaaDoor
