/-
  WiringMerge: the walk.
-/
import Derived.Test.YtbmgngoeiadmmaaDoorLay
import Derived.Test.YtbmgngoeiadmmaaDoorGrow
namespace Go.Proofs.YtbmgngoeiadmmaaDoor
open Go.RowKit

theorem esum_two (x y : E) : esum [x, y] = x + y := by simp [esum, E.add_zero]
theorem merge_coef (p q : List E) (gs : List Gt) (us : List E) (X : E) (g h m : Gt) (hl : us.length = gs.length) (hL : h.L = g.L ∧ m.L = g.L) (hR : h.R = g.R ∧ m.R = g.R) (k : Nat) (hk : gk m k = gk g k + gk h k) :
    coef p q (gs ++ [g, h]) (us ++ [X, X]) k = coef p q (gs ++ [m]) (us ++ [X, X]) k := by
  unfold coef
  rw [List.zip_append hl.symm, List.zip_append hl.symm, List.map_append, List.map_append, esum_append, esum_append]
  congr 1
  show esum [wgt p q (g, X) * eb (gk g k), wgt p q (h, X) * eb (gk h k)] = esum [wgt p q (m, X) * eb (gk m k)]
  have e1 : wgt p q (h, X) = wgt p q (g, X) := by unfold wgt; simp only [hL.1, hR.1]
  have e2 : wgt p q (m, X) = wgt p q (g, X) := by unfold wgt; simp only [hL.2, hR.2]
  rw [esum_two, e1, e2, hk, eb_add, E.mul_add]
  simp [esum, E.add_zero]
def mrg (g h : Gt) : Gt := ⟨g.L, g.R, g.c + h.c, g.a + h.a, g.b + h.b, g.d + h.d⟩
def hlp (g : Gt) (c a b d : Fp) : Gt := ⟨g.L, g.R, c, a, b, d⟩
theorem merge_coefs (p q : List E) (gs : List Gt) (us : List E) (X : E) (g : Gt) (c a b d : Fp) (hl : us.length = gs.length) : coefs p q (gs ++ [g, hlp g c a b d]) (us ++ [X, X]) = coefs p q (gs ++ [mrg g (hlp g c a b d)]) (us ++ [X, X]) := by
  unfold coefs
  apply List.map_congr_left
  intro k hk
  refine merge_coef p q gs us X g (hlp g c a b d) (mrg g (hlp g c a b d)) hl ⟨rfl, rfl⟩ ⟨rfl, rfl⟩ k ?_
  have : k = 0 ∨ k = 1 ∨ k = 2 ∨ k = 3 := by have := List.mem_range.1 hk; omega
  rcases this with rfl | rfl | rfl | rfl <;> rfl
theorem rawg_of_blk {W : World} {g : Nat} {t : TypeId} {x : Rg} {lo hi : Nat} (h : Blk W g t (rgc x).toArray) (hlo : lo ≤ g) (hhi : g < hi) (hx : x.Ok) : RawG lo hi W (.slice (some ⟨g, 0, none⟩) 1 1) [x] := by
  refine ⟨⟨rfl, Nat.le_of_ble_eq_true rfl, some ⟨g, 0, none⟩, 1, rfl, Nat.le_refl _, fun _ => ⟨g, 0, rfl, hlo, hhi, h.lt, fun j u hu => ?_⟩⟩, fun y hy => by rw [List.mem_singleton.1 hy]; exact hx⟩
  rw [Nat.zero_add, h.cell]
  simpa using hu
theorem one_gate {lo hi : Nat} {w : World} {v : Value} {g : Gt} (h : GateS lo hi w v [g]) : ∃ b off cap, v = .slice (some ⟨b, off, none⟩) 1 cap ∧ b < w.heap.size ∧ w.cell? ⟨b, off, none⟩ = some (.int .i64 g.L) ∧ w.cell? ⟨b, off + 1, none⟩ = some (.int .i64 g.R) ∧ w.cell? ⟨b, off + 2, none⟩ = some (.int .u64 (fv g.c)) ∧
      w.cell? ⟨b, off + 3, none⟩ = some (.int .u64 (fv g.a)) ∧ w.cell? ⟨b, off + 4, none⟩ = some (.int .u64 (fv g.b)) ∧ w.cell? ⟨b, off + 5, none⟩ = some (.int .u64 (fv g.d)) := by
  obtain ⟨b, off, cap, q1, _, _, _, q4, q5⟩ := gates_cells h (Nat.succ_pos _)
  have := q5 0 g rfl
  rw [Nat.zero_mul, Nat.add_zero] at this
  exact ⟨b, off, cap, q1, q4, this⟩
theorem gates_of_own {base hi n : Nat} {e : TypeId} {w : World} {v : Value} {xs : List Gt} (h : w.ownsRow base e 6 v n (xs.flatMap gc)) (hl : xs.length = n) (hn : n ≤ 140737488355327) (hh : w.heap.size ≤ hi) : GateS base hi w v xs := by
  have := Rd.of_own h hn hh
  unfold GateS
  rw [hl]
  exact this
theorem gc_ones (gs : List Gt) : ∀ u ∈ gs.flatMap gc, u.oneCell' = true := fun u hu => by obtain ⟨x, _, hx⟩ := List.mem_flatMap.1 hu; exact gc_one x u hx
theorem ec_ones (xs : List E) : ∀ u ∈ xs.flatMap ec, u.oneCell' = true := fun u hu => by obtain ⟨x, _, hx⟩ := List.mem_flatMap.1 hu; exact ec_one x u hx
set_option maxRecDepth 100000 in
set_option maxHeartbeats 8000000 in
theorem wkMerge (q : Qy) (vL vU vP vQ : Value) (xg : Rg) (c0 c1 c2 c3 : Int) (w : World) (h : QyS w.heap.size w q vL vU vP vQ) (hxg : xg.Ok) (o0 : Word c0) (o1 : Word c1) (o2 : Word c2) (o3 : Word c3) (hL : Laid w) :
    Calls Tryd.prog 8 #[qv vL vU vP vQ q, .agg (rgc xg).toArray, .agg #[.int .u64 c0, .int .u64 c1, .int .u64 c2, .int .u64 c3]] w (Ret (.bool true) w) := by
  have hrg : (rgc xg).toArray = #[.int .i64 xg.L, .int .i64 xg.R, .int .u64 xg.c, .int .u64 xg.a, .int .u64 xg.b, .int .u64 xg.d] := rfl
  rw [hrg]
  have HRG := Lib.hid hrg
  clear hrg
  unfold qv
  obtain ⟨i0, hi0, iz0, iz1, iz2⟩ := info_parts gate_info
  obtain ⟨j0, hj0, jz0, jz1, jz2⟩ := info_parts ext_info
  have hgl := q.gs_len
  have hul := q.us_len
  have hpk := q.p_len
  have hk3 := q.k3 h.K.1
  go_enter Tryd.func8, Tryd.ntmps8
  go_wp2_with fail
  refine calls_stk3 fun W1 hB1 hz1 b1 b2 b3 => ?_
  refine (lSanity W1 (hL.keep hB1)).mono ?_
  rintro e w2 ⟨rfl, hb2⟩
  have hB2 := hB1.trans (hb2.mono hB1.size)
  have e1 := (b1.keep hb2).cell
  have b22 := b2.keep hb2
  have b32 := b3.keep hb2
  go_wp2_with fail
  refine (lMade q vL vU vP vQ w.heap.size w2 (h.keep hB2) hB2.size).mono ?_
  rintro e w3 ⟨a, b, c, d, rfl, m1, m2, m3, m4, hb3⟩
  obtain ⟨Aa, capa, rfl⟩ := Rd.len m1
  obtain ⟨Ab, capb, rfl⟩ := Rd.len m2
  obtain ⟨Ac, capc, rfl⟩ := Rd.len m3
  obtain ⟨Ad, capd, rfl⟩ := Rd.len m4
  have hB3 := hB2.trans (hb3.mono hB2.size)
  have Ly := lay_made h.K.1 m1 m2 m3 m4 (hL.keep hB3)
  have b23 := b22.keep hb3
  have b33 := b32.keep hb3
  clear e1 h m1 m2 m3 m4 b1 b2 b3 b22 b32
  unfold endsV
  have hkp : q.p.length ≤ 3 := by omega
  have HUL := Lib.hid hul
  have HPQ := Lib.hid (q.p_len.trans q.q_len.symm)
  clear hul hpk hk3
  generalize q.gs = gs at *
  generalize q.us = us at *
  generalize q.p = pp at *
  generalize q.q = qq at *
  generalize q.x = x at *
  generalize q.y = y at *
  have e2 := (b23.alloc (.cells #[.slice Ac pp.length capc, .slice Ad qq.length capd, .int .u64 (fv x.a), .int .u64 (fv x.b), .int .u64 (fv y.a), .int .u64 (fv y.b)] 33)).cell
  go_wp2_with fail
  refine calls_stk2 fun W4 hB4 hz4 b4 b5 => ?_
  have rg5 : RawG 0 W4.heap.size W4 (.slice (some ⟨w3.heap.size + 1, 0, none⟩) 1 1) [xg] := rawg_of_blk (by rw [HRG.out]; exact b5) (Nat.zero_le _) b5.lt hxg
  refine (gMade [xg] pp.length 1 hkp (by decide) _ W4.heap.size W4 rg5 (Nat.le_refl _)).mono ?_
  rintro e w5 ⟨v5, rfl, g5, hb5⟩
  have g5 : GateS W4.heap.size w5.heap.size w5 v5 [gm pp.length xg] := g5
  obtain ⟨hgL, hgR⟩ := gm_ok pp.length xg
  generalize gm pp.length xg = g at *
  obtain ⟨bG, oG, capG, rfl, hbG, k0, k1, k2, k3, k4, k5⟩ := one_gate g5
  have hB5 := hB4.trans (hb5.mono hB4.size)
  have Ly5 := Ly.keep hB5
  have b35 := b33.keep hB5
  have b45 := b4.keep hb5
  have hBw5 := hB3.trans (hB5.mono hB3.size)
  clear e2 g5 rg5
  go_wp2_with fail
  refine wp_stk1 fun W6 hB6 hz6 b6 => ?_
  have b36 := b35.keep hB6
  have b46 := b45.keep hB6
  have Ly6 := Ly5.keep hB6
  have hBw6 := hBw5.trans (hB6.mono hBw5.size)
  have hs6 := hB6.size
  have r6 := gw_blk b6
  clear k0 k1 k2 k3 k4 k5
  refine wp_region_late 4 [1] [(2, Spec.rel (New 46 #[.int .i64 0, .int .i64 0, .int .u64 0, .int .u64 0, .int .u64 0, .int .u64 0]) (NewF)), (3, Spec.rel (New 46 #[.int .i64 0, .int .i64 0, .int .u64 0, .int .u64 0, .int .u64 0, .int .u64 0]) (NewF))] (by kernel_rfl) (by kernel_rfl) (by kernel_rfl) (by kernel_rfl) (by intro _ _ d _ _ h; cases d <;> exact h) ⟨fit_new, fit_new, trivial⟩ ?_
  refine rg_det rfl rfl rfl (fun K hK => ?_)
  go_big_quiet_op
  refine hK _ ?_; clear hK K
  refine rg_det rfl rfl rfl (fun K hK => ?_)
  go_big_quiet_op
  refine hK _ ?_; clear hK K
  refine rg_rel rfl rfl (fun W1 hW1 hF => step_new hi0 iz0 rfl) ?_
  intro n2 m2 v2 hn2 hm2 hd2 hf2 a' ha
  simp only [Act.put, List.setIfInBounds_toArray, List.set_cons_succ, List.set_cons_zero] at ha
  subst ha
  obtain rfl := hf2
  refine rg_rel rfl rfl (fun W1 hW1 hF => step_new hi0 iz0 rfl) ?_
  intro n3 m3 v3 hn3 hm3 hd3 hf3 a' ha
  simp only [Act.put, List.setIfInBounds_toArray, List.set_cons_succ, List.set_cons_zero] at ha
  subst ha
  obtain rfl := hf3
  refine rg_nil (fun w' hw' hF => ?_)
  obtain ⟨z, rfl⟩ := hw'
  simp only [List.drop_succ_cons, List.drop_zero]
  obtain ⟨-, -, l3, f3⟩ := end_last hF
  obtain ⟨-, -, l2, f2⟩ := end_last (end_init hF)
  have d32 := hd3 (n2, m2) (by simp)
  simp only at d32
  clear hF r6 hd2 hd3
  obtain ⟨V, hV⟩ : ∃ V : List Value, V = gc g := ⟨_, rfl⟩
  refine wpListC_put (cells := V) (new := V.toArray) rfl _ _ _ rfl rfl (by rw [hV]; rfl) f2 (by rw [hV]; exact Nat.le_refl _) (by rw [hV]; kernel_rfl) (by rw [hV]; rfl) (by rw [hV]; rfl) ⟨z, rfl⟩ hn2 fun X1 p1 w1 g1 => ?_
  refine wpListC_put (cells := V) (new := V.toArray) rfl _ _ _ rfl rfl (by rw [hV]; rfl) (p1.blk f3 (by omega)) (by rw [hV]; exact Nat.le_refl _) (by rw [hV]; kernel_rfl) (by rw [hV]; rfl) (by rw [hV]; rfl) g1 hn3 fun X2 p2 w2' g2 => ?_
  have r2 := p2.blk w1 (by omega)
  have r3 := w2'
  have hX := grw_below g2
  rw [hV] at r2 r3
  clear f2 f3 w1 w2' p1 p2 g1 g2
  replace hX := hX
  have hne32 : n3 ≠ n2 := by omega
  have hne1 : w.heap.size + 1 + 1 ≠ n2 := by have := hB5.size; have := hB6.size; have := b33.lt; omega
  have hne2 : w5.heap.size ≠ n2 := by have := b6.lt; omega
  have hne3 : w5.heap.size ≠ n3 := by have := b6.lt; omega
  refine wpListC_nil ?_
  have e1 := r2.frozen
  have e2 := (b36.keep hX).cell
  have e3 := (b6.keep hX).cell
  have e4 := r2.cell
  go_wp2_with fail
  refine (rRedF c0 o0 _).mono ?_
  rintro e Y0 ⟨rfl, hb⟩
  replace r2 := r2.keep hb
  replace r3 := r3.keep hb
  replace hX := hX.trans (hb.mono hX.size)
  replace e1 := r2.frozen
  replace e2 := (b36.keep hX).cell
  replace e3 := (b6.keep hX).cell
  replace e4 := r2.cell
  clear hb
  go_wp2_with fail
  refine set1 (M := fun W => Calls _ _ _ W _) r2 fun X0 p r2' => ?_
  replace r3 := p.blk r3 hne32
  replace hX := below_put hX p hn2
  replace r2 : Blk X0 n2 46 #[.int .i64 g.L, .int .i64 g.R, .int .u64 (fv (fz c0)), .int .u64 (fv g.a), .int .u64 (fv g.b), .int .u64 (fv g.d)] := r2'
  clear r2' p
  refine (rRedF c1 o1 _).mono ?_
  rintro e Y1 ⟨rfl, hb⟩
  replace r2 := r2.keep hb
  replace r3 := r3.keep hb
  replace hX := hX.trans (hb.mono hX.size)
  replace e1 := r2.frozen
  replace e2 := (b36.keep hX).cell
  replace e3 := (b6.keep hX).cell
  replace e4 := r2.cell
  clear hb
  go_wp2_with fail
  refine set1 (M := fun W => Calls _ _ _ W _) r2 fun X1 p r2' => ?_
  replace r3 := p.blk r3 hne32
  replace hX := below_put hX p hn2
  replace r2 : Blk X1 n2 46 #[.int .i64 g.L, .int .i64 g.R, .int .u64 (fv (fz c0)), .int .u64 (fv (fz c1)), .int .u64 (fv g.b), .int .u64 (fv g.d)] := r2'
  clear r2' p
  refine (rRedF c2 o2 _).mono ?_
  rintro e Y2 ⟨rfl, hb⟩
  replace r2 := r2.keep hb
  replace r3 := r3.keep hb
  replace hX := hX.trans (hb.mono hX.size)
  replace e1 := r2.frozen
  replace e2 := (b36.keep hX).cell
  replace e3 := (b6.keep hX).cell
  replace e4 := r2.cell
  clear hb
  go_wp2_with fail
  refine set1 (M := fun W => Calls _ _ _ W _) r2 fun X2 p r2' => ?_
  replace r3 := p.blk r3 hne32
  replace hX := below_put hX p hn2
  replace r2 : Blk X2 n2 46 #[.int .i64 g.L, .int .i64 g.R, .int .u64 (fv (fz c0)), .int .u64 (fv (fz c1)), .int .u64 (fv (fz c2)), .int .u64 (fv g.d)] := r2'
  clear r2' p
  refine (rRedF c3 o3 _).mono ?_
  rintro e Y3 ⟨rfl, hb⟩
  replace r2 := r2.keep hb
  replace r3 := r3.keep hb
  replace hX := hX.trans (hb.mono hX.size)
  replace e1 := r2.frozen
  replace e2 := (b36.keep hX).cell
  replace e3 := (b6.keep hX).cell
  replace e4 := r2.cell
  clear hb
  go_wp2_with fail
  refine set1 (M := fun W => Calls _ _ _ W _) r2 fun X3 p r2' => ?_
  replace r3 := p.blk r3 hne32
  replace hX := below_put hX p hn2
  replace r2 : Blk X3 n2 46 #[.int .i64 g.L, .int .i64 g.R, .int .u64 (fv (fz c0)), .int .u64 (fv (fz c1)), .int .u64 (fv (fz c2)), .int .u64 (fv (fz c3))] := r2'
  clear r2' p
  refine (rAdd g.c (fz c0) _).mono ?_
  rintro e Z0 ⟨rfl, rfl⟩
  replace e1 := r3.frozen
  replace e2 := r2.cell
  replace e3 := (b6.keep hX).cell
  clear e4
  have e4 := r3.cell
  go_wp2_with fail
  refine set1 (M := fun W => Calls _ _ _ W _) r3 fun Z0 p r3' => ?_
  replace r2 := p.blk r2 (Ne.symm hne32)
  replace hX := below_put hX p hn3
  replace r3 : Blk Z0 n3 46 #[.int .i64 g.L, .int .i64 g.R, .int .u64 (fv (g.c + fz c0)), .int .u64 (fv g.a), .int .u64 (fv g.b), .int .u64 (fv g.d)] := r3'
  clear r3' p
  refine (rAdd g.a (fz c1) _).mono ?_
  rintro e Z1 ⟨rfl, rfl⟩
  replace e1 := r3.frozen
  replace e2 := r2.cell
  replace e3 := (b6.keep hX).cell
  clear e4
  have e4 := r3.cell
  go_wp2_with fail
  refine set1 (M := fun W => Calls _ _ _ W _) r3 fun Z1 p r3' => ?_
  replace r2 := p.blk r2 (Ne.symm hne32)
  replace hX := below_put hX p hn3
  replace r3 : Blk Z1 n3 46 #[.int .i64 g.L, .int .i64 g.R, .int .u64 (fv (g.c + fz c0)), .int .u64 (fv (g.a + fz c1)), .int .u64 (fv g.b), .int .u64 (fv g.d)] := r3'
  clear r3' p
  refine (rAdd g.b (fz c2) _).mono ?_
  rintro e Z2 ⟨rfl, rfl⟩
  replace e1 := r3.frozen
  replace e2 := r2.cell
  replace e3 := (b6.keep hX).cell
  clear e4
  have e4 := r3.cell
  go_wp2_with fail
  refine set1 (M := fun W => Calls _ _ _ W _) r3 fun Z2 p r3' => ?_
  replace r2 := p.blk r2 (Ne.symm hne32)
  replace hX := below_put hX p hn3
  replace r3 : Blk Z2 n3 46 #[.int .i64 g.L, .int .i64 g.R, .int .u64 (fv (g.c + fz c0)), .int .u64 (fv (g.a + fz c1)), .int .u64 (fv (g.b + fz c2)), .int .u64 (fv g.d)] := r3'
  clear r3' p
  refine (rAdd g.d (fz c3) _).mono ?_
  rintro e Z3 ⟨rfl, rfl⟩
  replace e1 := r3.frozen
  replace e2 := r2.cell
  replace e3 := (b6.keep hX).cell
  clear e4
  have e4 := r3.cell
  go_wp2_with (at_builtin; refine stop_in ?_)
  refine stop_out ?_
  refine set1 (M := fun W => wpList _ _ _ _ _ (W.alloc (Obj.cells #[] 46))) r3 fun Z3 p r3' => ?_
  replace r2 := p.blk r2 (Ne.symm hne32)
  replace hX := below_put hX p hn3
  replace r3 : Blk Z3 n3 46 #[.int .i64 g.L, .int .i64 g.R, .int .u64 (fv (g.c + fz c0)), .int .u64 (fv (g.a + fz c1)), .int .u64 (fv (g.b + fz c2)), .int .u64 (fv (g.d + fz c3))] := r3'
  rw [← p.size]
  clear r3' p e1 e2 e3 e4
  have LZ := Ly6.keep hX
  have bZ := b46.keep hX
  have hgX := hX.size
  clear b36 b35 b33 b45 b46 Ly6 Ly5 Ly
  refine stk1 (M := fun W => wpList _ _ _ _ _ W) fun W7 hB7 hz7 b7 => ?_
  have hs7 : W7.heap.size = Z3.heap.size + 1 := hz7.out
  refine wpList_appB rfl _ _ rfl Tryd.underlying22 hi0 iz0 iz1 iz2 rfl (by decide) (cl := gs.flatMap gc) (base := Z3.heap.size) (cs := []) (k := 0) (fun u hu => by obtain ⟨x, _, hx⟩ := List.mem_flatMap.1 hu; exact gc_one x u hx) rfl rfl (Rd.keep LZ.hl hB7) ⟨rfl, .inr ⟨Z3.heap.size, 0, #[], rfl, Nat.le_refl _, b7, Nat.le_refl _, Nat.zero_le _, rfl, rfl⟩⟩ (by unfold maxLen; omega) (by omega) (by omega) ?_
  intro v8 w8 hownw8 hgroww8 hBw8
  rw [Nat.zero_add, List.nil_append] at hownw8
  have B8 := hB7.trans hBw8
  have e1 := (r3.keep B8).cell
  have e2 := (r2.keep B8).cell
  have e3 := ((b6.keep hX).keep B8).cell
  clear b7 hgroww8
  go_wp2_with (at_builtin; refine stop_in ?_)
  refine stop_out ?_
  refine stk1 (M := fun W => wpList _ _ _ _ _ W) fun W9 hB9 hz9 b9 => ?_
  have hs8 := B8.size
  have hs9 : W9.heap.size = w8.heap.size + 1 := hz9.out
  have g9 : GateS 0 W9.heap.size W9 (.slice (some ⟨w8.heap.size, 0, none⟩) 2 2) [g, hlp g (fz c0) (fz c1) (fz c2) (fz c3)] := gates_of_blk b9 rfl (by decide) (Nat.zero_le _) b9.lt
  refine wpList_appB rfl _ _ rfl Tryd.underlying22 hi0 iz0 iz1 iz2 rfl (by decide) (gc_ones [g, hlp g (fz c0) (fz c1) (fz c2) (fz c3)]) rfl rfl g9 (own_below hownw8 (Nat.le_refl _) hB9) (by unfold maxLen; show gs.length + 2 ≤ _; omega) (by show (gs.length + 2) * _ ≤ _; omega) (by omega) ?_
  intro v10 w10 hown10 hgrow10 hBw10
  have B10 : Below Z3.heap.size Z3 w10 := (B8.trans (hB9.mono (by omega))).trans hBw10
  have two : GateS Z3.heap.size w10.heap.size w10 v10 (gs ++ [g, hlp g (fz c0) (fz c1) (fz c2) (fz c3)]) := gates_of_own (n := gs.length + 2) (by rw [List.flatMap_append]; exact hown10) (by simp) (by omega) (Nat.le_refl _)
  clear hownw8 b9 g9 hgrow10 hown10 e1 e2 e3
  go_wp2_with (at_builtin; refine stop_in ?_)
  refine stop_out ?_
  refine stk1 (M := fun W => wpList _ _ _ _ _ W) fun W11 hB11 hz11 b11 => ?_
  have hs10 := B10.size
  have hs11 : W11.heap.size = w10.heap.size + 1 := hz11.out
  refine wpList_appB rfl _ _ rfl Tryd.underlying22 hi0 iz0 iz1 iz2 rfl (by decide) (cl := gs.flatMap gc) (base := w10.heap.size) (cs := []) (k := 0) (fun u hu => by obtain ⟨x, _, hx⟩ := List.mem_flatMap.1 hu; exact gc_one x u hx) rfl rfl (Rd.keep (Rd.keep LZ.hl B10) hB11) ⟨rfl, .inr ⟨w10.heap.size, 0, #[], rfl, Nat.le_refl _, b11, Nat.le_refl _, Nat.zero_le _, rfl, rfl⟩⟩ (by unfold maxLen; omega) (by omega) (by omega) ?_
  intro v12 w12 hownw12 hgroww12 hBw12
  rw [Nat.zero_add, List.nil_append] at hownw12
  have B12 := hB11.trans hBw12
  have B12Z := B10.trans (B12.mono hs10)
  have e1 := (r3.keep B12Z).cell
  clear b11 hgroww12
  go_wp2_with (at_builtin; refine stop_in ?_)
  refine stop_out ?_
  refine stk1 (M := fun W => wpList _ _ _ _ _ W) fun W13 hB13 hz13 b13 => ?_
  have hs12 := B12.size
  have hs13 : W13.heap.size = w12.heap.size + 1 := hz13.out
  have g13 : GateS 0 W13.heap.size W13 (.slice (some ⟨w12.heap.size, 0, none⟩) 1 1) [mrg g (hlp g (fz c0) (fz c1) (fz c2) (fz c3))] := gates_of_blk b13 rfl (by decide) (Nat.zero_le _) b13.lt
  refine wpList_appB rfl _ _ rfl Tryd.underlying22 hi0 iz0 iz1 iz2 rfl (by decide) (gc_ones [mrg g (hlp g (fz c0) (fz c1) (fz c2) (fz c3))]) rfl rfl g13 (own_below hownw12 (Nat.le_refl _) hB13) (by unfold maxLen; show gs.length + 1 ≤ _; omega) (by show (gs.length + 1) * _ ≤ _; omega) (by omega) ?_
  intro v14 w14 hown14 hgrow14 hBw14
  have B14 : Below w10.heap.size w10 w14 := (B12.trans (hB13.mono (by omega))).trans hBw14
  have one : GateS w10.heap.size w14.heap.size w14 v14 (gs ++ [mrg g (hlp g (fz c0) (fz c1) (fz c2) (fz c3))]) := gates_of_own (n := gs.length + 1) (by rw [List.flatMap_append]; exact hown14) (by simp) (by omega) (Nat.le_refl _)
  clear hownw12 b13 g13 hgrow14 hown14 e1
  go_wp2_with (at_builtin; refine stop_in ?_)
  refine stop_out ?_
  refine stk1 (M := fun W => wpList _ _ _ _ _ W) fun W15 hB15 hz15 b15 => ?_
  have hs14 := B14.size
  have hs15 : W15.heap.size = w14.heap.size + 1 := hz15.out
  have B14Z := B10.trans (B14.mono hs10)
  have hus : us.length ≤ 12 := by rw [HUL.out]; exact hgl
  obtain ⟨i0, hi0, iz0, iz1, iz2⟩ := info_parts ext_info
  have B15Z : Below Z3.heap.size Z3 W15 := B14Z.trans (hB15.mono (by omega))
  have HUS : ExtS 0 W15.heap.size W15 (.slice Ab us.length capb) us := (LZ.keep B15Z).hu
  refine wpList_appB rfl _ _ rfl Tryd.underlying23 hi0 iz0 iz1 iz2 rfl (by decide) (cl := us.flatMap ec) (base := w14.heap.size) (cs := []) (k := 0) (fun u hu => by obtain ⟨x, _, hx⟩ := List.mem_flatMap.1 hu; exact ec_one x u hx) rfl rfl HUS ⟨rfl, .inr ⟨w14.heap.size, 0, #[], rfl, Nat.le_refl _, b15, Nat.le_refl _, Nat.zero_le _, rfl, rfl⟩⟩ (by unfold maxLen; omega) (by omega) (by omega) ?_
  intro v16 w16 hownw16 hgroww16 hBw16
  rw [Nat.zero_add, List.nil_append] at hownw16
  have B16 := hB15.trans hBw16
  have B16Z := B14Z.trans (B16.mono (by omega))
  have e1 := (bZ.keep B16Z).cell
  clear b15 hgroww16 HUS
  go_wp2_with (at_builtin; refine stop_in ?_)
  refine stop_out ?_
  refine stk1 (M := fun W => wpList _ _ _ _ _ W) fun W17 hB17 hz17 b17 => ?_
  have hs16 := B16.size
  have hs17 : W17.heap.size = w16.heap.size + 1 := hz17.out
  have g17 : ExtS 0 W17.heap.size W17 (.slice (some ⟨w16.heap.size, 0, none⟩) 2 2) [x, x] := exts_of_blk (cs := [x, x]) b17 rfl (by decide) (Nat.zero_le _) b17.lt
  refine wpList_appB rfl _ _ rfl Tryd.underlying23 hi0 iz0 iz1 iz2 rfl (by decide) (ec_ones [x, x]) rfl rfl g17 (own_below hownw16 (Nat.le_refl _) hB17) (by unfold maxLen; show us.length + 2 ≤ _; omega) (by show (us.length + 2) * _ ≤ _; omega) (by omega) ?_
  intro v18 w18 hown18 hgrow18 hBw18
  have B18 : Below w14.heap.size w14 w18 := (B16.trans (hB17.mono (by omega))).trans hBw18
  have wts : ExtS w14.heap.size w18.heap.size w18 v18 (us ++ [x, x]) := exts_of_own (n := us.length + 2) (by rw [List.flatMap_append]; exact hown18) (by simp) (by omega) (Nat.le_refl _)
  have B18Z : Below Z3.heap.size Z3 w18 := B14Z.trans (B18.mono (by omega))
  have B18w : Below w.heap.size w w18 := ((hBw6.trans (hX.mono hBw6.size)).trans (B18Z.mono (by have := hBw6.size; omega)))
  have L18 := LZ.keep B18Z
  have cE := gw_blk (bZ.keep B18Z)
  have LT : Lay w18 (gs ++ [g, hlp g (fz c0) (fz c1) (fz c2) (fz c3)]) (us ++ [x, x]) pp qq v10 v18 (.slice Ac pp.length capc) (.slice Ad qq.length capd) :=
    ⟨(Rd.keep (Rd.keep two B14) B18).wide (Nat.zero_le _) (by have := B14.size; have := B18.size; omega), wts.wide (Nat.zero_le _) (Nat.le_refl _), L18.hp, L18.hq, L18.laid, by simp [HUL.out], fun t ht => by
      rcases List.mem_append.1 ht with h | h
      · exact L18.ok t h
      · simp only [List.mem_cons, List.not_mem_nil, or_false] at h
        rcases h with rfl | rfl
        · exact ⟨hgL, by rw [← HPQ.out]; exact hgR⟩
        · exact ⟨hgL, by rw [← HPQ.out]; exact hgR⟩, L18.pl, L18.ql⟩
  have LO : Lay w18 (gs ++ [mrg g (hlp g (fz c0) (fz c1) (fz c2) (fz c3))]) (us ++ [x, x]) pp qq v14 v18 (.slice Ac pp.length capc) (.slice Ad qq.length capd) :=
    ⟨(Rd.keep one B18).wide (Nat.zero_le _) (by have := B18.size; omega), wts.wide (Nat.zero_le _) (Nat.le_refl _), L18.hp, L18.hq, L18.laid, by simp [HUL.out], fun t ht => by
      rcases List.mem_append.1 ht with h | h
      · exact L18.ok t h
      · simp only [List.mem_cons, List.not_mem_nil, or_false] at h
        subst h
        exact ⟨hgL, by rw [← HPQ.out]; exact hgR⟩, L18.pl, L18.ql⟩
  have XO : ∀ W', Below w18.heap.size w18 W' → Calls Tryd.prog 16 #[v14, v18, endsV (.slice Ac pp.length capc) (.slice Ad qq.length capd) x y] W' (RetR (ExtA (coefs pp qq (gs ++ [g, hlp g (fz c0) (fz c1) (fz c2) (fz c3)]) (us ++ [x, x]))) W') := fun W' hW => by
    rw [merge_coefs pp qq gs us x g _ _ _ _ HUL.out]; exact (LO.keep hW).coef x y
  replace XO := Lib.hid XO
  clear hownw16 hown18 hgrow18 b17 g17 wts one two L18 LO e1
  generalize gs ++ [g, hlp g (fz c0) (fz c1) (fz c2) (fz c3)] = g2 at *
  generalize us ++ [x, x] = u2 at *
  go_wp2_with fail
  refine wp_region_rg 12 [(3, Spec.rel (ExtA (coefs pp qq g2 u2)) (SlF 4)), (7, Spec.rel (ExtA (coefs pp qq g2 u2)) (SlF 4)), (8, Spec.val (.bool true))] (by kernel_rfl) (by kernel_rfl) (by kernel_rfl) ⟨fit_ext, fit_ext, trivial⟩ ?_
  refine rg_det rfl rfl rfl (fun K hK => ?_)
  go_big_quiet_op
  refine hK _ ?_; clear hK K
  refine rg_det rfl rfl rfl (fun K hK => ?_)
  go_big_quiet_op
  refine hK _ ?_; clear hK K
  refine rg_det rfl rfl rfl (fun K hK => ?_)
  go_big_quiet_op
  refine hK _ ?_; clear hK K
  refine rg_rel rfl rfl (fun W1 hW1 hF => step_callr en_attestor_wiring_Coefficients ((LT.grw hW1).coef x y) rfl rfl) ?_
  intro n3 m3 v3 hn3 hm3 hd3 hf3 a' ha
  simp only [Act.put, List.setIfInBounds_toArray, List.set_cons_succ, List.set_cons_zero] at ha
  subst ha
  obtain ⟨A3, cap3, rfl⟩ := hf3
  refine rg_det rfl rfl rfl (fun K hK => ?_)
  go_big_quiet_op
  refine hK _ ?_; clear hK K
  refine rg_det rfl rfl rfl (fun K hK => ?_)
  go_big_quiet_op
  refine hK _ ?_; clear hK K
  refine rg_det rfl rfl rfl (fun K hK => ?_)
  go_big_quiet_op
  refine hK _ ?_; clear hK K
  refine rg_rel rfl rfl (fun W1 hW1 hF => step_callr en_attestor_wiring_Coefficients (XO.out W1 (grw_below hW1)) rfl rfl) ?_
  intro n7 m7 v7 hn7 hm7 hd7 hf7 a' ha
  simp only [Act.put, List.setIfInBounds_toArray, List.set_cons_succ, List.set_cons_zero] at ha
  subst ha
  obtain ⟨A7, cap7, rfl⟩ := hf7
  refine rg_val rfl rfl (fun W1 hW1 hF => step_callv en_attestor_attestorref02_Same (xSame (coefs pp qq g2 u2) _ _ _ _ _ _ W1 (pick_last (pick_init hF) (by kernel_rfl)).2 (pick_last hF (by kernel_rfl)).2) rfl rfl) ?_
  intro a' ha
  simp only [Act.put, List.setIfInBounds_toArray, List.set_cons_succ, List.set_cons_zero] at ha
  subst ha
  refine rg_det rfl rfl rfl (fun K hK => ?_)
  go_big_quiet_op
  refine hK _ ?_; clear hK K
  refine rg_det rfl rfl rfl (fun K hK => ?_)
  go_big_quiet_op
  refine hK _ ?_; clear hK K
  refine rg_det rfl rfl rfl (fun K hK => ?_)
  go_big_quiet_op
  refine hK _ ?_; clear hK K
  refine rg_nil (fun w' hw' hF => ?_)
  obtain ⟨z, rfl⟩ := hw'
  simp only [List.drop_succ_cons, List.drop_zero]
  clear hF
  go_wp2_with fail
  go_ret
  exact ⟨rfl, B18w.trans (z.h.mono B18w.size)⟩
end Go.Proofs.YtbmgngoeiadmmaaDoor
