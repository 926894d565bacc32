/-
  The values of the wiring polynomials at a point.
-/
import Derived.Test.YtbmgngoeiadmmaaDoorAdd
import Derived.Laws.EntriesVeiled
namespace Go.Proofs.YtbmgngoeiadmmaaDoor
open Go.RowKit
attribute [local go_sem] Oper.semAt_some

theorem slE_info : (Tryd.prog.info? 23).map (fun i => (i.zero, i.size, i.bytes)) = some (some (.slice none 0 0), 1, 24) := by kernel_rfl
/-- The four sums. -/
def sums4 (p q : List E) (l : List (Gt × E)) : List E := (List.range 4).map fun k => esum (l.map fun t => wgt p q t * eb (gk t.1 k))
theorem sums4_coefs (p q : List E) (gs : List Gt) (us : List E) : sums4 p q (gs.zip us) = coefs p q gs us := rfl
theorem sums4_snoc (p q : List E) (l : List (Gt × E)) (t : Gt × E) : addN (sums4 p q l) 0 t.1 (wgt p q t) 4 = sums4 p q (l ++ [t]) := by
  apply List.ext_getElem?
  intro i
  rw [addN_get]
  by_cases h : i < 4
  · rw [if_pos ⟨Nat.zero_le _, by omega, by simp [sums4]; omega⟩]
    unfold sums4
    simp only [List.getD, List.getElem?_map, List.getElem?_range h, Option.map_some, Option.getD_some, Nat.sub_zero, List.map_append, esum_append, List.map_cons, List.map_nil, esum, E.add_zero]
  · rw [if_neg (by omega)]
    unfold sums4
    rw [List.getElem?_eq_none (by simp; omega), List.getElem?_eq_none (by simp; omega)]
theorem blk_farE' {w : World} {g g1 g2 i j : Nat} {t : TypeId} {cs : Array Value} {c d : Value} (h : Blk w g t cs) (h1 : g ≠ g1) (h2 : g ≠ g2) : Blk ((w.setCell ⟨g1, i, none⟩ c).setCell ⟨g2, j, none⟩ d) g t cs := (h.far (p := ⟨g1, i, none⟩) h1 c).far (p := ⟨g2, j, none⟩) h2 d
def subs {α : Type} {P : α → Prop} : (l : List α) → (∀ t ∈ l, P t) → List {t : α // P t}
  | [], _ => []
  | x :: l, h => ⟨x, h x (List.mem_cons_self ..)⟩ :: subs l fun t ht => h t (List.mem_cons_of_mem _ ht)
theorem subs_val {α : Type} {P : α → Prop} : ∀ (l : List α) (h : ∀ t ∈ l, P t), (subs l h).map (·.1) = l
  | [], _ => rfl
  | x :: l, h => by rw [subs, List.map_cons, subs_val l]
def sv (s : List E) : Value := .agg (s.flatMap ec).toArray
set_option maxRecDepth 100000 in
set_option maxHeartbeats 4000000 in
theorem gAt (gs : List Gt) (us p q : List E) (x y : E) (vl vu vL vR : Value) (lo1 hi1 lo2 hi2 lo3 hi3 lo4 hi4 : Nat) (w : World) (hl : GateS lo1 hi1 w vl gs) (hu : ExtS lo2 hi2 w vu us) (hp : ExtS lo3 hi3 w vL p) (hq : ExtS lo4 hi4 w vR q)
    (hh1 : hi1 ≤ w.heap.size) (hh2 : hi2 ≤ w.heap.size) (hh3 : hi3 ≤ w.heap.size) (hh4 : hi4 ≤ w.heap.size) (hlaid : Laid w)
    (hlen : gs.length ≤ us.length) (hok : ∀ g ∈ gs, g.L < 2 ^ p.length ∧ g.R < 2 ^ q.length) (hpl : p.length ≤ 18) (hql : q.length ≤ 18) :
    Calls Tryd.prog 42 #[vl, vu, endsV vL vR x y] w (Ret (sv (coefs p q gs us)) w) := by
  obtain ⟨Al, capl, rfl⟩ := hl.len
  obtain ⟨Au, capu, rfl⟩ := hu.len
  have h2p : 2 ^ p.length ≤ 2 ^ 18 := Nat.pow_le_pow_right (by decide) hpl
  have h2q : 2 ^ q.length ≤ 2 ^ 18 := Nat.pow_le_pow_right (by decide) hql
  unfold endsV
  refine (callsIn_wide (n := 4)).1 ?_
  refine callsIn_of_wp_marks Tryd.func42 rfl trivial ?_ rfl
  simp only [Tryd.ntmps42, List.size_toArray, List.length_cons, List.length_nil, Nat.reduceAdd, Nat.reduceSub, Array.replicate_succ, Array.replicate_zero, List.push_toArray, List.append_toArray, List.nil_append, List.cons_append]
  have hop := open_wide Tryd.prog
  gi_wp2_with fail
  refine stk3 (M := fun W => Code.wpIn _ _ _ _ _ _ W) fun W hB hz b1 b2 b3 => ?_
  have hp' := hp.keep hB
  have hq' := hq.keep hB
  have hL := hlaid.keep hB
  have c1 := gw_blk b1
  obtain ⟨j0, hj0, hjz0, hjz1, hjz2⟩ := info_parts slE_info
  refine wpIn_region_rg hop 8 [(2, Spec.rel (ExtA (tabE p)) (SlF (tabE p).length)), (5, Spec.rel (ExtA (tabE q)) (SlF (tabE q).length)), (6, Spec.rel (New 23 #[.slice none 0 0]) (NewF)), (7, Spec.rel (New 23 #[.slice none 0 0]) (NewF))] (by kernel_rfl) (by kernel_rfl) (by kernel_rfl) ⟨fit_ext, fit_ext, fit_new, fit_new, trivial⟩ ?_
  refine rg_det rfl rfl rfl (fun K hK => ?_)
  go_big_quiet_op
  refine hK _ ?_; clear hK K
  refine rg_det rfl rfl rfl (fun K hK => ?_)
  go_big_quiet_op
  refine hK _ ?_; clear hK K
  refine rg_rel rfl rfl (fun W1 hW1 hF => step_callr en_attestor_mle_EqTable (wEqTable p vL lo3 hi3 W1 (hp'.keep (grw_below hW1)) (Nat.le_trans hh3 (Nat.le_trans hB.size (grw_below hW1).size)) (hL.keep (grw_below hW1)) hpl) rfl rfl) ?_
  intro n2 m2 v2 hn2 hm2 hd2 hf2 a' ha
  simp only [Act.put, List.setIfInBounds_toArray, List.set_cons_succ, List.set_cons_zero] at ha
  subst ha
  obtain ⟨A2, cap2, rfl⟩ := hf2
  refine rg_det rfl rfl rfl (fun K hK => ?_)
  go_big_quiet_op
  refine hK _ ?_; clear hK K
  refine rg_det rfl rfl rfl (fun K hK => ?_)
  go_big_quiet_op
  refine hK _ ?_; clear hK K
  refine rg_rel rfl rfl (fun W1 hW1 hF => step_callr en_attestor_mle_EqTable (wEqTable q vR lo4 hi4 W1 (hq'.keep (grw_below hW1)) (Nat.le_trans hh4 (Nat.le_trans hB.size (grw_below hW1).size)) (hL.keep (grw_below hW1)) hql) rfl rfl) ?_
  intro n5 m5 v5 hn5 hm5 hd5 hf5 a' ha
  simp only [Act.put, List.setIfInBounds_toArray, List.set_cons_succ, List.set_cons_zero] at ha
  subst ha
  obtain ⟨A5, cap5, rfl⟩ := hf5
  refine rg_rel rfl rfl (fun W1 hW1 hF => step_new hj0 hjz0 rfl) ?_
  intro n6 m6 v6 hn6 hm6 hd6 hf6 a' ha
  simp only [Act.put, List.setIfInBounds_toArray, List.set_cons_succ, List.set_cons_zero] at ha
  subst ha
  obtain rfl := hf6
  refine rg_rel rfl rfl (fun W1 hW1 hF => step_new hj0 hjz0 rfl) ?_
  intro n7 m7 v7 hn7 hm7 hd7 hf7 a' ha
  simp only [Act.put, List.setIfInBounds_toArray, List.set_cons_succ, List.set_cons_zero] at ha
  subst ha
  obtain rfl := hf7
  refine rg_nil (fun w' hw' hF => ?_)
  obtain ⟨z, rfl⟩ := hw'
  simp only [List.drop_succ_cons, List.drop_zero]
  obtain ⟨hm7, -, hl7, b7⟩ := end_last hF
  obtain ⟨hm6, -, hl6, b6⟩ := end_last (end_init hF)
  obtain ⟨hm5, t5⟩ := end_last (end_init (end_init hF))
  obtain ⟨hm2, t2⟩ := end_last (end_init (end_init (end_init hF)))
  clear hF c1
  have d62 := hd6 (n2, m2) (by simp)
  have d65 := hd6 (n5, m5) (by simp)
  have d72 := hd7 (n2, m2) (by simp)
  have d75 := hd7 (n5, m5) (by simp)
  have d76 := hd7 (n6, m6) (by simp)
  simp only at d62 d65 d72 d75 d76
  clear hd2 hd5 hd6 hd7
  have e1 := b6.cell 0
  have e2 := b6.frozen 0
  have e3 := b7.cell 0
  have e4 := b7.frozen 0
  have hne67 : n6 ≠ n7 := by omega
  gi_wp2_with fail
  obtain ⟨X, hX⟩ : ∃ X, (z.w.setCell ⟨n6, 0, none⟩ (.slice A2 (tabE p).length cap2)).setCell ⟨n7, 0, none⟩ (.slice A5 (tabE q).length cap5) = X := ⟨_, rfl⟩
  have hXs : z.w.heap.size = X.heap.size := by rw [← hX]; simp
  have hzW := z.h.size
  have hzWs : W.heap.size = w.heap.size + 1 + 1 + 1 := hz.out
  have x1 : Blk X (w.heap.size + 1) 70 #[.int .u64 0, .int .u64 0, .int .u64 0, .int .u64 0, .int .u64 0, .int .u64 0, .int .u64 0, .int .u64 0] := by rw [← hX]; exact blk_farE' (b2.gw z) (by omega) (by omega)
  have x3 : Blk X (w.heap.size + 1 + 1) 70 ((sums4 p q []).flatMap ec).toArray := by rw [← hX]; exact blk_farE' (b3.gw z) (by omega) (by omega)
  have x6 : Blk X n6 23 #[.slice A2 (tabE p).length cap2] := by rw [← hX]; exact (b6.set_ 0 _).far (p := ⟨n7, 0, none⟩) hne67 _
  have x7 : Blk X n7 23 #[.slice A5 (tabE q).length cap5] := by rw [← hX]; exact (b7.far (p := ⟨n6, 0, none⟩) (Ne.symm hne67) _).set_ 0 _
  have xB : Below w.heap.size w X := by rw [← hX]; exact ((hB.trans (z.h.mono hB.size)).setCell (p := ⟨n6, 0, none⟩) (by show w.heap.size ≤ n6; omega) _).setCell (p := ⟨n7, 0, none⟩) (by show w.heap.size ≤ n7; omega) _
  have xp : ExtS n2 m2 X (.slice A2 (tabE p).length cap2) (tabE p) := by
    rw [← hX]
    refine Rd.other t2 (by simp) fun g h1 h2 _ => ?_
    rw [Below.heap_setCell _ ⟨n7, 0, none⟩ _ g (by show g ≠ n7; omega), Below.heap_setCell _ ⟨n6, 0, none⟩ _ g (by show g ≠ n6; omega)]
  have xq : ExtS n5 m5 X (.slice A5 (tabE q).length cap5) (tabE q) := by
    rw [← hX]
    refine Rd.other t5 (by simp) fun g h1 h2 _ => ?_
    rw [Below.heap_setCell _ ⟨n7, 0, none⟩ _ g (by show g ≠ n7; omega), Below.heap_setCell _ ⟨n6, 0, none⟩ _ g (by show g ≠ n6; omega)]
  rw [hX, hXs]
  clear hX
  refine ⟨trivial, (callsIn_wide.2 (gWeighted _ _ _ _ _ _ _)).mono ?_⟩
  rintro e w2 ⟨rfl, rfl⟩
  simp only [World.size_alloc]
  have hXge : W.heap.size ≤ X.heap.size := by rw [← hXs]; exact hzW
  obtain ⟨Y, hY⟩ : ∃ Y, ((X.alloc (.cells #[.func (.func 38) #[.pointer (some ⟨w.heap.size + 1 + 1, 0, none⟩)] #[]] 71)).alloc (.cells #[.slice Al gs.length capl] 22)).alloc (.cells #[.slice Au us.length capu] 23) = Y := ⟨_, rfl⟩
  have y1 : Blk Y (w.heap.size + 1) 70 #[.int .u64 0, .int .u64 0, .int .u64 0, .int .u64 0, .int .u64 0, .int .u64 0, .int .u64 0, .int .u64 0] := by rw [← hY]; exact ((x1.alloc _).alloc _).alloc _
  have y3 : Blk Y (w.heap.size + 1 + 1) 70 ((sums4 p q []).flatMap ec).toArray := by rw [← hY]; exact ((x3.alloc _).alloc _).alloc _
  have y6 : Blk Y n6 23 #[.slice A2 (tabE p).length cap2] := by rw [← hY]; exact ((x6.alloc _).alloc _).alloc _
  have y7 : Blk Y n7 23 #[.slice A5 (tabE q).length cap5] := by rw [← hY]; exact ((x7.alloc _).alloc _).alloc _
  have y8 : Blk Y X.heap.size 71 #[.func (.func 38) #[.pointer (some ⟨w.heap.size + 1 + 1, 0, none⟩)] #[]] := by rw [← hY]; exact ((Blk.new _ _ _).alloc _).alloc _
  have y9 : Blk Y (X.heap.size + 1) 22 #[.slice Al gs.length capl] := by rw [← hY]; exact (Blk.new_at _ _ _ (by simp)).alloc _
  have y10 : Blk Y (X.heap.size + 1 + 1) 23 #[.slice Au us.length capu] := by rw [← hY]; exact Blk.new_at _ _ _ (by simp)
  have hXY : Below X.heap.size X Y := by rw [← hY]; exact (((Below.refl _ _).alloc (Nat.le_refl _) _).alloc (by simp) _).alloc (by simp; omega) _
  have yB : Below w.heap.size w Y := xB.trans (hXY.mono xB.size)
  have yp := xp.keep hXY
  have yq := xq.keep hXY
  have yl : GateS lo1 w.heap.size Y (.slice Al gs.length capl) gs := (hl.below yB hh1).wide (Nat.le_refl _) hh1
  have yu : ExtS lo2 w.heap.size Y (.slice Au us.length capu) us := (hu.below yB hh2).wide (Nat.le_refl _) hh2
  have hYs : Y.heap.size = X.heap.size + 3 := by rw [← hY]; simp
  rw [hY]
  clear hY x1 x3 x6 x7 xp xq t2 t5 b1 b2 b3 b6 b7 e1 e2 e3 e4 hp' hq' hL
  gi_wp2_with fail
  have hpr : ∀ t ∈ gs.zip us, t.1.L < 2 ^ p.length ∧ t.1.R < 2 ^ q.length := fun t ht => hok t.1 (List.of_mem_zip (a := t.1) (b := t.2) ht).1
  refine wpIn_seq2 (gIter (fun t => t.1.L < 2 ^ p.length ∧ t.1.R < 2 ^ q.length) (subs (gs.zip us) hpr) gs us (subs_val _ hpr) _ _ 3 lo1 lo2 w.heap.size (X.heap.size + 1) (X.heap.size + 1 + 1) (by decide) Y yl yu hlen (y9.cell 0) (y10.cell 0) yB.size (by omega) (by omega)) (by decide) rfl (enters_of Tryd.func53 (by kernel_rfl) rfl)
    (fun g hg => by have hx := xB.size; rcases hg with hg | hg <;> omega)
    (fun pre W' => Blk W' (w.heap.size + 1) 70 #[.int .u64 0, .int .u64 0, .int .u64 0, .int .u64 0, .int .u64 0, .int .u64 0, .int .u64 0, .int .u64 0] ∧ Blk W' (w.heap.size + 1 + 1) 70 ((sums4 p q (pre.map (·.1))).flatMap ec).toArray ∧ Blk W' n6 23 #[.slice A2 (tabE p).length cap2] ∧ Blk W' n7 23 #[.slice A5 (tabE q).length cap5] ∧
      Blk W' X.heap.size 71 #[.func (.func 38) #[.pointer (some ⟨w.heap.size + 1 + 1, 0, none⟩)] #[]] ∧ ExtS n2 m2 W' (.slice A2 (tabE p).length cap2) (tabE p) ∧ ExtS n5 m5 W' (.slice A5 (tabE q).length cap5) (tabE q) ∧ Below w.heap.size w W' ∧ Y.heap.size ≤ W'.heap.size)
    ?hI (fun pre W h => h.2.2.2.2.2.2.2.2) ⟨y1, y3, y6, y7, y8, yp, yq, yB, Nat.le_refl _⟩ 11 46 (fun t => #[.int .i64 t.1.1.L, .int .i64 t.1.1.R, .int .u64 (fv t.1.1.c), .int .u64 (fv t.1.1.a), .int .u64 (fv t.1.1.b), .int .u64 (fv t.1.1.d)]) 12 27 (fun t => #[.int .u64 (fv t.1.2.a), .int .u64 (fv t.1.2.b)]) ?assign ?body ?done
  case hI =>
    rintro pre V V' row ⟨q1, q2, q3, q4, q5, q6, q7, q8, q9⟩ hg hr
    have hrow : ∀ g, g < X.heap.size → some g ≠ row := fun g hgx e => by have := (hr g e.symm).1; omega
    refine ⟨blk_own (β := Unit) () V V' row q1 hg hr, blk_own (β := Unit) () V V' row q2 hg hr, blk_own (β := Unit) () V V' row q3 hg hr, blk_own (β := Unit) () V V' row q4 hg hr, blk_own (β := Unit) () V V' row q5 hg hr, Rd.other q6 hg.size (fun g h1 h2 h3 => hg.block g h3 (hrow g (by omega))), Rd.other q7 hg.size (fun g h1 h2 h3 => hg.block g h3 (hrow g (by omega))), ownFrom_below (β := Unit) (Nat.le_refl _) yB.size () V V' row q8 hg hr, Nat.le_trans q9 hg.size⟩
  case assign =>
    intro l t V K hK
    simp only [boxAct, gv, ev, List.setIfInBounds_toArray, List.set_cons_succ, List.set_cons_zero] at hK ⊢
    gi_wp2_with fail
    exact hK _ _ rfl rfl
  case body =>
    rintro l pre ⟨⟨g, u⟩, hgL, hgR⟩ Bx V a' rfl ⟨q1, q2, q3, q4, q5, q6, q7, q8, q9⟩ hBx bG bU hlt
    simp only [boxAct, gv, ev, List.setIfInBounds_toArray, List.set_cons_succ, List.set_cons_zero] at hgL hgR bG bU ⊢
    obtain ⟨ga, offa, capa, hv, _, _, _, ra, qa⟩ := exts_cells q6 (by rw [tabE_len]; omega)
    cases hv
    obtain ⟨gb, offb, capb, hv, _, _, _, rb, qb⟩ := exts_cells q7 (by rw [tabE_len]; omega)
    cases hv
    have hop := open_round (open_wide Tryd.prog) l
    have ka := qa g.L _ (tabE_get p g.L hgL)
    have kb := qb g.R _ (tabE_get q g.R hgR)
    have i1 : g.L < (tabE p).length := by rw [tabE_len]; exact hgL
    have i2 : g.R < (tabE q).length := by rw [tabE_len]; exact hgR
    have i3 : (tabE p).length ≤ 2 ^ 18 := by rw [tabE_len]; exact h2p
    have i4 : (tabE q).length ≤ 2 ^ 18 := by rw [tabE_len]; exact h2q
    have v1 := gw_cell ra ka.1
    have v2 := gw_cell ra ka.2
    have v3 := gw_cell rb kb.1
    have v4 := gw_cell rb kb.2
    have v5 := gw_blk q3
    have v6 := gw_blk q4
    have v7 := gw_blk q5
    have v8 := gw_blk bG
    have v9 := gw_blk bU
    have HS := Lib.hid (sums4_snoc p q (pre.map (·.1)) (g, u))
    clear qa qb ka kb
    gi_wp2_with fail
    refine wpIn_region_rg hop 15 [(13, Spec.val (.agg #[.int .u64 (fv (eqi g.L p * eqi g.R q).a), .int .u64 (fv (eqi g.L p * eqi g.R q).b)])), (14, Spec.val (.agg #[.int .u64 (fv (u * (eqi g.L p * eqi g.R q)).a), .int .u64 (fv (u * (eqi g.L p * eqi g.R q)).b)]))] (by kernel_rfl) (by kernel_rfl) (by kernel_rfl) trivial ?_
    refine rg_det rfl rfl rfl (fun K hK => ?_)
    go_big_quiet_op
    refine hK _ ?_; clear hK K
    refine rg_det rfl rfl rfl (fun K hK => ?_)
    go_big_quiet_op
    refine hK _ ?_; clear hK K
    refine rg_det rfl rfl rfl (fun K hK => ?_)
    go_big_quiet_op
    refine hK _ ?_; clear hK K
    refine rg_det rfl rfl rfl (fun K hK => ?_)
    go_big_quiet_op
    refine hK _ ?_; clear hK K
    refine rg_det rfl rfl rfl (fun K hK => ?_)
    go_big_quiet_op
    refine hK _ ?_; clear hK K
    refine rg_det rfl rfl rfl (fun K hK => ?_)
    go_big_quiet_op
    refine hK _ ?_; clear hK K
    refine rg_det rfl rfl rfl (fun K hK => ?_)
    go_big_quiet_op
    refine hK _ ?_; clear hK K
    refine rg_det rfl rfl rfl (fun K hK => ?_)
    go_big_quiet_op
    refine hK _ ?_; clear hK K
    refine rg_det rfl rfl rfl (fun K hK => ?_)
    go_big_quiet_op
    refine hK _ ?_; clear hK K
    refine rg_det rfl rfl rfl (fun K hK => ?_)
    go_big_quiet_op
    refine hK _ ?_; clear hK K
    refine rg_det rfl rfl rfl (fun K hK => ?_)
    go_big_quiet_op
    refine hK _ ?_; clear hK K
    refine rg_det rfl rfl rfl (fun K hK => ?_)
    go_big_quiet_op
    refine hK _ ?_; clear hK K
    refine rg_det rfl rfl rfl (fun K hK => ?_)
    go_big_quiet_op
    refine hK _ ?_; clear hK K
    refine rg_val rfl rfl (fun W1 hW1 hF => step_callv en_attestor_ext_Mul (eMul (eqi g.L p) (eqi g.R q) W1) rfl rfl) ?_
    intro a' ha
    simp only [Act.put, List.setIfInBounds_toArray, List.set_cons_succ, List.set_cons_zero] at ha
    subst ha
    refine rg_val rfl rfl (fun W1 hW1 hF => step_callv en_attestor_ext_Mul (eMul u (eqi g.L p * eqi g.R q) W1) rfl rfl) ?_
    intro a' ha
    simp only [Act.put, List.setIfInBounds_toArray, List.set_cons_succ, List.set_cons_zero] at ha
    subst ha
    refine rg_nil (fun w' hw' hF => ?_)
    obtain ⟨z, rfl⟩ := hw'
    simp only [List.drop_succ_cons, List.drop_zero]
    clear hF v1 v2 v3 v4 v5 v6 v7 v8 v9
    gi_wp2_with fail
    have q2z := q2.gw z
    refine ⟨trivial, (CallsIn.inRound l (callsIn_wide.2 (gAdd (sums4 p q (pre.map (·.1))) 0 (w.heap.size + 1 + 1) 70 g (u * (eqi g.L p * eqi g.R q)) z.w q2z (by simp [sums4])))).mono ?_⟩
    rintro e w3 ⟨rfl, hb3, hg3⟩
    have hK3 : KeepsOthers V w3 := (keepsOthers_of_below z.h).trans (keepsOthers_of_grown hg3 fun r o e ho => by
      cases e
      rw [show z.w.heap[w.heap.size + 1 + 1]? = _ from q2z] at ho; cases ho; rfl)
    have hkeep : ∀ r, r < V.heap.size → r ≠ w.heap.size + 1 + 1 → w3.heap[r]? = V.heap[r]? := fun r hr hne =>
      (hg3.block r (Nat.lt_of_lt_of_le hr z.h.size) (by simpa using hne)).trans (z.h.block r hr)
    have hsz3 : V.heap.size ≤ w3.heap.size := Nat.le_trans z.h.size hg3.size
    have hxs := xB.size
    gi_wp2_with fail
    have goalI : Blk w3 (w.heap.size + 1 + 1) 70 ((sums4 p q (List.map (·.1) pre ++ [(g, u)])).flatMap ec).toArray := by
      rw [← HS.out]; exact hb3
    refine ⟨⟨hsz3, fun r hr hlt => hkeep r hlt (by rcases hr with hr | hr <;> omega)⟩, (hkeep _ q1.lt (by omega)).trans q1, ?_, (hkeep _ q3.lt (by omega)).trans q3, (hkeep _ q4.lt (by omega)).trans q4, (hkeep _ q5.lt (by omega)).trans q5, Rd.other q6 hsz3 (fun r h1 h2 h3 => hkeep r h3 (by omega)), Rd.other q7 hsz3 (fun r h1 h2 h3 => hkeep r h3 (by omega)), q8.trans ?_, by omega⟩
    · simpa using goalI
    · exact (z.h.mono q8.size).grown hg3 (Nat.le_trans q8.size z.h.size) (fun k e => by cases e; omega)
  case done =>
    intro D V hD ⟨q1, q2, q3, q4, q5, q6, q7, q8, q9⟩ hK
    rw [subs_val, sums4_coefs] at q2
    have q2' : Blk V (w.heap.size + 1 + 1) 70 #[.int .u64 (fv (coef p q gs us 0).a), .int .u64 (fv (coef p q gs us 0).b), .int .u64 (fv (coef p q gs us 1).a), .int .u64 (fv (coef p q gs us 1).b), .int .u64 (fv (coef p q gs us 2).a), .int .u64 (fv (coef p q gs us 2).b), .int .u64 (fv (coef p q gs us 3).a), .int .u64 (fv (coef p q gs us 3).b)] := q2
    have hsv : sv (coefs p q gs us) = .agg #[.int .u64 (fv (coef p q gs us 0).a), .int .u64 (fv (coef p q gs us 0).b), .int .u64 (fv (coef p q gs us 1).a), .int .u64 (fv (coef p q gs us 1).b), .int .u64 (fv (coef p q gs us 2).a), .int .u64 (fv (coef p q gs us 2).b), .int .u64 (fv (coef p q gs us 3).a), .int .u64 (fv (coef p q gs us 3).b)] := rfl
    have hsv' := hsv
    clear hsv q2
    generalize coef p q gs us 0 = s0 at *
    generalize coef p q gs us 1 = s1 at *
    generalize coef p q gs us 2 = s2 at *
    generalize coef p q gs us 3 = s3 at *
    have e1 := q2'.cell
    have e2 := q1.cell
    have e3 := q1.frozen
    gi_wp2_with fail
    obtain ⟨Z, hZ⟩ : ∃ Z, ((((((((V.setCell ⟨w.heap.size + 1, 0, none⟩ (.int .u64 (fv s0.a))).setCell ⟨w.heap.size + 1, 1, none⟩ (.int .u64 (fv s0.b))).setCell ⟨w.heap.size + 1, 2, none⟩ (.int .u64 (fv s1.a))).setCell ⟨w.heap.size + 1, 3, none⟩ (.int .u64 (fv s1.b))).setCell ⟨w.heap.size + 1, 4, none⟩ (.int .u64 (fv s2.a))).setCell ⟨w.heap.size + 1, 5, none⟩ (.int .u64 (fv s2.b))).setCell ⟨w.heap.size + 1, 6, none⟩ (.int .u64 (fv s3.a))).setCell ⟨w.heap.size + 1, 7, none⟩ (.int .u64 (fv s3.b))) = Z := ⟨_, rfl⟩
    rw [hZ]
    have bZ : Blk Z (w.heap.size + 1) 70 #[.int .u64 (fv s0.a), .int .u64 (fv s0.b), .int .u64 (fv s1.a), .int .u64 (fv s1.b), .int .u64 (fv s2.a), .int .u64 (fv s2.b), .int .u64 (fv s3.a), .int .u64 (fv s3.b)] := by rw [← hZ]; exact ((((((((q1.set_ 0 (.int .u64 (fv s0.a))).set_ 1 (.int .u64 (fv s0.b))).set_ 2 (.int .u64 (fv s1.a))).set_ 3 (.int .u64 (fv s1.b))).set_ 4 (.int .u64 (fv s2.a))).set_ 5 (.int .u64 (fv s2.b))).set_ 6 (.int .u64 (fv s3.a))).set_ 7 (.int .u64 (fv s3.b)))
    have hBZ : Below w.heap.size w Z := by rw [← hZ]; exact ((((((((q8.setCell (p := ⟨w.heap.size + 1, 0, none⟩) (by show w.heap.size ≤ w.heap.size + 1; omega) (.int .u64 (fv s0.a))).setCell (p := ⟨w.heap.size + 1, 1, none⟩) (by show w.heap.size ≤ w.heap.size + 1; omega) (.int .u64 (fv s0.b))).setCell (p := ⟨w.heap.size + 1, 2, none⟩) (by show w.heap.size ≤ w.heap.size + 1; omega) (.int .u64 (fv s1.a))).setCell (p := ⟨w.heap.size + 1, 3, none⟩) (by show w.heap.size ≤ w.heap.size + 1; omega) (.int .u64 (fv s1.b))).setCell (p := ⟨w.heap.size + 1, 4, none⟩) (by show w.heap.size ≤ w.heap.size + 1; omega) (.int .u64 (fv s2.a))).setCell (p := ⟨w.heap.size + 1, 5, none⟩) (by show w.heap.size ≤ w.heap.size + 1; omega) (.int .u64 (fv s2.b))).setCell (p := ⟨w.heap.size + 1, 6, none⟩) (by show w.heap.size ≤ w.heap.size + 1; omega) (.int .u64 (fv s3.a))).setCell (p := ⟨w.heap.size + 1, 7, none⟩) (by show w.heap.size ≤ w.heap.size + 1; omega) (.int .u64 (fv s3.b)))
    have hne : D ≠ w.heap.size + 1 := by
      rintro rfl
      rw [show V.heap[w.heap.size + 1]? = _ from q1] at hK; cases hK
    have hKZ : Z.heap[D]? = some (.deferred (some [])) := by
      rw [← hZ]
      repeat rw [Below.heap_setCell _ ⟨w.heap.size + 1, _, none⟩ _ D hne]
      exact hK
    refine ⟨by simp, .inl ⟨_, _, rfl, run_takeDeferred hKZ, ?_⟩⟩
    have bZ' : Blk (Z.putObj D (.deferred none)) (w.heap.size + 1) 70 #[.int .u64 (fv s0.a), .int .u64 (fv s0.b), .int .u64 (fv s1.a), .int .u64 (fv s1.b), .int .u64 (fv s2.a), .int .u64 (fv s2.b), .int .u64 (fv s3.a), .int .u64 (fv s3.b)] := (World.putObj_heap_other (Ne.symm hne)).trans bZ
    have e4 := bZ'.cell
    refine ⟨.agg #[.int .u64 (fv s0.a), .int .u64 (fv s0.b), .int .u64 (fv s1.a), .int .u64 (fv s1.b), .int .u64 (fv s2.a), .int .u64 (fv s2.b), .int .u64 (fv s3.a), .int .u64 (fv s3.b)], ?_, ?_⟩
    · simp [results, Tryd.results42, go_sem, e4]
    · exact ⟨by rw [hsv'], hBZ.trans (belowK_b (w := w) (Nat.le_refl _) Z D _ _ (by have := yB.size; omega) hKZ rfl rfl)⟩
end Go.Proofs.YtbmgngoeiadmmaaDoor
