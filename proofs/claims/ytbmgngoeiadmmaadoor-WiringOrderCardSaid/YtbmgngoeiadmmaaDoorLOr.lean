/-
  WiringOrder: the walk.
-/
import Derived.Test.YtbmgngoeiadmmaaDoorLay
import Derived.Test.YtbmgngoeiadmmaaDoorGrow
import Derived.Test.YtbmgngoeiadmmaaDoorSame
namespace Go.Proofs.YtbmgngoeiadmmaaDoor
open Go.RowKit

theorem esum_reverse : ∀ l : List E, esum l.reverse = esum l
  | [] => rfl
  | x :: l => by
    rw [List.reverse_cons, esum_append, esum_reverse l]
    show esum l + (x + 0) = x + esum l
    rw [E.add_zero, E.add_comm]
theorem zip_rev : ∀ (gs : List Gt) (us : List E), us.length = gs.length → gs.reverse.zip us.reverse = (gs.zip us).reverse
  | [], [], _ => rfl
  | g :: gs, u :: us, h => by
    have h' : us.length = gs.length := by simpa using h
    rw [List.reverse_cons, List.reverse_cons, List.zip_append (by simp [h']), zip_rev gs us h']
    simp
  | [], _ :: _, h => by simp at h
  | _ :: _, [], h => by simp at h
theorem esum_zero (f : Gt × E → E) : ∀ (l : List (Gt × E)), (∀ t ∈ l, f t = 0) → esum (l.map f) = 0
  | [], _ => rfl
  | t :: l, h => by
    show f t + esum (l.map f) = 0
    rw [h t (List.mem_cons_self ..), esum_zero f l (fun t ht => h t (List.mem_cons_of_mem _ ht)), E.add_zero]
theorem zip_zeros : ∀ (ex : List Gt) (rs : List E), ∀ t ∈ ex.zip (List.replicate ex.length (0 : E) ++ rs), t.2 = 0
  | [], _, t, h => by simp at h
  | g :: ex, rs, t, h => by
    rw [List.length_cons, List.replicate_succ, List.cons_append, List.zip_cons_cons, List.mem_cons] at h
    rcases h with rfl | h
    · rfl
    · exact zip_zeros ex rs t h
theorem order_coef (p q : List E) (gs ex : List Gt) (us rs : List E) (hl : us.length = gs.length) (k : Nat) : coef p q (gs.reverse ++ ex) (us.reverse ++ (List.replicate ex.length 0 ++ rs)) k = coef p q gs us k := by
  unfold coef
  have h2 : esum ((ex.zip (List.replicate ex.length 0 ++ rs)).map fun t => wgt p q t * eb (gk t.1 k)) = 0 := esum_zero _ _ fun t ht => by
    have : t.2 = 0 := zip_zeros ex rs t ht
    unfold wgt
    rw [this, E.zero_mul, E.zero_mul]
  rw [List.zip_append (by simp [hl]), zip_rev gs us hl, List.map_append, esum_append, List.map_reverse, esum_reverse, h2, E.add_zero]
theorem order_coefs (p q : List E) (gs ex : List Gt) (us rs : List E) (hl : us.length = gs.length) : coefs p q (gs.reverse ++ ex) (us.reverse ++ (List.replicate ex.length 0 ++ rs)) = coefs p q gs us := by
  unfold coefs
  exact List.map_congr_left fun k _ => order_coef p q gs ex us rs hl k
theorem order_point (p q : List E) (gs ex : List Gt) (us rs : List E) (x y : E) (hl : us.length = gs.length) : point p q (gs.reverse ++ ex) (us.reverse ++ (List.replicate ex.length 0 ++ rs)) x y = point p q gs us x y := by
  unfold point
  rw [order_coef p q gs ex us rs hl 0, order_coef p q gs ex us rs hl 1, order_coef p q gs ex us rs hl 2, order_coef p q gs ex us rs hl 3]
/-- Two slices of one's own of other elements: a row of the one is none of the other. -/
theorem own_keep2 {w w' : World} {b1 b2 e1 e2 s1 s2 n1 n2 : Nat} {v1 v2 : Value} {xs1 xs2 : List Value} (h1 : w.ownsRow b1 e1 s1 v1 n1 xs1) (h2 : w.ownsRow b2 e2 s2 v2 n2 xs2) (hne : e1 ≠ e2) (hg : w.grownBy w' v1.ownBlock) : w'.ownsRow b2 e2 s2 v2 n2 xs2 := by
  obtain ⟨q1, q2⟩ := h2
  refine ⟨q1, q2.imp id ?_⟩
  rintro ⟨g, cap, cur, rfl, r1, r2, r3⟩
  refine ⟨g, cap, cur, rfl, r1, ?_, r3⟩
  rw [hg.block g (Array.getElem?_eq_some_iff.1 r2).1 ?_]
  · exact r2
  · intro e
    rcases h1.2 with ⟨rfl, _⟩ | ⟨g', cap', cur', rfl, _, r2', _⟩
    · cases e
    · have eg : g = g' := Option.some.inj e
      subst eg
      rw [r2] at r2'
      simp only [Option.some.injEq, Obj.cells.injEq] at r2'
      exact hne r2'.2.1.symm
def revG (gs : List Gt) (j : Nat) : List Value := (gs.drop j).reverse.flatMap gc
def revE (us : List E) (j : Nat) : List Value := (us.drop j).reverse.flatMap ec
theorem revG_step {gs : List Gt} {j : Nat} {g : Gt} (h : gs[j]? = some g) : revG gs j = revG gs (j + 1) ++ gc g := by
  obtain ⟨hj, rfl⟩ := List.getElem?_eq_some_iff.1 h
  unfold revG
  rw [List.drop_eq_getElem_cons hj, List.reverse_cons, List.flatMap_append]
  simp
theorem revE_step {us : List E} {j : Nat} {u : E} (h : us[j]? = some u) : revE us j = revE us (j + 1) ++ ec u := by
  obtain ⟨hj, rfl⟩ := List.getElem?_eq_some_iff.1 h
  unfold revE
  rw [List.drop_eq_getElem_cons hj, List.reverse_cons, List.flatMap_append]
  simp
set_option maxRecDepth 100000 in
set_option maxHeartbeats 8000000 in
theorem wkOrder (q : Qy) (vL vU vP vQ vM vR : Value) (M : List Rg) (R : List Raw) (w : World) (h : QyS w.heap.size w q vL vU vP vQ) (hM : RawG 0 w.heap.size w vM M) (hR : RawS 0 w.heap.size w vR R) (hL : Laid w) :
    Calls Tryd.prog 7 #[qv vL vU vP vQ q, vM, vR] w (Ret (.bool true) w) := by
  obtain ⟨AM, capM, rfl⟩ := hM.1.len
  obtain ⟨AR, capR, rfl⟩ := hR.1.len
  have hMl := hM.1.2.1
  have hRl := hR.1.2.1
  unfold qv
  obtain ⟨i0, hi0, iz0, iz1, iz2⟩ := info_parts gate_info
  obtain ⟨j0, hj0, jz0, jz1, jz2⟩ := info_parts ext_info
  have hgl := q.gs_len
  have hul := q.us_len
  have hpk := q.p_len
  have hk3 := q.k3 h.K.1
  go_enter Tryd.func7, Tryd.ntmps7
  go_wp2_with fail
  refine calls_stk1 fun W1 hB1 hz1 b1 => ?_
  refine (lSanity W1 (hL.keep hB1)).mono ?_
  rintro e w2 ⟨rfl, hb2⟩
  have hB2 := hB1.trans (hb2.mono hB1.size)
  have e1 := (b1.keep hb2).cell
  go_wp2_with fail
  refine (lMade q vL vU vP vQ w.heap.size w2 (h.keep hB2) hB2.size).mono ?_
  rintro e w3 ⟨a, b, c, d, rfl, m1, m2, m3, m4, hb3⟩
  obtain ⟨Aa, capa, rfl⟩ := Rd.len m1
  obtain ⟨Ab, capb, rfl⟩ := Rd.len m2
  obtain ⟨Ac, capc, rfl⟩ := Rd.len m3
  obtain ⟨Ad, capd, rfl⟩ := Rd.len m4
  have hB3 := hB2.trans (hb3.mono hB2.size)
  have Ly := lay_made h.K.1 m1 m2 m3 m4 (hL.keep hB3)
  clear e1 h m1 m2 m3 m4
  unfold endsV
  have hkp : q.p.length ≤ 3 := by omega
  have HUL := Lib.hid hul
  have hokp : ∀ g ∈ madeG M q.p.length 5, g.L < 2 ^ q.p.length ∧ g.R < 2 ^ q.q.length := fun g hg => by
    rw [q.q_len, ← q.p_len]; exact madeG_ok _ _ _ g hg
  clear hul hpk hk3
  generalize q.gs = gs at *
  generalize q.us = us at *
  generalize q.p = pp at *
  generalize q.q = qq at *
  generalize q.x = x at *
  generalize q.y = y at *
  go_wp2_with fail
  refine wp_stk3 fun W4 hB4 hz4 b4 b5 b6 => ?_
  have hW4s : W4.heap.size = w3.heap.size + 1 + 1 + 1 := hz4.out
  go_loopw [11, 12, 13] (fun v u i wr => ∃ j : Nat, j ≤ gs.length ∧ i = .int .i64 ((j : Int) - 1) ∧ wr.ownsRow (w3.heap.size + 1) 46 6 v (gs.length - j) (revG gs j) ∧ wr.ownsRow (w3.heap.size + 1) 27 2 u (gs.length - j) (revE us j) ∧ Below (w3.heap.size + 1) W4 wr) (fun _ _ i _ => (intOf i + 1).toNat)
  case atStart =>
    have hU := HUL.out
    refine ⟨gs.length, Nat.le_refl _, rfl, ⟨by simp [revG], .inr ⟨w3.heap.size + 1, 0, #[], by simp, Nat.le_refl _, b5, by simp, Nat.zero_le _, rfl, by simp [revG]⟩⟩, ⟨by simp [revE, ← hU], .inr ⟨w3.heap.size + 1 + 1, 0, #[], by simp, Nat.le_succ _, b6, by simp, Nat.zero_le _, rfl, by simp [revE, ← hU]⟩⟩, Below.refl _ _⟩
  case round =>
    obtain ⟨j, hj, rfl, own1, own2, hB⟩ := hrel
    have hBr3 : Below w3.heap.size w3 wr := hB4.trans (hB.mono (Nat.le_succ _))
    have Lr := Ly.keep hBr3
    have hrs := hB.size
    have b4r := b4.below hB (Nat.lt_succ_self _)
    have hBwr := hB3.trans (hBr3.mono hB3.size)
    by_cases hjp : 0 < j
    · obtain ⟨j, rfl⟩ : ∃ i, j = i + 1 := ⟨j - 1, by omega⟩
      obtain ⟨g, off, cap', hv, q1, q2, q3, q4, q5⟩ := gates_cells Ly.hl (by omega)
      cases hv
      have hU := HUL.out
      obtain ⟨g', off', cap'', hv, p1, p2, p3, p4, p5⟩ := exts_cells Ly.hu (by omega)
      cases hv
      obtain ⟨p, hp⟩ : ∃ p, gs[j]? = some p := ⟨gs[j], List.getElem?_eq_getElem (by omega)⟩
      obtain ⟨u, hu⟩ : ∃ u, us[j]? = some u := ⟨us[j], List.getElem?_eq_getElem (by omega)⟩
      obtain ⟨d1, d2, d3, d4, d5, d6⟩ := q5 j p hp
      obtain ⟨k1, k2⟩ := p5 j u hu
      have x1 := (hBr3.cell (p := ⟨g, off + j * 6, none⟩) q4).trans d1
      have x2 := (hBr3.cell (p := ⟨g, off + j * 6 + 1, none⟩) q4).trans d2
      have x3 := (hBr3.cell (p := ⟨g, off + j * 6 + 2, none⟩) q4).trans d3
      have x4 := (hBr3.cell (p := ⟨g, off + j * 6 + 3, none⟩) q4).trans d4
      have x5 := (hBr3.cell (p := ⟨g, off + j * 6 + 4, none⟩) q4).trans d5
      have x6 := (hBr3.cell (p := ⟨g, off + j * 6 + 5, none⟩) q4).trans d6
      have HF := Lib.hid (revG_step hp)
      have HG := Lib.hid (revE_step hu)
      have e0 : ((j + 1 : Nat) : Int) - 1 = (j : Int) := by omega
      rw [e0]
      have hju : j < us.length := by omega
      clear q5 p5 hU Ly hp hu d1 d2 d3 d4 d5 d6
      go_wp2_with (at_builtin; refine stop_in ?_)
      refine stop_out ?_
      refine stk1 (M := fun W => wpList _ _ _ _ _ W) fun W5 hB5 hz5 b5' => ?_
      have hW4s' := hB5.size
      refine wpList_app1 rfl _ _ rfl Tryd.underlying22 hi0 iz0 iz1 iz2 rfl (by decide) (cl := gc p) rfl (gc_one _) rfl rfl (own_below own1 (Nat.le_refl _) hB5) b5' (by unfold maxLen; omega) (by omega) (by omega) ?_
      intro v6 w6 hown6 hgrow6 hB6
      have hBr4 : Below (w3.heap.size + 1) W4 w6 := (hB.trans (hB5.mono (by omega))).trans hB6
      have hBr6 : Below w3.heap.size w3 w6 := hB4.trans (hBr4.mono (Nat.le_succ _))
      have own26 := own_keep2 (own_below own1 (Nat.le_refl _) hB5) (own_below own2 (Nat.le_refl _) hB5) (by decide) hgrow6
      have y1 := (hBr6.cell (p := ⟨g', off' + j * 2, none⟩) p4).trans k1
      have y2 := (hBr6.cell (p := ⟨g', off' + j * 2 + 1, none⟩) p4).trans k2
      have s6 := hBr4.size
      clear x1 x2 x3 x4 x5 x6 k1 k2 own1 own2
      go_wp2_with (at_builtin; refine stop_in ?_)
      refine stop_out ?_
      refine stk1 (M := fun W => wpList _ _ _ _ _ W) fun W7 hB7 hz7 b7' => ?_
      have hW7s := hB7.size
      refine wpList_app1 rfl _ _ rfl Tryd.underlying23 hj0 jz0 jz1 jz2 rfl (by decide) (cl := ec u) rfl (ec_one _) rfl rfl (own_below own26 (Nat.le_refl _) hB7) b7' (by unfold maxLen; omega) (by omega) (by omega) ?_
      intro v8 w8 hown8 hgrow8 hB8
      have own18 := own_keep2 (own_below own26 (Nat.le_refl _) hB7) (own_below hown6 (Nat.le_refl _) hB7) (by decide) hgrow8
      have hc : gs.length - (j + 1) + 1 = gs.length - j := by omega
      have HC := Lib.hid hc
      clear hc
      go_wp2_with fail
      refine ⟨⟨j, by omega, by go_num, by rw [HF.out, ← HC.out]; exact own18, by rw [HG.out, ← HC.out]; exact hown8, (hBr4.trans (hB7.mono (by omega))).trans hB8⟩, by simp [intOf]⟩
    · obtain rfl : j = 0 := by omega
      rw [Nat.sub_zero] at own1 own2
      obtain ⟨wo, hwo⟩ : ∃ wo, wo = wr := ⟨_, rfl⟩
      subst hwo
      have hkM := hkp
      have hrs' : w3.heap.size + 1 ≤ wo.heap.size := by omega
      have e1 := b4r.cell
      go_wp2_with fail
      refine (gMade M pp.length 5 hkM (by decide) _ w.heap.size wo (RawG.keep hM hBwr) hBwr.size).mono ?_
      rintro e w5 ⟨v5, rfl, g5, hb5⟩
      have hol := madeG_len M pp.length 5
      have hokx := madeG_ok M pp.length 5
      generalize madeG M pp.length 5 = ex at *
      obtain ⟨Ax, capx, rfl⟩ := Rd.len g5
      have hB5 : Below (w3.heap.size + 1) W4 w5 := hB.trans (hb5.mono hrs')
      have own1' := own_below own1 (Nat.le_refl _) hb5
      have own2' := own_below own2 (Nat.le_refl _) hb5
      have h5s := hb5.size
      have own1o := own1
      have own2o := own2
      clear e1 own1 own2 hB hBr3 Lr hBwr
      go_wp2_with fail
      have out0 : ∀ v b, (∀ n k cs, wo.ownsRow b n k v gs.length cs → Outside wo.heap.size w5.heap.size v) := fun v b n k cs ho g hg => .inl (own_block ho hg).2
      have out1 := out0 _ _ _ _ _ own1o
      have out2 := out0 _ _ _ _ _ own2o
      go_loopw [11, 12, 15] (fun v u i wr => ∃ j : Nat, j ≤ ex.length ∧ i = .int .i64 j ∧ wr.ownsRow (w3.heap.size + 1) 46 6 v (gs.length + j) (revG gs 0 ++ (ex.take j).flatMap gc) ∧ wr.ownsRow (w3.heap.size + 1) 27 2 u (gs.length + j) (revE us 0 ++ (List.replicate j (0 : E)).flatMap ec) ∧ Below (w3.heap.size + 1) w5 wr ∧ Kept wo.heap.size w5.heap.size w5 wr ∧ Outside wo.heap.size w5.heap.size v ∧ Outside wo.heap.size w5.heap.size u) (fun _ _ i _ => ex.length - (intOf i).toNat)
      case atStart =>
        refine ⟨0, Nat.zero_le _, rfl, by simpa using own1', by simpa using own2', Below.refl _ _, Kept.refl _ _ _, out1, out2⟩
      case round =>
        obtain ⟨j, hj, rfl, own1, own2, hBq, kq, ot1, ot2⟩ := hrel
        have hqs := hBq.size
        have hBt : Below (w3.heap.size + 1) W4 wr := hB5.trans hBq
        have hBt3 : Below w3.heap.size w3 wr := hB4.trans (hBt.mono (Nat.le_succ _))
        by_cases hlt : j < ex.length
        · obtain ⟨g, off, cap', hv, q1, q2, q3, q4, q5⟩ := gates_cells (rd_kept g5 kq hqs) (by omega)
          cases hv
          obtain ⟨p, hp⟩ : ∃ p, ex[j]? = some p := ⟨ex[j], List.getElem?_eq_getElem hlt⟩
          obtain ⟨x1, x2, x3, x4, x5, x6⟩ := q5 j p hp
          have hf : (ex.take (j + 1)).flatMap gc = (ex.take j).flatMap gc ++ gc p := by rw [List.take_add_one, hp]; simp
          have hf2 : (List.replicate (j + 1) (0 : E)).flatMap ec = (List.replicate j (0 : E)).flatMap ec ++ ec 0 := by rw [List.replicate_succ', List.flatMap_append]; rfl
          have HF := Lib.hid hf
          have HF2 := Lib.hid hf2
          clear q5 hp hf hf2 Ly hokx hokp
          go_wp2_with (at_builtin; refine stop_in ?_)
          refine stop_out ?_
          refine stk1 (M := fun W => wpList _ _ _ _ _ W) fun W5 hB5 hz5 b5' => ?_
          have hW5s := hB5.size
          refine wpList_app3 rfl _ _ rfl Tryd.underlying22 hi0 iz0 iz1 iz2 rfl (by decide) (cl := gc p) rfl (gc_one _) rfl rfl (own_below own1 (Nat.le_refl _) hB5) b5' (by unfold maxLen; omega) (by omega) (by omega) ?_
          intro v6 w6 hown6 hgrow6 hB6 hat6
          have k6 := (kq.trans (Kept.of_below hB5 hqs)).trans (Kept.of_grown hgrow6 ot1 (by omega))
          have own26 := own_keep2 (own_below own1 (Nat.le_refl _) hB5) (own_below own2 (Nat.le_refl _) hB5) (by decide) hgrow6
          have s6 := hB6.size
          have ot6 := ot1.next hat6 (by omega)
          clear x1 x2 x3 x4 x5 x6 own1 own2
          go_wp2_with (at_builtin; refine stop_in ?_)
          refine stop_out ?_
          refine stk1 (M := fun W => wpList _ _ _ _ _ W) fun W7 hB7 hz7 b7' => ?_
          have hW7s := hB7.size
          refine wpList_app3 rfl _ _ rfl Tryd.underlying23 hj0 jz0 jz1 jz2 rfl (by decide) (cl := ec 0) rfl (ec_one _) rfl rfl (own_below own26 (Nat.le_refl _) hB7) b7' (by unfold maxLen; omega) (by omega) (by omega) ?_
          intro v8 w8 hown8 hgrow8 hB8 hat8
          have own18 := own_keep2 (own_below own26 (Nat.le_refl _) hB7) (own_below hown6 (Nat.le_refl _) hB7) (by decide) hgrow8
          have k8 := (k6.trans (Kept.of_below hB7 (by omega))).trans (Kept.of_grown hgrow8 ot2 (by omega))
          have ot8 := ot2.next hat8 (by omega)
          go_wp2_with fail
          refine ⟨⟨j + 1, by omega, by go_num, by rw [HF.out, ← List.append_assoc, ← Nat.add_assoc]; exact own18, by rw [HF2.out, ← List.append_assoc, ← Nat.add_assoc]; exact hown8, ((hBq.trans (hB5.mono (by omega))).trans hB6).trans ((hB7.mono (by omega)).trans hB8), k8, ot6, ot8⟩, by simp [intOf]; omega⟩
        · obtain rfl : j = ex.length := by omega
          rw [List.take_of_length_le (Nat.le_refl _)] at own1
          have hBwr := hB3.trans (hBt3.mono hB3.size)
          have b4w := (b4r.keep hb5).below hBq (Nat.lt_succ_self _)
          clear out1 out2 out0 ot1 ot2 own1' own2' own1o own2o b4r
          have hR9 := RawS.keep hR hBwr
          have hs9 := hBwr.size
          by_cases hR3 : R.length ≤ 3
          all_goals go_wp2_with fail
          focus
            refine (xMadeAll R R.length (by omega) _ w.heap.size wr hR9 hs9).mono ?_
            rintro e w9 ⟨v9, rfl, g9, hb9⟩
            have hrl : (madeAll R R.length).length ≤ 3 := (by rw [madeAll_length]; omega)
            generalize madeAll R R.length = rs at *
          rotate_left
          focus
            refine (xMadeAll R 3 (by omega) _ w.heap.size wr hR9 hs9).mono ?_
            rintro e w9 ⟨v9, rfl, g9, hb9⟩
            have hrl : (madeAll R 3).length ≤ 3 := (by rw [madeAll_length]; omega)
            generalize madeAll R 3 = rs at *
          rotate_left
          all_goals
            obtain ⟨A9, cap9, rfl⟩ := Rd.len g9
            have own19 := own_below own1 (Nat.le_refl _) hb9
            have own29 := own_below own2 (Nat.le_refl _) hb9
            have h9s := hb9.size
            have hU9 : gs.length + ex.length + rs.length ≤ 1000 := by omega
            go_wp2_with (at_builtin; refine stop_in ?_)
            refine stop_out ?_
            refine wpList_appB rfl _ _ rfl Tryd.underlying23 hj0 jz0 jz1 jz2 rfl (by decide) (cl := rs.flatMap ec) (fun u hu => by obtain ⟨x, _, hx⟩ := List.mem_flatMap.1 hu; exact ec_one x u hx) rfl rfl g9 own29 (by unfold maxLen; omega) (by omega) (by omega) ?_
            intro v10 w10 hown10 hgrow10 hB10
            have own110 := own_keep2 own29 own19 (by decide) hgrow10
            have h10s := hB10.size
            have hBt10 : Below (w3.heap.size + 1) W4 w10 := (hBt.trans (hb9.mono (by omega))).trans hB10
            have hB310 : Below w3.heap.size w3 w10 := hB4.trans (hBt10.mono (Nat.le_succ _))
            have hBw10 := hB3.trans (hB310.mono hB3.size)
            have gT : GateS (w3.heap.size + 1) w10.heap.size w10 u11 (gs.reverse ++ ex) := by
              have := Rd.of_own own110 (by omega) (Nat.le_refl _)
              unfold GateS
              rw [List.length_append, List.length_reverse, List.flatMap_append]
              exact this
            have uT : ExtS (w3.heap.size + 1) w10.heap.size w10 v10 (us.reverse ++ (List.replicate ex.length 0 ++ rs)) := by
              have := Rd.of_own hown10 (by omega) (Nat.le_refl _)
              unfold ExtS
              rw [List.length_append, List.length_reverse, List.length_append, List.length_replicate, HUL.out, List.flatMap_append, List.flatMap_append, ← List.append_assoc, ← Nat.add_assoc]
              exact this
            obtain ⟨AT, capT, rfl⟩ := gT.len
            have LT : Lay w10 (gs.reverse ++ ex) (us.reverse ++ (List.replicate ex.length 0 ++ rs)) pp qq (.slice AT (gs.reverse ++ ex).length capT) v10 (.slice Ac pp.length capc) (.slice Ad qq.length capd) := by
              have Lz := Ly.keep hB310
              refine ⟨gT.wide (Nat.zero_le _) (Nat.le_refl _), uT.wide (Nat.zero_le _) (Nat.le_refl _), Lz.hp, Lz.hq, Lz.laid, ?_, fun g hg => ?_, Lz.pl, Lz.ql⟩
              · rw [List.length_append, List.length_append, List.length_append, List.length_reverse, List.length_reverse, List.length_replicate, HUL.out]; omega
              · rcases List.mem_append.1 hg with h | h
                · exact Lz.ok g (List.mem_reverse.1 h)
                · exact hokp g h
            have XT : ∀ W', Below w10.heap.size w10 W' → Calls Tryd.prog 16 #[.slice AT (gs.reverse ++ ex).length capT, v10, endsV (.slice Ac pp.length capc) (.slice Ad qq.length capd) x y] W' (RetR (ExtA (coefs pp qq gs us)) W') := fun W' hW => by
              rw [← order_coefs pp qq gs ex us rs HUL.out]; exact (LT.keep hW).coef x y
            have XP : ∀ W', Below w10.heap.size w10 W' → Calls Tryd.prog 18 #[.slice AT (gs.reverse ++ ex).length capT, v10, endsV (.slice Ac pp.length capc) (.slice Ad qq.length capd) x y] W' (Ret (ev (point pp qq gs us x y)) W') := fun W' hW => by
              rw [← order_point pp qq gs ex us rs x y HUL.out]; exact (LT.keep hW).point x y
            replace XT := Lib.hid XT
            replace XP := Lib.hid XP
            have Lz := Ly.keep hB310
            have c1 := gw_blk ((b4w.keep hb9).below hB10 (Nat.lt_succ_self _))
            clear own1 own2 own19 own29 hown10 own110 gT uT g9 g5 Ly hR9 LT
            generalize (gs.reverse ++ ex).length = nT at *
            go_wp2_with fail
            obtain ⟨pt, hpt⟩ : ∃ pt, pt = point pp qq gs us x y := ⟨_, rfl⟩
            rw [← hpt] at XP
            refine wp_region_rg 23 [(3, .rel (ExtA (coefs pp qq gs us)) (SlF 4)), (7, .rel (ExtA (coefs pp qq gs us)) (SlF 4)), (8, .val (.bool true)), (13, .val (.agg #[.int .u64 (fv (pt).a), .int .u64 (fv (pt).b)])), (17, .val (.agg #[.int .u64 (fv (pt).a), .int .u64 (fv (pt).b)]))] (by kernel_rfl) (by kernel_rfl) (by kernel_rfl) ⟨fit_ext, fit_ext, trivial⟩ ?_
            refine rg_det rfl rfl rfl (fun K hK => ?_)
            go_big_quiet_op
            refine hK _ ?_; clear hK K
            refine rg_det rfl rfl rfl (fun K hK => ?_)
            go_big_quiet_op
            refine hK _ ?_; clear hK K
            refine rg_det rfl rfl rfl (fun K hK => ?_)
            go_big_quiet_op
            refine hK _ ?_; clear hK K
            refine rg_rel rfl rfl (fun W1 hW1 hF => step_callr en_attestor_wiring_Coefficients (XT.out W1 (grw_below hW1)) rfl rfl) ?_
            intro n3 m3 v3 hn3 hm3 hd3 hf3 a' ha
            simp only [Act.put, List.setIfInBounds_toArray, List.set_cons_succ, List.set_cons_zero] at ha
            subst ha
            obtain ⟨A3, cap3, rfl⟩ := hf3
            refine rg_det rfl rfl rfl (fun K hK => ?_)
            go_big_quiet_op
            refine hK _ ?_; clear hK K
            refine rg_det rfl rfl rfl (fun K hK => ?_)
            go_big_quiet_op
            refine hK _ ?_; clear hK K
            refine rg_det rfl rfl rfl (fun K hK => ?_)
            go_big_quiet_op
            refine hK _ ?_; clear hK K
            refine rg_rel rfl rfl (fun W1 hW1 hF => step_callr en_attestor_wiring_Coefficients ((Lz.grw hW1).coef x y) rfl rfl) ?_
            intro n7 m7 v7 hn7 hm7 hd7 hf7 a' ha
            simp only [Act.put, List.setIfInBounds_toArray, List.set_cons_succ, List.set_cons_zero] at ha
            subst ha
            obtain ⟨A7, cap7, rfl⟩ := hf7
            refine rg_val rfl rfl (fun W1 hW1 hF => step_callv en_attestor_attestorref02_Same (xSame (coefs pp qq gs us) _ _ _ _ _ _ W1 (pick_last (pick_init hF) (by kernel_rfl)).2 (pick_last hF (by kernel_rfl)).2) rfl rfl) ?_
            intro a' ha
            simp only [Act.put, List.setIfInBounds_toArray, List.set_cons_succ, List.set_cons_zero] at ha
            subst ha
            refine rg_det rfl rfl rfl (fun K hK => ?_)
            go_big_quiet_op
            refine hK _ ?_; clear hK K
            refine rg_det rfl rfl rfl (fun K hK => ?_)
            go_big_quiet_op
            refine hK _ ?_; clear hK K
            refine rg_det rfl rfl rfl (fun K hK => ?_)
            go_big_quiet_op
            refine hK _ ?_; clear hK K
            refine rg_det rfl rfl rfl (fun K hK => ?_)
            go_big_quiet_op
            refine hK _ ?_; clear hK K
            refine rg_val rfl rfl (fun W1 hW1 hF => step_callv en_attestor_wiring_Point (XP.out W1 (grw_below hW1)) rfl rfl) ?_
            intro a' ha
            simp only [Act.put, List.setIfInBounds_toArray, List.set_cons_succ, List.set_cons_zero] at ha
            subst ha
            refine rg_det rfl rfl rfl (fun K hK => ?_)
            go_big_quiet_op
            refine hK _ ?_; clear hK K
            refine rg_det rfl rfl rfl (fun K hK => ?_)
            go_big_quiet_op
            refine hK _ ?_; clear hK K
            refine rg_det rfl rfl rfl (fun K hK => ?_)
            go_big_quiet_op
            refine hK _ ?_; clear hK K
            refine rg_val rfl rfl (fun W1 hW1 hF => step_callv en_attestor_wiring_Point ((by rw [hpt]; exact (Lz.grw hW1).point x y)) rfl rfl) ?_
            intro a' ha
            simp only [Act.put, List.setIfInBounds_toArray, List.set_cons_succ, List.set_cons_zero] at ha
            subst ha
            refine rg_det rfl rfl rfl (fun K hK => ?_)
            go_big_quiet_op
            refine hK _ ?_; clear hK K
            refine rg_det rfl rfl rfl (fun K hK => ?_)
            go_big_quiet_op
            refine hK _ ?_; clear hK K
            refine rg_det rfl rfl rfl (fun K hK => ?_)
            go_big_quiet_op
            refine hK _ ?_; clear hK K
            refine rg_det rfl rfl rfl (fun K hK => ?_)
            go_big_quiet_op
            refine hK _ ?_; clear hK K
            refine rg_det rfl rfl rfl (fun K hK => ?_)
            go_big_quiet_op
            refine hK _ ?_; clear hK K
            refine rg_nil (fun w' hw' hF => ?_)
            obtain ⟨z, rfl⟩ := hw'
            simp only [List.drop_succ_cons, List.drop_zero]
            clear hF
            go_wp2_with fail
            go_ret
            exact ⟨rfl, hBw10.trans (z.h.mono hBw10.size)⟩
end Go.Proofs.YtbmgngoeiadmmaaDoor
