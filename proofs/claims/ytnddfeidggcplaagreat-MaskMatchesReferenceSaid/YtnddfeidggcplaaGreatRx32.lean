/-
  A growing row of slices beside boxes that were made after it and change.
  Eval, rest and Total of the reference of chapter 32, by contract.
  Prove of the reference of chapter 32, by contract.
  Powers by the reference of package ext, by contract; the inverse of zero.
  Explain of the reference of chapter 32, by contract.
-/
import Derived.Test.YtnddfeidggcplaaGreatRow
import Derived.Test.YtnddfeidggcplaaGreatTm32
import Derived.Test.YtnddfeidggcplaaGreatIp
import Derived.Test.YtnddfeidggcplaaGreatNm32
import Derived.Test.YtnddfeidggcplaaGreatMp32
import Derived.Test.YtnddfeidggcplaaGreatRiv
import Derived.Test.YtnddfeidggcplaaGreatSw32
namespace Go.Proofs.YtnddfeidggcplaaGreat
open Go.RowKit

def RowW (b0 b1 : Nat) (w : World) (u : Value) (ts : List (List E)) : Prop := ∃ us : List Value, w.ownsRow b0 22 1 u ts.length us ∧ us.length = ts.length ∧ ∀ (k : Nat) x t, us[k]? = some x → ts[k]? = some t → ∃ lo hi, b1 ≤ lo ∧ hi ≤ w.heap.size ∧ Outside lo hi u ∧ ExtS lo hi w x t
theorem RowW.keep {b0 b1 : Nat} {w X : World} {u : Value} {ts : List (List E)} (h : RowW b0 b1 w u ts) (hb : Below w.heap.size w X) : RowW b0 b1 X u ts := by
  obtain ⟨us, h1, h2, h3⟩ := h
  refine ⟨us, own_below h1 (Nat.le_refl _) hb, h2, fun k x t hx ht => ?_⟩
  obtain ⟨lo, hi, q1, q2, q3, q4⟩ := h3 k x t hx ht
  exact ⟨lo, hi, q1, Nat.le_trans q2 hb.size, q3, Rd.keep q4 hb⟩
theorem RowW.put {b0 b1 g : Nat} {w X : World} {u : Value} {ts : List (List E)} (h : RowW b0 b1 w u ts) (hp : Put w X g) (hg : g < b1) (hne : u.ownBlock ≠ some g) : RowW b0 b1 X u ts := by
  obtain ⟨us, ⟨h1, h1'⟩, h2, h3⟩ := h
  refine ⟨us, ⟨h1, h1'.imp id ?_⟩, h2, fun k x t hx ht => ?_⟩
  · rintro ⟨b, cap, cur, rfl, q2, q3, q4⟩
    exact ⟨b, cap, cur, rfl, q2, (hp.other b (fun e => hne (by simp [Value.ownBlock, e]))).trans q3, q4⟩
  · obtain ⟨lo, hi, q1, q2, q3, q4⟩ := h3 k x t hx ht
    exact ⟨lo, hi, q1, by rw [hp.size]; exact q2, q3, hp.rd q4 (.inl (by omega))⟩
theorem RowW.out {b0 b1 lo hi : Nat} {w : World} {u : Value} {ts : List (List E)} (h : RowW b0 b1 w u ts) (hlo : w.heap.size ≤ lo) : Outside lo hi u := fun b hb => by
  obtain ⟨us, h1, _⟩ := h
  exact .inl (Nat.lt_of_lt_of_le (own_block h1 hb).2 hlo)
theorem RowW.tabs {b0 b1 : Nat} {w : World} {u : Value} {ts : List (List E)} (h : RowW b0 b1 w u ts) (h01 : b0 ≤ b1) (hl : ts.length ≤ 1000000) : TabS b0 w.heap.size w u ts := by
  obtain ⟨us, h1, h2, h3⟩ := h
  refine ⟨us, h2, Rd.of_own h1 (by omega) (Nat.le_refl _), fun k x t hx ht => ?_⟩
  obtain ⟨lo, hi, q1, q2, q3, q4⟩ := h3 k x t hx ht
  exact Rd.wide q4 (Nat.le_trans h01 q1) q2
theorem wpList_appW {ops : Array Oper} {rest : List Oper} {o : Oper} {a : Act} {Q : Exit → Act → World → Prop} {X : World} {b0 b1 n lo hi : Nat} {t : TypeId} {ts : List (List E)} {u x : Value} {y : List E} (hgd : o.guard = none) (s p : Operand)
    (ho : o.op = .call { callee := .builtin .append, args := #[s, p], argTypes := #[t, t] }) (ht : Tryz.prog.underlying t = some (.slice 22)) (hs : a.eval s = u) (hx : a.eval p = .slice (some ⟨n, 0, none⟩) 1 1) (hrow : RowW b0 b1 X u ts) (hsrc : Blk X n 22 #[x]) (hxc : x.oneCell' = true)
    (hE : ExtS lo hi X x y) (hlo : b1 ≤ lo) (hhi : hi ≤ X.heap.size) (hout : Outside lo hi u) (hk : ts.length ≤ 100000) (hbase : b0 ≤ X.heap.size)
    (h : ∀ v' w', RowW b0 b1 w' v' (ts ++ [y]) → Below b0 X w' → X.grownBy w' u.ownBlock → (v'.ownBlock = u.ownBlock ∨ v'.ownBlock = some X.heap.size) → wpList Tryz.prog ops Q rest (a.put o.dst v') w') : wpList Tryz.prog ops Q (o :: rest) a X := by
  obtain ⟨i0, hi0, hz0, hz1, hz2⟩ := info_parts sl_info
  obtain ⟨us, h1, h2, h3⟩ := hrow
  refine wpList_app3 hgd s p ho ht hi0 hz0 hz1 hz2 rfl (by decide) (cl := [x]) rfl (fun v hv => by rw [List.mem_singleton.1 hv]; exact hxc) hs hx h1 hsrc (by unfold maxLen; omega) (by omega) hbase fun v' w' hown hgrow hB hob => ?_
  have hkept : ∀ lo hi, hi ≤ X.heap.size → Outside lo hi u → Kept lo hi X w' := fun lo hi hh ho => Kept.of_grown hgrow ho hh
  refine h v' w' ⟨us ++ [x], by simpa using hown, by simp [h2], fun k z t' hz ht' => ?_⟩ hB hgrow hob
  by_cases hkl : k < us.length
  · rw [List.getElem?_append_left hkl] at hz
    rw [List.getElem?_append_left (by omega)] at ht'
    obtain ⟨lo', hi', q1, q2, q3, q4⟩ := h3 k z t' hz ht'
    exact ⟨lo', hi', q1, Nat.le_trans q2 hB.size, q3.next hob q2, rd_kept q4 (hkept _ _ q2 q3) hB.size⟩
  · have hkk : k < (us ++ [x]).length := (List.getElem?_eq_some_iff.1 hz).1
    simp only [List.length_append, List.length_cons, List.length_nil] at hkk
    obtain rfl : k = us.length := by omega
    rw [List.getElem?_append_right (Nat.le_refl _), Nat.sub_self] at hz
    rw [List.getElem?_append_right (by omega), h2, Nat.sub_self] at ht'
    simp only [List.getElem?_cons_zero, Option.some.injEq] at hz ht'
    subst hz
    subst ht'
    exact ⟨lo, hi, hlo, Nat.le_trans hhi hB.size, hout.next hob hhi, rd_kept hE (hkept _ _ hhi hout) hB.size⟩
end Go.Proofs.YtnddfeidggcplaaGreat
namespace Go.Proofs.YtnddfeidggcplaaGreat
open Go.RowKit

theorem en_attestor_attestorref32_Eval : ∀ args w, (callFunc 23 args).run Tryz.prog w = .ok (.enter 23 args) w := enters_of Tryz.func23 (by kernel_rfl) rfl
theorem en_attestor_attestorref32_rest : ∀ args w, (callFunc 58 args).run Tryz.prog w = .ok (.enter 58 args) w := enters_of Tryz.func58 (by kernel_rfl) rfl
set_option maxRecDepth 100000 in
set_option maxHeartbeats 2000000 in
theorem rEvM (m : List (List E)) (p : List E) (hl : m.length ≤ p.length) (hn : m.length ≤ 1000) (hr : ∀ g ∈ m, g.length ≤ 1000) (v1 v2 : Value) (lo hi lo2 hi2 : Nat) (w : World) (h1 : TabS lo hi w v1 m) (h2 : ExtS lo2 hi2 w v2 p) :
    Calls Tryz.prog 23 #[v1, v2] w (Ret (ev (evM m p)) w) := by
  obtain ⟨A1, c1, rfl⟩ := h1.len
  obtain ⟨A2, c2, rfl⟩ := Rd.len h2
  have hsm := h2.2.1
  have H1 := Lib.hid h1
  have H2 := Lib.hid h2
  have HR := Lib.hid hr
  obtain ⟨n, hnl⟩ : ∃ n, n = m.length := ⟨_, rfl⟩
  obtain ⟨N, hNl⟩ : ∃ N, N = p.length := ⟨_, rfl⟩
  have HY := Lib.hid (show evK m p n = evM m p by rw [hnl]; rfl)
  rw [← hnl] at hl hn H1 ⊢
  rw [← hNl] at hl hsm H2 ⊢
  have HN := Lib.hid hnl
  have HN2 := Lib.hid hNl
  clear h1 h2 hr hnl hNl
  unfold ev
  go_enter Tryz.func23, Tryz.ntmps23
  go_upto_region 2 with (fail)
  refine wp_stk2 fun W hB hz b1 b2 => ?_
  clear hz
  go_wp2_with fail
  go_loopw [6] (fun i wr => ∃ k : Nat, k ≤ n ∧ i = .int .i64 k ∧ Blk wr (w.heap.size + 1) 30 #[.int .u64 (fv (evK m p k).a), .int .u64 (fv (evK m p k).b)] ∧ Blk wr w.heap.size 30 #[.int .u64 0, .int .u64 0] ∧ Below w.heap.size w wr) (fun i _ => n - (intOf i).toNat)
  case atStart => exact ⟨0, Nat.zero_le _, rfl, b2, b1, hB⟩
  case round =>
    obtain ⟨k, hk, rfl, bs, br, hBr⟩ := hrel
    by_cases hlt : k < n
    · obtain ⟨g, off, cap', hv, -, -, -, q4, q5⟩ := tabs_cells H1.out (by rw [← HN.out]; omega)
      rw [← HN.out] at hv
      cases hv
      obtain ⟨g', off', cap'', hv, -, -, -, r4, r5⟩ := exts_cells H2.out (by rw [← HN2.out]; omega)
      rw [← HN2.out] at hv
      cases hv
      obtain ⟨t, ht⟩ : ∃ t, m[k]? = some t := ⟨_, List.getElem?_eq_getElem (by rw [← HN.out]; exact hlt)⟩
      obtain ⟨x, hx⟩ : ∃ x, p[k]? = some x := ⟨_, List.getElem?_eq_getElem (by rw [← HN2.out]; omega)⟩
      obtain ⟨A3, c3, d0, hE⟩ := q5 k t ht
      obtain ⟨d1, d2⟩ := r5 k x hx
      have hEs := Lib.hid (show evK m p (k + 1) = evK m p k + atE t x by rw [evK_succ]; simp [List.getD, ht, hx])
      have HA := Lib.hid (fun W1 (hW : Below wr.heap.size wr W1) => pAt t x (HR.out t (List.mem_of_getElem? ht)) _ _ _ W1 (Rd.keep (Rd.keep hE hBr) hW))
      have e0 := (hBr.cell (p := ⟨g, off + k, none⟩) q4).trans d0
      have k1 := gw_cell (W := wr) (Nat.lt_of_lt_of_le r4 hBr.size) ((hBr.cell (p := ⟨g', off' + k * 2, none⟩) r4).trans d1)
      have k2 := gw_cell (W := wr) (Nat.lt_of_lt_of_le r4 hBr.size) ((hBr.cell (p := ⟨g', off' + k * 2 + 1, none⟩) r4).trans d2)
      have k4 := gw_cell (W := wr) (Nat.lt_of_lt_of_le q4 hBr.size) e0
      have k3 := gw_blk bs
      have hltp : k < N := by omega
      clear q5 r5 d0 d1 d2 hE ht hx e0
      generalize evK m p k = s at *
      generalize atE t x = y at *
      go_wp2_with fail
      refine wp_region_rg 11 [(9, Spec.val (.agg #[.int .u64 (fv (y).a), .int .u64 (fv (y).b)])), (10, Spec.val (.agg #[.int .u64 (fv (s + y).a), .int .u64 (fv (s + y).b)]))] (by kernel_rfl) (by kernel_rfl) (by kernel_rfl) trivial ?_
      refine rg_det rfl rfl rfl (fun K hK => ?_)
      go_big_quiet_op
      refine hK _ ?_; clear hK K
      refine rg_det rfl rfl rfl (fun K hK => ?_)
      go_big_quiet_op
      refine hK _ ?_; clear hK K
      refine rg_det rfl rfl rfl (fun K hK => ?_)
      go_big_quiet_op
      refine hK _ ?_; clear hK K
      refine rg_det rfl rfl rfl (fun K hK => ?_)
      go_big_quiet_op
      refine hK _ ?_; clear hK K
      refine rg_det rfl rfl rfl (fun K hK => ?_)
      go_big_quiet_op
      refine hK _ ?_; clear hK K
      refine rg_det rfl rfl rfl (fun K hK => ?_)
      go_big_quiet_op
      refine hK _ ?_; clear hK K
      refine rg_det rfl rfl rfl (fun K hK => ?_)
      go_big_quiet_op
      refine hK _ ?_; clear hK K
      refine rg_det rfl rfl rfl (fun K hK => ?_)
      go_big_quiet_op
      refine hK _ ?_; clear hK K
      refine rg_det rfl rfl rfl (fun K hK => ?_)
      go_big_quiet_op
      refine hK _ ?_; clear hK K
      refine rg_val rfl rfl (fun W1 hW1 hF => step_callv en_attestor_attestorref03_At (HA.out W1 (grw_below hW1)) rfl rfl) ?_
      intro a' ha
      simp only [Act.put, List.setIfInBounds_toArray, List.set_cons_succ, List.set_cons_zero] at ha
      subst ha
      refine rg_val rfl rfl (fun W1 hW1 hF => step_callv en_attestor_attestorref02_Add (xAdd s y W1) rfl rfl) ?_
      intro a' ha
      simp only [Act.put, List.setIfInBounds_toArray, List.set_cons_succ, List.set_cons_zero] at ha
      subst ha
      refine rg_nil (fun w' hw' hF => ?_)
      obtain ⟨z, rfl⟩ := hw'
      simp only [List.drop_succ_cons, List.drop_zero]
      have bsz := bs.gw z
      have e1 := bsz.frozen
      have e2 := bsz.cell
      clear hF k1 k2 k3 k4
      go_wp2_with fail
      have hp : Put z.w ((z.w.setCell ⟨w.heap.size + 1, 0, none⟩ (.int .u64 (fv (s + y).a))).setCell ⟨w.heap.size + 1, 1, none⟩ (.int .u64 (fv (s + y).b))) (w.heap.size + 1) := (Put.set _ _ _ _).trans (Put.set _ _ _ _)
      exact ⟨⟨k + 1, by omega, by go_num, by rw [hEs.out]; exact blk_set2 bsz, hp.blk (br.gw z) (by omega), below_put (hBr.trans (z.h.mono hBr.size)) hp (by omega)⟩, by simp [intOf]; omega⟩
    · obtain rfl : k = n := by omega
      rw [HY.out] at bs
      generalize evM m p = s at *
      have e1 := bs.cell
      have e2 := br.frozen
      have e3 := br.cell
      go_wp2_with fail
      refine bodyPost_ret (v := .agg #[.int .u64 (fv (s).a), .int .u64 (fv (s).b)]) (by simp [results, Tryz.results23, go_sem, e3]) rfl ⟨rfl, below_set2 hBr (Nat.le_refl _)⟩
def rstK (m : List (List E)) (fx : List E) (n k : Nat) : E := esum ((List.range k).map fun i => evM m (fx ++ vertex i n))
theorem rstK_succ (m : List (List E)) (fx : List E) (n k : Nat) : rstK m fx n (k + 1) = rstK m fx n k + evM m (fx ++ vertex k n) := esum_range _ k
theorem rstK_all (m : List (List E)) (fx : List E) : rstK m fx (m.length - fx.length) (2 ^ (m.length - fx.length)) = restE m fx := rfl
set_option maxRecDepth 100000 in
set_option maxHeartbeats 4000000 in
theorem rRest (m : List (List E)) (fx : List E) (hl : fx.length ≤ m.length) (hn : m.length ≤ 16) (hr : ∀ g ∈ m, g.length ≤ 1000) (v1 v2 : Value) (lo hi lo2 hi2 : Nat) (w : World) (h1 : TabS lo hi w v1 m) (h2 : ExtS lo2 hi2 w v2 fx) :
    Calls Tryz.prog 58 #[v1, v2] w (Ret (ev (restE m fx)) w) := by
  obtain ⟨i0, hi0, iz0, iz1, iz2⟩ := info_parts ext_info
  obtain ⟨A1, c1, rfl⟩ := h1.len
  obtain ⟨A2, c2, rfl⟩ := Rd.len h2
  obtain ⟨L, hL⟩ : ∃ L, L = m.length := ⟨_, rfl⟩
  obtain ⟨F, hF⟩ : ∃ F, F = fx.length := ⟨_, rfl⟩
  obtain ⟨n, hnn⟩ : ∃ n, n = L - F := ⟨_, rfl⟩
  have H2' := h2
  unfold ExtS at H2'
  rw [← hF] at H2'
  rw [← hL] at hn
  rw [← hF, ← hL] at hl
  have HLn := Lib.hid (show (L : Int) - (F : Int) = (n : Int) by omega)
  have HY := Lib.hid (show rstK m fx n (2 ^ n) = restE m fx by rw [hnn, hL, hF]; exact rstK_all m fx)
  have HS := Lib.hid (rstK_succ m fx n)
  have HLe := Lib.hid (show ∀ k, m.length ≤ (fx ++ vertex k n).length by intro k; rw [List.length_append, vertex_length, ← hL, ← hF]; omega)
  have HLv := Lib.hid (show ∀ k, (fx ++ vertex k n).length = F + n by intro k; rw [List.length_append, vertex_length, ← hF])
  have HVl := Lib.hid (show ∀ k, (vertex k n).length = n from fun k => vertex_length _ _)
  have HEv := Lib.hid (show ∀ k v W1 lo hi, Below w.heap.size w W1 → ExtS lo hi W1 v (fx ++ vertex k n) → Calls Tryz.prog 23 #[.slice A1 m.length c1, v] W1 (Ret (ev (evM m (fx ++ vertex k n))) W1) from fun k v W1 lo hi hW hE => rEvM m _ (HLe.out k) (by omega) hr _ _ _ _ _ _ W1 (h1.keep hW) hE)
  obtain ⟨N, hN, hN2, hN6⟩ := pow_i64 n (by omega)
  have hN16 : N ≤ 65536 := by rw [hN]; exact Nat.pow_le_pow_right (by decide) (by omega : n ≤ 16)
  have hn16 : n ≤ 16 := by omega
  have hF16 : F ≤ 16 := by omega
  rw [← hN] at HY
  rw [← hL] at HEv ⊢
  rw [← hF]
  have HH2 := Lib.hid H2'
  have HN := Lib.hid hN
  have HLn2 := HLn.out
  clear h1 h2 hr hL hF hnn HLe H2' hN
  unfold ev
  go_enter Tryz.func58, Tryz.ntmps58
  go_upto_region 2 with (fail)
  refine wp_stk2 fun W hB hz b1 b2 => ?_
  clear hz
  replace b2 : Blk W (w.heap.size + 1) 30 #[.int .u64 (fv (rstK m fx n 0).a), .int .u64 (fv (rstK m fx n 0).b)] := b2
  go_wp2_with fail
  go_loopw [7] (fun i wr => ∃ k : Nat, k ≤ N ∧ i = .int .i64 k ∧ Blk wr (w.heap.size + 1) 30 #[.int .u64 (fv (rstK m fx n k).a), .int .u64 (fv (rstK m fx n k).b)] ∧ Blk wr w.heap.size 30 #[.int .u64 0, .int .u64 0] ∧ Below w.heap.size w wr) (fun i _ => N - (intOf i).toNat)
  case atStart => exact ⟨0, Nat.zero_le _, rfl, b2, b1, hB⟩
  case round =>
    obtain ⟨k, hk, rfl, bs, br, hBr⟩ := hrel
    obtain ⟨V, hV⟩ : ∃ V, V = wr := ⟨_, rfl⟩
    subst hV
    by_cases hlt : k < N
    · have hSu := Lib.hid (HS.out k)
      generalize rstK m fx n k = s at *
      have hVs := hBr.size
      have hbl := bs.lt
      go_wp2_with (at_builtin; refine wpList_appB rfl _ _ rfl Tryz.underlying22 hi0 iz0 iz1 iz2 rfl (by decide) (cl := fx.flatMap ec) (base := V.heap.size) (cs := []) (k := 0) (fun u hu => by obtain ⟨x, _, hx⟩ := List.mem_flatMap.1 hu; exact ec_one x u hx) rfl rfl (Rd.keep HH2.out (hBr.trans (((Below.refl _ _).alloc (Nat.le_refl _) _).mono hVs))) ⟨rfl, .inr ⟨V.heap.size, 0, #[], rfl, Nat.le_refl _, World.alloc_heap_new V _, Nat.le_refl _, Nat.zero_le _, rfl, rfl⟩⟩ (by unfold maxLen; omega) (by omega) (by simp) ?_)
      intro v1 w4 hown4 hgrow4 hB4
      try rw [Nat.zero_add, List.nil_append] at hown4
      have hal : Below V.heap.size V (V.alloc (.cells #[] 30)) := (Below.refl _ _).alloc (Nat.le_refl _) _
      have hV4 : Below V.heap.size V w4 := hal.trans hB4
      have hs4 := hV4.size
      clear hgrow4 hB4 hal
      obtain ⟨A4, c4, rfl⟩ := own_len hown4
      go_wp2_with fail
      refine (mVertex k n (by omega) (by omega) w4).mono ?_
      rintro e w5 ⟨v2, rfl, t2, hb5⟩
      replace t2 : ExtS w4.heap.size w5.heap.size w5 v2 (vertex k n) := t2
      obtain ⟨A5, c5, rfl⟩ := Rd.len t2
      unfold ExtS at t2
      rw [HVl.out] at t2 ⊢
      have hown5 := own_below hown4 (Nat.le_refl _) hb5
      have hs5 := hb5.size
      clear hown4
      go_wp2_with (at_builtin; refine wpList_appB rfl _ _ rfl Tryz.underlying22 hi0 iz0 iz1 iz2 rfl (by decide) (cl := (vertex k n).flatMap ec) (base := V.heap.size) (cs := fx.flatMap ec) (k := F) (fun u hu => by obtain ⟨x, _, hx⟩ := List.mem_flatMap.1 hu; exact ec_one x u hx) rfl rfl t2 hown5 (by unfold maxLen; omega) (by omega) (by omega) ?_)
      intro v1 w6 hown6 hgrow6 hB6
      rw [← List.flatMap_append] at hown6
      obtain ⟨A6, c6, rfl⟩ := own_len hown6
      have hV6 : Below V.heap.size V w6 := (hV4.trans (hb5.mono hs4)).trans hB6
      have hs6 := hV6.size
      have hE6 : ExtS V.heap.size w6.heap.size w6 (.slice A6 (F + n) c6) (fx ++ vertex k n) := by
        unfold ExtS
        rw [HLv.out]
        exact Rd.of_own hown6 (by omega) (Nat.le_refl _)
      have hw6 := hBr.trans (hV6.mono hVs)
      have HE := Lib.hid (show ∀ W1, Below w6.heap.size w6 W1 → Calls Tryz.prog 23 #[.slice A1 L c1, .slice A6 (F + n) c6] W1 (Ret (ev (evM m (fx ++ vertex k n))) W1) from fun W1 hW => HEv.out k _ W1 _ _ (hw6.trans (hW.mono hw6.size)) (Rd.keep hE6 hW))
      have bs6 := bs.keep hV6
      have br6 := br.keep hV6
      have k3 := gw_blk bs6
      clear hgrow6 hB6 hown6 hown5 hb5 t2 hE6 hV4 hs4 hs5 bs br
      generalize evM m (fx ++ vertex k n) = y at *
      go_wp2_with fail
      refine wp_region_rg 5 [(3, Spec.val (.agg #[.int .u64 (fv (y).a), .int .u64 (fv (y).b)])), (4, Spec.val (.agg #[.int .u64 (fv (s + y).a), .int .u64 (fv (s + y).b)]))] (by kernel_rfl) (by kernel_rfl) (by kernel_rfl) trivial ?_
      refine rg_det rfl rfl rfl (fun K hK => ?_)
      go_big_quiet_op
      refine hK _ ?_; clear hK K
      refine rg_det rfl rfl rfl (fun K hK => ?_)
      go_big_quiet_op
      refine hK _ ?_; clear hK K
      refine rg_det rfl rfl rfl (fun K hK => ?_)
      go_big_quiet_op
      refine hK _ ?_; clear hK K
      refine rg_val rfl rfl (fun W1 hW1 hF => step_callv en_attestor_attestorref32_Eval (HE.out W1 (grw_below hW1)) rfl rfl) ?_
      intro a' ha
      simp only [Act.put, List.setIfInBounds_toArray, List.set_cons_succ, List.set_cons_zero] at ha
      subst ha
      refine rg_val rfl rfl (fun W1 hW1 hF => step_callv en_attestor_attestorref02_Add (xAdd s y W1) rfl rfl) ?_
      intro a' ha
      simp only [Act.put, List.setIfInBounds_toArray, List.set_cons_succ, List.set_cons_zero] at ha
      subst ha
      refine rg_nil (fun w' hw' hF => ?_)
      obtain ⟨z, rfl⟩ := hw'
      simp only [List.drop_succ_cons, List.drop_zero]
      have bsz := bs6.gw z
      have e1 := bsz.frozen
      have e2 := bsz.cell
      clear hF k3
      go_wp2_with fail
      have hp : Put z.w ((z.w.setCell ⟨w.heap.size + 1, 0, none⟩ (.int .u64 (fv (s + y).a))).setCell ⟨w.heap.size + 1, 1, none⟩ (.int .u64 (fv (s + y).b))) (w.heap.size + 1) := (Put.set _ _ _ _).trans (Put.set _ _ _ _)
      exact ⟨⟨k + 1, by omega, by go_num, by rw [hSu.out]; exact blk_set2 bsz, hp.blk (br6.gw z) (by omega), below_put (hw6.trans (z.h.mono hw6.size)) hp (by omega)⟩, by simp [intOf]; omega⟩
    · obtain rfl : k = N := by omega
      rw [HY.out] at bs
      generalize restE m fx = s at *
      have e1 := bs.cell
      have e2 := br.frozen
      have e3 := br.cell
      go_wp2_with fail
      refine bodyPost_ret (v := .agg #[.int .u64 (fv (s).a), .int .u64 (fv (s).b)]) (by simp [results, Tryz.results58, go_sem, e3]) rfl ⟨rfl, below_set2 hBr (Nat.le_refl _)⟩
set_option maxRecDepth 100000 in
set_option maxHeartbeats 2000000 in
theorem rTotM (m : List (List E)) (hn : m.length ≤ 16) (hr : ∀ g ∈ m, 2 ≤ g.length ∧ g.length ≤ 4) (v1 : Value) (lo hi : Nat) (w : World) (h1 : TabS lo hi w v1 m) :
    Calls Tryz.prog 21 #[v1] w (Ret (ev (totM m)) w) := by
  have HT := Lib.hid (rest_tot m fun i hi => hr _ (by rw [show m.getD i [] = m[i] by simp [List.getD, hi]]; exact List.getElem_mem _))
  have HR := Lib.hid (fun W1 (hW : Below w.heap.size w W1) => rRest m [] (Nat.zero_le _) hn (fun g hg => by have := (hr g hg).2; omega) v1 (.slice none 0 0) _ _ 0 0 W1 (h1.keep hW) (rd_nil _ _ _ _ _ _))
  rw [HT.out] at HR
  obtain ⟨A1, c1, rfl⟩ := h1.len
  clear HT h1 hr
  generalize totM m = y at *
  generalize m.length = n at *
  unfold ev
  go_enter Tryz.func21, Tryz.ntmps21
  go_upto_region 1 with (fail)
  refine wp_stk1 fun W hB hz b1 => ?_
  go_wp2_with fail
  refine (HR.out W hB).mono ?_
  rintro e w2 ⟨rfl, hb2⟩
  have b2 := b1.keep hb2
  have e1 := b2.frozen
  have e2 := b2.cell
  unfold ev
  go_wp2_with fail
  refine bodyPost_ret (v := .agg #[.int .u64 (fv (y).a), .int .u64 (fv (y).b)]) (by simp [results, Tryz.results21, go_sem, e2]) rfl ⟨rfl, below_set2 (hB.trans (hb2.mono hB.size)) (Nat.le_refl _)⟩
end Go.Proofs.YtnddfeidggcplaaGreat
namespace Go.Proofs.YtnddfeidggcplaaGreat
open Go.RowKit

theorem tail_end (m : List (List E)) (j : Nat) : ∀ k, endK m j + tailK m j k = endK m (j + k)
  | 0 => by
    show endK m j + 0 = _
    rw [E.add_zero]
    rfl
  | k + 1 => by rw [tailK_succ, ← E.add_assoc, tail_end m j k, ← Nat.add_assoc, endK_succ]
theorem cancelE {a b c : E} (h : a + b = a + c) : b = c := by
  have h1 := congrArg (fun x => x - a) h
  replace h1 : a + b - a = a + c - a := h1
  rw [show a + b - a = b by apply E.ext_ <;> simp only [add_a, add_b, sub_a, sub_b] <;> grind, show a + c - a = c by apply E.ext_ <;> simp only [add_a, add_b, sub_a, sub_b] <;> grind] at h1
  exact h1
theorem tail_bs (m : List (List E)) (i : Nat) (hi : i < m.length) : tailK m (i + 1) (m.length - (i + 1)) = bsK m (m.length - 1 - i) := by
  have h1 := tail_end m (i + 1) (m.length - (i + 1))
  rw [show i + 1 + (m.length - (i + 1)) = m.length by omega] at h1
  have h2 := bsK_split m (m.length - 1 - i) (by omega)
  rw [show m.length - (m.length - 1 - i) = i + 1 by omega] at h2
  exact cancelE (h1.trans h2.symm)
theorem rest_msk (m : List (List E)) (co : List E) (i x : Nat) (v : E) (hi : i < m.length) (hc : i ≤ co.length) (hm : ∀ i, i < m.length → 2 ≤ (m.getD i []).length ∧ (m.getD i []).length ≤ 4) (hv : (m.getD i [])[x]? = some v) :
    restE m (co.take i ++ [nodeE x]) = mskE m co i v := by
  have hl : (co.take i ++ [nodeE x]).length = i + 1 := by rw [List.length_append, List.length_take, Nat.min_eq_left hc]; rfl
  obtain ⟨h2, h4⟩ := hm i hi
  have hx := (List.getElem?_eq_some_iff.1 hv).1
  rw [rest_all m _ (by rw [hl]; omega) hm, hl, mskE_eq m co i hi, tail_bs m i hi, evK_succ]
  have e1 : evK m (co.take i ++ [nodeE x]) i = evK m co i := by
    unfold evK
    refine congrArg esum (List.map_congr_left fun t ht => ?_)
    have := List.mem_range.1 ht
    rw [show (co.take i ++ [nodeE x]).getD t 0 = co.getD t 0 by
      rw [List.getD_eq_getElem?_getD, List.getElem?_append_left (by rw [List.length_take]; omega), List.getElem?_take, if_pos this, ← List.getD_eq_getElem?_getD]]
  have e2 : (co.take i ++ [nodeE x]).getD i 0 = nodeE x := by
    rw [List.getD_eq_getElem?_getD, List.getElem?_append_right (by rw [List.length_take]; omega), List.length_take, Nat.min_eq_left hc, Nat.sub_self]
    rfl
  have e3 : (m.getD i []).getD x 0 = v := by rw [List.getD_eq_getElem?_getD, hv]; rfl
  rw [e1, e2, at_node _ _ hx h4, e3, show m.length - (i + 1) = m.length - 1 - i by omega]
  by_cases hk : m.length - 1 - i = 0
  · rw [hk, show bsK m 0 = 0 from rfl, E.zero_mul, E.zero_mul, E.add_zero, E.add_zero]
  · obtain ⟨k, hk'⟩ : ∃ k, m.length - 1 - i = k + 1 := ⟨m.length - 1 - i - 1, by omega⟩
    rw [hk', Nat.add_sub_cancel, ← xp_half k, ← E.mul_assoc, ← E.add_mul]
    refine cmul ?_
    generalize bsK m (k + 1) * hlf = z
    apply E.ext_ <;> simp only [add_a, add_b] <;> grind
theorem prvR_row32 (ps : List Trm) : ∀ (cs : List E) (tabs : List (List E)) (i : Nat) (g : List E), (prvR tabs ps cs)[i]? = some g → g.length = degE ps + 1
  | [], tabs, i, g, h => by simp [prvR] at h
  | c :: cs, tabs, 0, g, h => by
    rw [prvR, List.getElem?_cons_zero, Option.some.injEq] at h
    rw [← h]; simp [rndE]
  | c :: cs, tabs, i + 1, g, h => by
    rw [prvR, List.getElem?_cons_succ] at h
    exact prvR_row32 ps cs _ i g h
theorem prvM_get (plain m : List (List E)) (rho : E) (co : List E) (i : Nat) (p : List E) (hi : i < m.length) (hp : plain[i]? = some p) : (prvM plain m rho co)[i]? = some (linR p rho (mrow m co i)) := by
  simp [prvM, hi, List.getD, hp]
theorem mrow_get (m : List (List E)) (co : List E) (i x : Nat) (v : E) (hv : (m.getD i [])[x]? = some v) : (mrow m co i)[x]? = some (mskE m co i v) := by
  unfold mrow
  rw [List.getElem?_map, hv]; rfl
theorem en_attestor_attestorref32_Prove : ∀ args w, (callFunc 15 args).run Tryz.prog w = .ok (.enter 15 args) w := enters_of Tryz.func15 (by kernel_rfl) rfl
attribute [local irreducible] wpRg
set_option maxRecDepth 100000 in
set_option maxHeartbeats 8000000 in
theorem rProveM (tabs : List (List E)) (ps : List Trm) (m : List (List E)) (rho : E) (co : List E) (n : Nat) (hc : co.length = n) (hn : n ≤ 9) (hall : AllLen tabs (2 ^ n)) (h0 : 0 < tabs.length) (hl : tabs.length ≤ 1000) (hm : m.length = n) (hr : ∀ g ∈ m, g.length = degE ps + 1) (hd : degE ps ≤ 3)
    (AC : Option Addr) (capC : Nat) (vt vp vm : Value) (lo hi lo2 hi2 lo3 hi3 : Nat) (w : World) (h : SumS lo hi w vt vp tabs ps) (hmm : TabS lo2 hi2 w vm m) (hcs : ExtS lo3 hi3 w (.slice AC n capC) co) :
    Calls Tryz.prog 15 #[sv vt vp, vm, .agg #[.int .u64 (fv rho.a), .int .u64 (fv rho.b), .slice AC n capC]] w (PrvM w (prvM (prvR tabs ps co) m rho co) (prvV tabs co) · ·) := by
  obtain ⟨i1, hi1, jz0, jz1, jz2⟩ := info_parts ext_info
  have HPr := Lib.hid (show ∀ W, Below w.heap.size w W → Calls Tryz.prog 55 #[sv vt vp, .slice AC n capC] W (PrvR W (prvR tabs ps co) (prvV tabs co) · ·) from fun W hW => rProve tabs ps co n hc hn hall h0 hl vt vp (.slice AC n capC) lo hi lo3 hi3 W (h.keep hW) (Rd.keep hcs hW))
  obtain ⟨AM, cM, hv⟩ := hmm.len
  rw [hm] at hv
  subst hv
  obtain ⟨R, hR⟩ : ∃ R, R = prvM (prvR tabs ps co) m rho co := ⟨_, rfl⟩
  obtain ⟨plain, hpl⟩ : ∃ P, P = prvR tabs ps co := ⟨_, rfl⟩
  have HPl := Lib.hid (show plain.length = n by rw [hpl, prvR_length, hc])
  have hmD : ∀ i, i < m.length → 2 ≤ (m.getD i []).length ∧ (m.getD i []).length ≤ 4 := fun i hi => by
    rw [show m.getD i [] = m[i] by simp [List.getD, hi], hr _ (List.getElem_mem _)]
    have := degE_pos ps
    omega
  obtain ⟨D, hD⟩ : ∃ D, D = degE ps := ⟨_, rfl⟩
  have HPd := Lib.hid (show ∀ (i : Nat) g, plain[i]? = some g → g.length = D + 1 from fun i g hg => by
    rw [hpl] at hg
    rw [hD]
    exact prvR_row32 ps co tabs i g hg)
  rw [← hD] at hr hd
  have HR1 := Lib.hid (show ∀ (i : Nat) (p : List E), i < n → plain[i]? = some p → R[i]? = some (linR p rho (mrow m co i)) from fun i p hi hp => by rw [hR, ← hpl]; exact prvM_get _ _ _ _ _ _ (by rw [hm]; exact hi) hp)
  have HRl := Lib.hid (show R.length = n by rw [hR, prvM_length, hm])
  have HMr := Lib.hid (show ∀ i, i < n → (mrow m co i).length = D + 1 from fun i hi => by rw [mrow_length, show m.getD i [] = m[i]'(by rw [hm]; exact hi) by simp [List.getD, hm, hi], hr _ (List.getElem_mem _)])
  have HRs := Lib.hid (show ∀ (i x : Nat), i < n → x < D + 1 → ∃ y, (mrow m co i)[x]? = some y ∧ ∀ W v lo hi, Below w.heap.size w W → ExtS lo hi W v (co.take i ++ [nodeE x]) → Calls Tryz.prog 58 #[.slice AM n cM, v] W (Ret (ev y) W) from fun i x hi hx => by
    obtain ⟨v, hv⟩ : ∃ v, (m.getD i [])[x]? = some v := ⟨_, List.getElem?_eq_getElem (by rw [show m.getD i [] = m[i]'(by rw [hm]; exact hi) by simp [List.getD, hm, hi], hr _ (List.getElem_mem _)]; exact hx)⟩
    refine ⟨_, mrow_get m co i x v hv, fun W u lo' hi' hW hE => ?_⟩
    rw [← rest_msk m co i x v (by rw [hm]; exact hi) (by omega) hmD hv]
    exact rRest m _ (by rw [List.length_append, List.length_take, hm]; simp; omega) (by omega) (fun g hg => by rw [hr g hg]; omega) _ _ _ _ _ _ W (hmm.keep hW) hE)
  have HC := Lib.hid hcs
  have HCl := Lib.hid hc
  rw [← hR]
  rw [← hpl] at HPr
  generalize prvV tabs co = vals at *
  obtain ⟨AP, cP, rfl⟩ := h.hp.len
  obtain ⟨AT, cT, rfl⟩ := h.ht.len
  clear hR hpl hmD hr h hmm hcs hc hall hm hD
  generalize ps.length = pl at *
  generalize tabs.length = tl at *
  unfold sv at *
  go_enter Tryz.func15, Tryz.ntmps15
  go_upto_region 1 with (fail)
  refine wp_stk2 fun W hB hz b3 b5 => ?_
  clear hz
  have e3 := b3.cell
  have e5 := b5.cell
  go_wp2_with fail
  refine (HPr.out W hB).mono ?_
  rintro e w2 ⟨v1, v2, rfl, hT, hV, hb2⟩
  obtain ⟨AV, cV, rfl⟩ := Rd.len hV
  obtain ⟨AR, cR, hv⟩ := hT.len
  rw [HPl.out] at hv
  subst hv
  replace b5 := b5.keep hb2
  have h2 := hB.trans (hb2.mono hB.size)
  have hWs := hB.size
  have HT := Lib.hid (show TabS w.heap.size w2.heap.size w2 (.slice AR n cR) plain from hT.wide hB.size (Nat.le_refl _))
  have HV := Lib.hid (show ExtS w.heap.size w2.heap.size w2 (.slice AV vals.length cV) vals from Rd.wide hV hB.size (Nat.le_refl _))
  clear e3 e5 b3 HPr hT hV
  go_wp2_with fail
  go_loopw [10, 11] (fun u i wr => ∃ k : Nat, k ≤ n ∧ i = .int .i64 k ∧ RowT w2.heap.size wr u (R.take k) ∧ Below w2.heap.size w2 wr) (fun _ i _ => n - (intOf i).toNat)
  case atStart => exact ⟨0, Nat.zero_le _, rfl, ⟨[], ⟨rfl, .inr ⟨w2.heap.size, 0, #[], rfl, Nat.le_refl _, World.alloc_heap_new w2 _, Nat.le_refl _, Nat.zero_le _, rfl, by simp⟩⟩, rfl, fun k x t h => by simp at h⟩, (Below.refl _ _).alloc (Nat.le_refl _) _⟩
  case round =>
    obtain ⟨i, hii, rfl, hrow, hBr⟩ := hrel
    obtain ⟨V, hV⟩ : ∃ V, V = wr := ⟨_, rfl⟩
    subst hV
    have hVs := hBr.size
    by_cases hlt : i < n
    · obtain ⟨g, off, cap', hv, -, -, -, lg, qg⟩ := tabs_cells HT.out (by rw [HPl.out]; omega)
      rw [HPl.out] at hv
      cases hv
      obtain ⟨p, hp⟩ : ∃ g, plain[i]? = some g := ⟨_, List.getElem?_eq_getElem (by rw [HPl.out]; exact hlt)⟩
      obtain ⟨A1, c1, d1, x1⟩ := qg i p hp
      have hpD := HPd.out i p hp
      rw [hpD] at d1
      unfold ExtS at x1
      rw [hpD] at x1
      have HRi := Lib.hid (HR1.out i p hlt hp)
      have HRx := Lib.hid (fun x hx => HRs.out i x hlt hx)
      have HMl := Lib.hid (HMr.out i hlt)
      obtain ⟨g1, o1, c1', hv, -, -, -, l1, q1⟩ := Rd.form x1 (by omega)
      cases hv
      have Q1 := Lib.hid q1
      have HpD := Lib.hid hpD
      generalize mrow m co i = mr at *
      have HLl := Lib.hid (show (linR p rho mr).length = D + 1 by rw [linR_length, HMl.out])
      have HLx := Lib.hid (show ∀ (t : Nat) (a b : E), p[t]? = some a → mr[t]? = some b → ((linR p rho mr).take (t + 1)).flatMap ec = ((linR p rho mr).take t).flatMap ec ++ ec (a + rho * b) from fun t a b ha hb => by
        obtain ⟨ht, hbe⟩ := List.getElem?_eq_some_iff.1 hb
        have h1 : (linR p rho mr)[t]? = some (a + rho * b) := by simp [linR, ht, List.getD, ha, hbe]
        rw [List.take_add_one, h1]
        simp)
      have HRk := Lib.hid (show R.take (i + 1) = R.take i ++ [linR p rho mr] by rw [List.take_add_one, HRi.out]; rfl)
      generalize linR p rho mr = rw0 at *
      have hwV := h2.trans (hBr.mono h2.size)
      have b5V := b5.keep hBr
      have e1 := (hBr.cell (p := ⟨g, off + i, none⟩) lg).trans d1
      clear qg hp q1 hpD x1
      go_wp2_with fail
      go_loopw [12, 13] (fun v t wi => ∃ k : Nat, k ≤ D + 1 ∧ t = .int .i64 k ∧ wi.ownsRow V.heap.size 30 2 v k ((rw0.take k).flatMap ec) ∧ Below V.heap.size V wi) (fun _ t _ => D + 1 - (intOf t).toNat)
      case atStart => exact ⟨0, Nat.zero_le _, rfl, ⟨by simp, .inr ⟨V.heap.size, 0, #[], rfl, Nat.le_refl _, World.alloc_heap_new V _, Nat.le_refl _, Nat.zero_le _, rfl, by simp⟩⟩, (Below.refl _ _).alloc (Nat.le_refl _) _⟩
      case round =>
        obtain ⟨t, ht, rfl, hown, hBy⟩ := hrel
        obtain ⟨U, hU⟩ : ∃ U, U = wr := ⟨_, rfl⟩
        subst hU
        have hsy := hBy.size
        have hUw := hwV.trans (hBy.mono hwV.size)
        have hU2 := hBr.trans (hBy.mono hVs)
        have e1 := (hU2.cell (p := ⟨g, off + i, none⟩) lg).trans d1
        obtain ⟨Av, cv, rfl⟩ := own_len hown
        by_cases hltj : t < D + 1
        · obtain ⟨y, hy, hRest⟩ := HRx.out t hltj
          obtain ⟨a, ha, -⟩ := get_of (l := p) (k := t) (by rw [HpD.out]; exact hltj)
          have y1 := Q1.out (t * 2) _ (by simpa using flat_get ec_len p t 0 a _ ha rfl)
          have y2 := Q1.out (t * 2 + 1) _ (flat_get ec_len p t 1 a _ ha rfl)
          have HX := Lib.hid (HLx.out t a y ha hy)
          have HR := Lib.hid hRest
          have hEt := exts_take (show ExtS lo3 hi3 w (.slice AC n capC) co from HC.out) (k := i) (by rw [HCl.out]; omega)
          have htl : (co.take i).length = i := by rw [List.length_take, HCl.out]; omega
          unfold ExtS at hEt
          rw [htl] at hEt
          have HEt := Lib.hid hEt
          have hcap : i ≤ capC := by
            obtain ⟨A', c', hv, h2, -⟩ := (show ExtS lo3 hi3 w (.slice AC n capC) co from HC.out).2.2
            cases hv
            rw [HCl.out] at h2
            omega
          have b5U := b5V.keep hBy
          have e5 := b5U.cell
          have al : Below U.heap.size U (U.alloc (.cells #[] 30)) := (Below.refl _ _).alloc (Nat.le_refl _) _
          have e5' := (b5U.keep al).cell
          clear ha hy hRest hEt htl e5
          go_wp2_with (at_builtin; refine wpList_appB rfl _ _ rfl Tryz.underlying22 hi1 jz0 jz1 jz2 rfl (by decide) (cl := (co.take i).flatMap ec) (base := U.heap.size) (cs := []) (k := 0) (fun u hu => by obtain ⟨x, _, hx⟩ := List.mem_flatMap.1 hu; exact ec_one x u hx) rfl rfl (Rd.keep HEt.out (hUw.trans (al.mono hUw.size))) ⟨rfl, .inr ⟨U.heap.size, 0, #[], rfl, Nat.le_refl _, World.alloc_heap_new U _, Nat.le_refl _, Nat.zero_le _, rfl, rfl⟩⟩ (by unfold maxLen; omega) (by omega) (by simp) ?_)
          intro v3 w4 hown4 hgrow4 hB4
          try rw [Nat.zero_add, List.nil_append] at hown4
          obtain ⟨A4, c4, rfl⟩ := own_len hown4
          have h4 : Below U.heap.size U w4 := al.trans hB4
          have hs4 := h4.size
          clear hgrow4 hB4 e5'
          go_wp2_with fail
          refine (xFromInt (t : Int) (by omega) (by omega) w4).mono ?_
          rintro e w5 ⟨rfl, hb5⟩
          rw [show eb (fz (t : Int)) = nodeE t from rfl]
          generalize hnd : nodeE t = nd at *
          unfold ev
          have hown5 := own_below hown4 (Nat.le_refl _) hb5
          have hs5 := hb5.size
          have h5 := h4.trans (hb5.mono hs4)
          have al5 : Below w5.heap.size w5 (w5.alloc (.cells #[.int .u64 (fv nd.a), .int .u64 (fv nd.b)] 30)) := (Below.refl _ _).alloc (Nat.le_refl _) _
          clear hown4
          go_wp2_with (at_builtin; refine wpList_app1 rfl _ _ rfl Tryz.underlying22 hi1 jz0 jz1 jz2 rfl (by decide) (cl := ec nd) rfl (ec_one _) rfl rfl (own_below hown5 (Nat.le_refl _) ?hX) ?hsrc ?h63 ?hby ?hbase ?_)
          case hX => exact al5
          case hsrc => exact Blk.new_at _ _ _ (by simp)
          case h63 => unfold maxLen; omega
          case hby => omega
          case hbase => simp; omega
          intro v6 w6 hown6 hgrow6 hB6
          obtain ⟨A6, c6, rfl⟩ := own_len hown6
          have h6 : Below U.heap.size U w6 := (h5.trans (al5.mono h5.size)).trans hB6
          have hs6 := h6.size
          have hE6 : ExtS U.heap.size w6.heap.size w6 (.slice A6 (i + 1) c6) (co.take i ++ [nd]) := by
            have hl : (co.take i ++ [nd]).length = i + 1 := by rw [List.length_append, List.length_take, HCl.out]; simp; omega
            unfold ExtS
            rw [hl, List.flatMap_append, show ([nd] : List E).flatMap ec = ec nd by simp]
            exact Rd.of_own hown6 (by omega) (Nat.le_refl _)
          have hw6 := hUw.trans (h6.mono hUw.size)
          have HRc := Lib.hid (show ∀ W1, Below w6.heap.size w6 W1 → Calls Tryz.prog 58 #[.slice AM n cM, .slice A6 (i + 1) c6] W1 (Ret (ev y) W1) from fun W1 hW => HR.out W1 _ _ _ (hw6.trans (hW.mono hw6.size)) (Rd.keep hE6 hW))
          have h62 := hU2.trans (h6.mono hU2.size)
          have hown6' := own_below hown (Nat.le_refl _) h6
          have f1 := gw_cell (Nat.lt_of_lt_of_le lg h62.size) ((h62.cell (p := ⟨g, off + i, none⟩) lg).trans d1)
          have f2 := gw_cell (Nat.lt_of_lt_of_le l1 h62.size) ((h62.cell (p := ⟨g1, o1 + t * 2, none⟩) l1).trans y1)
          have f3 := gw_cell (Nat.lt_of_lt_of_le l1 h62.size) ((h62.cell (p := ⟨g1, o1 + (t * 2 + 1), none⟩) l1).trans y2)
          rw [← Nat.add_assoc] at f3
          have f4 := gw_blk (b5U.keep h6)
          have hV6 := hBy.trans (h6.mono hsy)
          clear y1 y2 hown6 hgrow6 hB6 hE6 hown5 hown e1
          go_wp2_with fail
          refine wp_region_rg 16 [(12, Spec.val (.agg #[.int .u64 (fv (y).a), .int .u64 (fv (y).b)])), (13, Spec.val (.agg #[.int .u64 (fv ((rho * y)).a), .int .u64 (fv ((rho * y)).b)])), (14, Spec.val (.agg #[.int .u64 (fv ((a + rho * y)).a), .int .u64 (fv ((a + rho * y)).b)])), (15, Spec.rel (Lit 30 1 #[.int .u64 (fv (a + rho * y).a), .int .u64 (fv (a + rho * y).b)]) (LitF 1))] (by kernel_rfl) (by kernel_rfl) (by kernel_rfl) ⟨fit_lit, trivial⟩ ?_
          refine rg_det rfl rfl rfl (fun K hK => ?_)
          go_big_quiet_op
          refine hK _ ?_; clear hK K
          refine rg_det rfl rfl rfl (fun K hK => ?_)
          go_big_quiet_op
          refine hK _ ?_; clear hK K
          refine rg_det rfl rfl rfl (fun K hK => ?_)
          go_big_quiet_op
          refine hK _ ?_; clear hK K
          refine rg_det rfl rfl rfl (fun K hK => ?_)
          go_big_quiet_op
          refine hK _ ?_; clear hK K
          refine rg_det rfl rfl rfl (fun K hK => ?_)
          go_big_quiet_op
          refine hK _ ?_; clear hK K
          refine rg_det rfl rfl rfl (fun K hK => ?_)
          go_big_quiet_op
          refine hK _ ?_; clear hK K
          refine rg_det rfl rfl rfl (fun K hK => ?_)
          go_big_quiet_op
          refine hK _ ?_; clear hK K
          refine rg_det rfl rfl rfl (fun K hK => ?_)
          go_big_quiet_op
          refine hK _ ?_; clear hK K
          refine rg_det rfl rfl rfl (fun K hK => ?_)
          go_big_quiet_op
          refine hK _ ?_; clear hK K
          refine rg_det rfl rfl rfl (fun K hK => ?_)
          go_big_quiet_op
          refine hK _ ?_; clear hK K
          refine rg_det rfl rfl rfl (fun K hK => ?_)
          go_big_quiet_op
          refine hK _ ?_; clear hK K
          refine rg_det rfl rfl rfl (fun K hK => ?_)
          go_big_quiet_op
          refine hK _ ?_; clear hK K
          refine rg_val rfl rfl (fun W1 hW1 hF => step_callv en_attestor_attestorref32_rest (HRc.out W1 (grw_below hW1)) rfl rfl) ?_
          intro a' ha
          simp only [Act.put, List.setIfInBounds_toArray, List.set_cons_succ, List.set_cons_zero] at ha
          subst ha
          refine rg_val rfl rfl (fun W1 hW1 hF => step_callv en_attestor_attestorref02_Mul (xMul rho y W1) rfl rfl) ?_
          intro a' ha
          simp only [Act.put, List.setIfInBounds_toArray, List.set_cons_succ, List.set_cons_zero] at ha
          subst ha
          refine rg_val rfl rfl (fun W1 hW1 hF => step_callv en_attestor_attestorref02_Add (xAdd a (rho * y) W1) rfl rfl) ?_
          intro a' ha
          simp only [Act.put, List.setIfInBounds_toArray, List.set_cons_succ, List.set_cons_zero] at ha
          subst ha
          refine rg_rel rfl rfl (fun W1 hW1 hF => step_lit1 Tryz.underlying22 hi1 jz0 jz1 (by decide) (by decide) rfl rfl rfl) ?_
          intro n15 m15 v15 hn15 hm15 hd15 hf15 a' ha
          simp only [Act.put, List.setIfInBounds_toArray, List.set_cons_succ, List.set_cons_zero] at ha
          subst ha
          obtain rfl := hf15
          refine rg_nil (fun w' hw' hF => ?_)
          obtain ⟨z, rfl⟩ := hw'
          simp only [List.drop_succ_cons, List.drop_zero]
          obtain ⟨hm15', -, hl15, b15⟩ := end_last hF
          have hO2 := own_below hown6' (Nat.le_refl _) z.h
          have hzs := z.h.size
          have hVz := hV6.trans (z.h.mono hV6.size)
          clear hF f1 f2 f3 f4 hd15
          go_wp2_with (at_builtin; refine wpList_app1 rfl _ _ rfl Tryz.underlying22 hi1 jz0 jz1 jz2 rfl (by decide) (cl := ec (a + rho * y)) rfl (ec_one _) rfl rfl hO2 b15 ?h63 ?hby ?hbase ?_)
          case h63 => unfold maxLen; omega
          case hby => omega
          case hbase => omega
          intro v1 w7 hown7 hgrow hB7
          rw [← HX.out] at hown7
          clear hgrow hO2 b15
          go_wp2_with fail
          exact ⟨⟨t + 1, by omega, by go_num, hown7, hVz.trans hB7⟩, by simp [intOf]; omega⟩
        · obtain rfl : t = D + 1 := by omega
          have hown' := hown
          rw [List.take_of_length_le (by rw [HLl.out]; exact Nat.le_refl _)] at hown'
          obtain ⟨A7, c7, hv⟩ := hrow.len'
          rw [List.length_take, HRl.out, Nat.min_eq_left hii] at hv
          subst hv
          have hE : ExtS V.heap.size U.heap.size U (.slice Av (D + 1) cv) rw0 := by
            unfold ExtS
            rw [HLl.out]
            exact Rd.of_own hown' (by omega) (Nat.le_refl _)
          have al : Below U.heap.size U (U.alloc (.cells #[.slice Av (D + 1) cv] 22)) := (Below.refl _ _).alloc (Nat.le_refl _) _
          have hXU := hBy.trans (al.mono hsy)
          have hrU := hrow.keep hXU
          go_wp2_with (at_builtin; refine wpList_appT (x := .slice Av (D + 1) cv) (y := rw0) (lo := V.heap.size) (hi := U.heap.size) (base := w2.heap.size) (ts := R.take i) rfl _ _ rfl Tryz.underlying37 rfl rfl ?hrow ?hsrc rfl ?hE ?hlo ?hhi ?hout ?hk ?hbase ?_)
          case hrow => exact hrU
          case hsrc => exact Blk.new_at _ _ _ rfl
          case hE => exact Rd.keep hE al
          case hlo => omega
          case hhi => simp
          case hout => exact hrow.out (Nat.le_refl _)
          case hk => rw [List.length_take]; omega
          case hbase => simp; omega
          intro u' w3 hrow3 hB3 hg3 hob3
          go_wp2_with fail
          exact ⟨⟨i + 1, by omega, by go_num, by rw [HRk.out]; exact hrow3, (hBr.trans (hXU.mono hVs)).trans hB3⟩, by simp [intOf]; omega⟩
    · obtain rfl : i = n := by omega
      rw [List.take_of_length_le (by rw [HRl.out]; exact Nat.le_refl _)] at hrow
      go_wp2_with fail
      go_ret2
      refine ⟨_, _, rfl, (hrow.tabs (by rw [HRl.out]; omega)).wide h2.size (Nat.le_refl _), ?_, h2.trans (hBr.mono h2.size)⟩
      exact Rd.wide (Rd.keep HV.out hBr) (Nat.le_refl _) hVs
end Go.Proofs.YtnddfeidggcplaaGreat
namespace Go.Proofs.YtnddfeidggcplaaGreat
open Go.RowKit

theorem xp_sum (x : E) (a : Nat) : ∀ b, xp x (a + b) = xp x a * xp x b
  | 0 => (E.mul_one _).symm
  | b + 1 => by
    show x * xp x (a + b) = xp x a * (x * xp x b)
    rw [xp_sum x a b, ← E.mul_assoc, ← E.mul_assoc, E.mul_comm x]
theorem xp_bit (x : E) (k t : Nat) : xp x (k / 2 ^ t) = if k / 2 ^ t % 2 = 1 then xp x (k / 2 ^ (t + 1)) * xp x (k / 2 ^ (t + 1)) * x else xp x (k / 2 ^ (t + 1)) * xp x (k / 2 ^ (t + 1)) := by
  have e : k / 2 ^ (t + 1) = k / 2 ^ t / 2 := by rw [Nat.pow_succ, Nat.div_div_eq_div_mul]
  rw [e]
  generalize k / 2 ^ t = q
  rw [← xp_sum]
  split
  · have : q = q / 2 + q / 2 + 1 := by omega
    conv => lhs; rw [this]
    exact E.mul_comm _ _
  · have : q = q / 2 + q / 2 := by omega
    conv => lhs; rw [this]
theorem en_attestor_attestorref02_Pow : ∀ args w, (callFunc 65 args).run Tryz.prog w = .ok (.enter 65 args) w := enters_of Tryz.func65 (by kernel_rfl) rfl
set_option maxRecDepth 100000 in
set_option maxHeartbeats 2000000 in
theorem xPow (x : E) (k : Nat) (hk : k < 18446744073709551616) (w : World) : Calls Tryz.prog 65 #[ev x, .int .u64 (k : Int)] w (Ret (ev (xp x k)) w) := by
  unfold ev
  go_enter Tryz.func65, Tryz.ntmps65
  go_upto_region 1 with (fail)
  refine wp_stk2 fun W hB hz b2 b4 => ?_
  have hWs := hz.out
  go_wp2_with fail
  refine (xOne W).mono ?_
  rintro e w2 ⟨rfl, hb2⟩
  unfold ev
  replace b2 := b2.keep hb2
  replace b4 := b4.keep hb2
  have h2 := hB.trans (hb2.mono hB.size)
  have hs2 := hb2.size
  have hk0 : xp x (k / 2 ^ 64) = 1 := by rw [show k / 2 ^ 64 = 0 by omega]; rfl
  go_upto_region 2 with (fail)
  refine wp_stk1 fun V hV hzV b5 => ?_
  obtain ⟨g5, hg5⟩ : ∃ g, g = w2.heap.size := ⟨_, rfl⟩
  rw [← hg5] at b5 ⊢
  have b5' : Blk V g5 30 #[.int .u64 (fv (xp x (k / 2 ^ 64)).a), .int .u64 (fv (xp x (k / 2 ^ 64)).b)] := by rw [hk0]; exact b5
  replace b2 := b2.keep hV
  replace b4 := b4.keep hV
  have hV2 := h2.trans (hV.mono h2.size)
  have hg5' : w2.heap.size ≤ g5 := by omega
  clear hz hzV hk0 b5 hV hB hb2 hg5
  go_wp2_with fail
  go_loopw [6] (fun i wr => ∃ (j : Nat) (z : Int), j ≤ 64 ∧ z = (j : Int) - 1 ∧ i = .int .i64 z ∧ Blk wr g5 30 #[.int .u64 (fv (xp x (k / 2 ^ j)).a), .int .u64 (fv (xp x (k / 2 ^ j)).b)] ∧ Blk wr w.heap.size 30 #[.int .u64 (fv x.a), .int .u64 (fv x.b)] ∧ Blk wr (w.heap.size + 1) 30 #[.int .u64 0, .int .u64 0] ∧ Below w.heap.size w wr) (fun i _ => (intOf i + 1).toNat)
  case atStart => exact ⟨64, 63, by decide, rfl, rfl, b5', b2, b4, hV2⟩
  case round =>
    obtain ⟨j, z, hj, hz, rfl, b5, b2, b4, hBr⟩ := hrel
    by_cases hj0 : j = 0
    · subst hj0
      obtain rfl : z = -1 := by omega
      clear hz
      rw [show k / 2 ^ 0 = k by simp] at b5
      have e5 := b5.cell
      have e4 := b4.frozen
      have e4' := b4.cell
      generalize xp x k = y at *
      have hge : ¬ ((0 : Int) ≤ -1) := by decide
      clear hk
      go_wp2_with fail
      refine bodyPost_ret (v := .agg #[.int .u64 (fv (y).a), .int .u64 (fv (y).b)]) (by simp [results, Tryz.results65, go_sem, e4']) rfl ⟨rfl, below_set2 hBr (by omega)⟩
    · obtain ⟨t, rfl⟩ : ∃ t, j = t + 1 := ⟨j - 1, by omega⟩
      obtain rfl : z = (t : Int) := by omega
      clear hz
      have hbit := Lib.hid (xp_bit x k t)
      have hdv : k / 2 ^ t < 18446744073709551616 := Nat.lt_of_le_of_lt (Nat.div_le_self _ _) hk
      have hand := and_one (k / 2 ^ t) hdv
      rw [show (((k / 2 ^ t : Nat)) : Int) = (k : Int) / 2 ^ t by simp] at hand
      have e5 := b5.cell
      generalize xp x (k / 2 ^ (t + 1)) = y at *
      generalize hyn : xp x (k / 2 ^ t) = yn at *
      have HY := Lib.hid hyn
      have HK := Lib.hid hk
      have hge : (0 : Int) ≤ (t : Int) := by omega
      clear hyn hdv hk
      go_wp2_with fail
      refine (xMul y y wr).mono ?_
      rintro e w5 ⟨he, hb5⟩
      unfold ev at he
      subst he
      replace b5 := b5.keep hb5
      replace b2 := b2.keep hb5
      replace b4 := b4.keep hb5
      replace hBr := hBr.trans (hb5.mono hBr.size)
      clear e5 hb5
      have e5 := b5.cell
      have e5f := b5.frozen
      go_upto_region 6 with (fail)
      refine set2 (M := fun W => Code.wp _ _ _ _ W) b5 fun X hX bX => ?_
      replace b2 := hX.blk b2 (by omega)
      replace b4 := hX.blk b4 (by omega)
      replace hBr := below_put hBr hX (by omega)
      clear b5 e5 e5f hX
      have b5 : Blk X g5 30 #[.int .u64 (fv (y * y).a), .int .u64 (fv (y * y).b)] := bX
      clear bX
      by_cases hb : k / 2 ^ t % 2 = 1
      · rw [decide_eq_true hb] at hand
        have HB := Lib.hid (show yn = y * y * x by rw [hbit.out, if_pos hb])
        clear hb
        generalize y * y = yy at *
        have e5 := b5.cell
        have e2 := b2.cell
        go_wp2_with fail
        refine (xMul yy x X).mono ?_
        rintro e w6 ⟨he, hb6⟩
        unfold ev at he
        subst he
        replace b5 := b5.keep hb6
        replace b2 := b2.keep hb6
        replace b4 := b4.keep hb6
        replace hBr := hBr.trans (hb6.mono hBr.size)
        clear e5 e2 hb6
        have e5 := b5.cell
        have e5f := b5.frozen
        go_upto_region 4 with (fail)
        refine set2 (M := fun W => Code.wp _ _ _ _ W) b5 fun X3 hX bX => ?_
        replace b2 := hX.blk b2 (by omega)
        replace b4 := hX.blk b4 (by omega)
        replace hBr := below_put hBr hX (by omega)
        clear b5 e5 e5f hX
        have b5 : Blk X3 g5 30 #[.int .u64 (fv yn.a), .int .u64 (fv yn.b)] := by rw [HB.out]; exact bX
        go_wp2_with fail
        exact ⟨⟨t, (t : Int) - 1, by omega, rfl, by go_num, by rw [HY.out]; exact b5, b2, b4, hBr⟩, by simp [intOf]⟩
      · rw [decide_eq_false hb] at hand
        have HB := Lib.hid (show yn = y * y by rw [hbit.out, if_neg hb])
        clear hb
        go_wp2_with fail
        exact ⟨⟨t, (t : Int) - 1, by omega, rfl, by go_num, by rw [HY.out, HB.out]; exact b5, b2, b4, hBr⟩, by simp [intOf]⟩
set_option maxRecDepth 100000 in
set_option maxHeartbeats 1000000 in
theorem xInv0 (w : World) : Calls Tryz.prog 49 #[ev 0] w (Ret (.tuple #[ev 0, .int .i64 3]) w) := by
  have HZ := Lib.hid (show ∀ W1, Calls Tryz.prog 88 #[ev 0] W1 (Ret (.bool true) W1) from fun W1 => by
    have := xIsZero 0 W1
    rwa [decide_eq_true rfl] at this)
  have e0 : fv (0 : E).a = 0 := fv0
  have e1 : fv (0 : E).b = 0 := fv0
  unfold ev at *
  rw [e0, e1] at *
  clear e0 e1
  go_enter Tryz.func49, Tryz.ntmps49
  go_wp2_with fail
  refine calls_stk2 fun W hB hz b1 b2 => ?_
  refine (HZ.out _).mono ?_
  rintro e w2 ⟨rfl, hb⟩
  replace b1 := b1.keep hb
  replace b2 := b2.keep hb
  replace hB := hB.trans (hb.mono hB.size)
  have e2 := b2.cell
  have e2f := b2.frozen
  go_wp2_with fail
  refine bodyPost_ret (v := .tuple #[.agg #[.int .u64 0, .int .u64 0], .int .i64 3]) (by simp [results, Tryz.results49, go_sem, e2]) rfl ⟨rfl, below_set2 hB (by omega)⟩
end Go.Proofs.YtnddfeidggcplaaGreat
namespace Go.Proofs.YtnddfeidggcplaaGreat
open Go.RowKit

theorem en_attestor_attestorref32_Explain : ∀ args w, (callFunc 17 args).run Tryz.prog w = .ok (.enter 17 args) w := enters_of Tryz.func17 (by kernel_rfl) rfl
theorem scale_eq (r P x : E) : r * P * x = r * x * P := by rw [E.mul_assoc, E.mul_comm P, ← E.mul_assoc]
theorem own_slice {w : World} {base n size : Nat} {e : TypeId} {v : Value} {xs : List Value} (h : w.ownsRow base e size v n xs) : ∃ A c, v = .slice A n c := own_lenX h
attribute [local irreducible] wpRg
set_option maxRecDepth 100000 in
set_option maxHeartbeats 8000000 in
theorem rExplain (tabs : List (List E)) (ps : List Trm) (rs : List (List E)) (rho : E) (co : List E) (n : Nat) (hc : co.length = n) (hn : n ≤ 9) (hall : AllLen tabs (2 ^ n)) (h0 : 0 < tabs.length) (hl : tabs.length ≤ 1000) (hd : degE ps ≤ 900) (hgl : rs.length ≤ 1000)
    (AC : Option Addr) (capC : Nat) (vt vp vr : Value) (lo hi lo2 hi2 lo3 hi3 : Nat) (w : World) (h : SumS lo hi w vt vp tabs ps) (hrr : TabS lo2 hi2 w vr rs) (hcs : ExtS lo3 hi3 w (.slice AC n capC) co) :
    Calls Tryz.prog 17 #[sv vt vp, vr, .agg #[.int .u64 (fv rho.a), .int .u64 (fv rho.b), .slice AC n capC]] w (ExpR w (explE (prvR tabs ps co) rs rho co n (degE ps)) · ·) := by
  obtain ⟨i1, hi1, jz0, jz1, jz2⟩ := info_parts ext_info
  have HPr := Lib.hid (show ∀ W, Below w.heap.size w W → Calls Tryz.prog 55 #[sv vt vp, .slice AC n capC] W (PrvR W (prvR tabs ps co) (prvV tabs co) · ·) from fun W hW => rProve tabs ps co n hc hn hall h0 hl vt vp (.slice AC n capC) lo hi lo3 hi3 W (h.keep hW) (Rd.keep hcs hW))
  have HLog := Lib.hid (show ∀ W, Below w.heap.size w W → Calls Tryz.prog 52 #[sv vt vp] W (Ret (.int .i64 (n : Nat)) W) from fun W hW => rLog tabs n (by omega) hall h0 vt vp lo hi W (h.ht.keep hW) ⟨_, _, _, (h.hp.len).choose_spec.choose_spec⟩)
  have HDeg := Lib.hid (show ∀ W, Below w.heap.size w W → Calls Tryz.prog 19 #[sv vt vp] W (Ret (.int .i64 (degE ps : Nat)) W) from fun W hW => rDegree vt vp ps lo hi W (h.hp.keep hW) h.short)
  obtain ⟨F, hF⟩ : ∃ F, F = explE (prvR tabs ps co) rs rho co n (degE ps) := ⟨_, rfl⟩
  rw [← hF]
  have HF := Lib.hid hF
  clear hF
  obtain ⟨plain, hpl⟩ : ∃ P, P = prvR tabs ps co := ⟨_, rfl⟩
  have HPl := Lib.hid (show plain.length = n by rw [hpl, prvR_length, hc])
  obtain ⟨D, hD⟩ : ∃ D, D = degE ps := ⟨_, rfl⟩
  have HPd := Lib.hid (show ∀ (i : Nat) g, plain[i]? = some g → g.length = D + 1 from fun i g hg => by
    rw [hpl] at hg
    rw [hD]
    exact prvR_row32 ps co tabs i g hg)
  rw [← hpl] at HPr HF
  have hD1 : 1 ≤ D := by rw [hD]; exact degE_pos ps
  rw [← hD] at hd HDeg HF
  have HC := Lib.hid hcs
  have HCl := Lib.hid hc
  have HR := Lib.hid hrr
  obtain ⟨AP, cP, rfl⟩ := h.hp.len
  obtain ⟨AT, cT, rfl⟩ := h.ht.len
  obtain ⟨AR, cR, rfl⟩ := hrr.len
  generalize prvV tabs co = vals at *
  obtain ⟨rl, hrl⟩ : ∃ rl, rl = rs.length := ⟨_, rfl⟩
  rw [← hrl] at HR hgl ⊢
  have HRl := Lib.hid hrl
  clear hpl h hrr hcs hc hall hD hrl
  generalize ps.length = pl at *
  generalize tabs.length = tl at *
  have HE1 : Hid (rl ≠ n → F = ([], 1)) := Lib.hid fun hh => by rw [HF.out]; unfold explE; rw [if_pos (.inl (by rw [← HRl.out]; exact hh))]
  have HE3 : Hid (rl = n → rho = 0 → F = ([], 3)) := Lib.hid fun h1 h3 => by rw [HF.out]; unfold explE; rw [if_neg (by rw [← HRl.out, HCl.out]; omega), if_pos h3]
  have HE61 : Hid (rl = n → rho ≠ 0 → rs.any (badLen D) = true → F = ([], 61)) := Lib.hid fun h1 h3 h4 => by rw [HF.out]; unfold explE; rw [if_neg (by rw [← HRl.out, HCl.out]; omega), if_neg h3, if_pos h4]
  have HE60 : Hid (rl = n → rho ≠ 0 → rs.any (badLen D) = false → sumOk rs co = false → F = ([], 60)) := Lib.hid fun h1 h3 h4 h5 => by rw [HF.out]; unfold explE; rw [if_neg (by rw [← HRl.out, HCl.out]; omega), if_neg h3, h4, if_neg (by decide), h5, if_neg (by decide)]
  have HE0 : Hid (rl = n → rho ≠ 0 → rs.any (badLen D) = false → sumOk rs co = true → F = (expK plain rs rho co n n, 0)) := Lib.hid fun h1 h3 h4 h5 => by rw [HF.out]; unfold explE; rw [if_neg (by rw [← HRl.out, HCl.out]; omega), if_neg h3, h4, if_neg (by decide), h5, if_pos rfl]
  clear HF
  unfold sv at *
  go_enter Tryz.func17, Tryz.ntmps17
  go_upto_region 1 with (fail)
  refine wp_stk2 fun W hB hz b3 b5 => ?_
  have hWs := hz.out
  clear hz
  have e3 := b3.cell
  go_wp2_with fail
  refine (HLog.out W hB).mono ?_
  rintro e w1 ⟨rfl, hb1⟩
  have h1 := hB.trans (hb1.mono hB.size)
  replace b3 := b3.keep hb1
  replace b5 := b5.keep hb1
  have hs1 := hb1.size
  clear e3 hB hb1
  have e5 := b5.cell
  by_cases hrn : rl = n
  · subst hrn
    by_cases hrho : rho = 0
    · subst hrho
      go_wp2_with fail
      refine (xInv0 _).mono ?_
      rintro e w2 ⟨rfl, hb2⟩
      unfold ev
      clear e5
      have hx := h1.trans (hb2.mono h1.size)
      have HB3 := Lib.hid (show F = ([], 3) from HE3.out (by first | trivial | rfl) (by first | trivial | rfl))
      go_wp2_with fail
      refine bodyPost_ret (v := .tuple #[nilV, .int .i64 3]) (by simp [nilV, results, Tryz.results17, go_sem]) rfl ⟨nilV, by rw [HB3.out], by rw [HB3.out]; exact nil_tabs _ _ _, hx.alloc hx.size _⟩
    · go_wp2_with fail
      refine (xInv rho hrho _).mono ?_
      rintro e w2 ⟨rfl, hb2⟩
      have HRho := Lib.hid hrho
      generalize hir : einv rho = ir at *
      have HIr := Lib.hid hir
      unfold ev
      clear e5 hir hrho
      have hx2 := h1.trans (hb2.mono h1.size)
      have hs2 := hb2.size
      go_upto_region 5 with (fail)
      refine wp_stk1 fun X hX hzX b9 => ?_
      obtain ⟨g9, hg9⟩ : ∃ g, g = w2.heap.size := ⟨_, rfl⟩
      rw [← hg9] at b9 ⊢
      have hg9a : w2.heap.size ≤ g9 := by omega
      replace b3 := (b3.keep hb2).keep hX
      replace b5 := (b5.keep hb2).keep hX
      have hxX := hx2.trans (hX.mono hx2.size)
      have hsX := hX.size
      have lb9 := b9.lt
      clear hzX hg9 hX hb2 hx2 h1
      go_wp2_with fail
      go_loopw [11] (fun i wr => ∃ k : Nat, k ≤ rl ∧ i = .int .i64 k ∧ (∀ (j : Nat) g, j < k → rs[j]? = some g → g.length = D + 1) ∧ Below X.heap.size X wr) (fun i _ => rl - (intOf i).toNat)
      case atStart => exact ⟨0, Nat.zero_le _, rfl, fun j g h => by omega, Below.refl _ _⟩
      case round =>
        obtain ⟨k, hk, rfl, hgood, hBr⟩ := hrel
        have hxr := hxX.trans (hBr.mono hxX.size)
        by_cases hlt : k < rl
        · obtain ⟨g, off, cap', hv, -, -, -, lg, qg⟩ := tabs_cells HR.out (by rw [← HRl.out]; omega)
          rw [← HRl.out] at hv
          cases hv
          obtain ⟨r, hr⟩ : ∃ g, rs[k]? = some g := ⟨_, List.getElem?_eq_getElem (by rw [← HRl.out]; exact hlt)⟩
          obtain ⟨A1, c1, d1, x1⟩ := qg k r hr
          obtain ⟨L, hL⟩ : ∃ L, L = r.length := ⟨_, rfl⟩
          rw [← hL] at d1
          have hsm := x1.2.1
          rw [← hL] at hsm
          have f1 := gw_cell (Nat.lt_of_lt_of_le lg hxr.size) ((hxr.cell (p := ⟨g, off + k, none⟩) lg).trans d1)
          have f2 := gw_blk (b3.keep hBr)
          have HGd := Lib.hid hgood
          have HRk := Lib.hid hr
          have HLk := Lib.hid hL
          have HDg := Lib.hid (show ∀ W1, Below wr.heap.size wr W1 → Calls Tryz.prog 19 #[.agg #[.slice AT tl cT, .slice AP pl cP]] W1 (Ret (.int .i64 (D : Int)) W1) from fun W1 h => HDeg.out W1 (hxr.trans (h.mono hxr.size)))
          clear hgood hr hL qg d1 x1
          go_wp2_with fail
          refine wp_region_rg 9 [(6, Spec.val (.int .i64 (D : Int)))] (by kernel_rfl) (by kernel_rfl) (by kernel_rfl) trivial ?_
          refine rg_det rfl rfl rfl (fun K hK => ?_)
          go_big_quiet_op
          refine hK _ ?_; clear hK K
          refine rg_det rfl rfl rfl (fun K hK => ?_)
          go_big_quiet_op
          refine hK _ ?_; clear hK K
          refine rg_det rfl rfl rfl (fun K hK => ?_)
          go_big_quiet_op
          refine hK _ ?_; clear hK K
          refine rg_det rfl rfl rfl (fun K hK => ?_)
          go_big_quiet_op
          refine hK _ ?_; clear hK K
          refine rg_det rfl rfl rfl (fun K hK => ?_)
          go_big_quiet_op
          refine hK _ ?_; clear hK K
          refine rg_det rfl rfl rfl (fun K hK => ?_)
          go_big_quiet_op
          refine hK _ ?_; clear hK K
          refine rg_val rfl rfl (fun W1 hW1 hF => step_callv en_attestor_attestorref06_Degree (HDg.out W1 (grw_below hW1)) rfl rfl) ?_
          intro a' ha
          simp only [Act.put, List.setIfInBounds_toArray, List.set_cons_succ, List.set_cons_zero] at ha
          subst ha
          refine rg_det rfl rfl rfl (fun K hK => ?_)
          go_big_quiet_op
          refine hK _ ?_; clear hK K
          refine rg_det rfl rfl rfl (fun K hK => ?_)
          go_big_quiet_op
          refine hK _ ?_; clear hK K
          refine rg_nil (fun w' hw' hF => ?_)
          obtain ⟨z, rfl⟩ := hw'
          simp only [List.drop_succ_cons, List.drop_zero]
          have hxz := hxr.trans (z.h.mono hxr.size)
          clear hF f1 f2 hsm
          have hd' := Lib.hid hd
          clear hd
          by_cases hLD : L = D + 1
          · subst hLD
            rw [show (((D + 1 : Nat) : Int) != (D : Int) + 1) = false by simp]
            go_wp2_with fail
            refine ⟨⟨k + 1, by omega, by go_num, fun j g hj hg => ?_, hBr.trans (z.h.mono hBr.size)⟩, by simp [intOf]; omega⟩
            by_cases hjk : j = k
            · subst hjk
              rw [HRk.out] at hg
              cases hg
              exact HLk.out.symm
            · exact HGd.out j g (by omega) hg
          · rw [show ((L : Int) != (D : Int) + 1) = true by simp; omega]
            have HB := Lib.hid (show F = ([], 61) from HE61.out (by first | trivial | rfl) HRho.out (List.any_eq_true.2 ⟨r, List.mem_of_getElem? HRk.out, by unfold badLen; rw [← HLk.out]; exact decide_eq_true hLD⟩))
            clear hLD
            go_wp2_with fail
            refine bodyPost_ret (v := .tuple #[nilV, .int .i64 61]) (by simp [nilV, results, Tryz.results17, go_sem]) rfl ⟨nilV, by rw [HB.out], by rw [HB.out]; exact nil_tabs _ _ _, hxz⟩
        · obtain rfl : k = rl := by omega
          have HAny := Lib.hid (show rs.any (badLen D) = false from any_bad D rs fun g hg => by
            obtain ⟨j, hj, rfl⟩ := List.mem_iff_getElem.1 hg
            exact hgood j _ (by rw [HRl.out]; exact hj) (List.getElem?_eq_getElem hj))
          have HGd := Lib.hid (show ∀ (j : Nat) g, rs[j]? = some g → g.length = D + 1 from fun j g hg => hgood j g (by rw [HRl.out]; exact (List.getElem?_eq_some_iff.1 hg).1) hg)
          obtain ⟨Y, hY⟩ : ∃ Y, Y = wr := ⟨_, rfl⟩
          subst hY
          replace b3 := b3.keep hBr
          replace b5 := b5.keep hBr
          replace b9 := b9.keep hBr
          have hsY := hBr.size
          clear hgood hBr hxX hk hlt HE61 HE3 HE1
          have b5Y := b5
          go_wp2_with fail
          go_loopw [12] (fun i wr => ∃ i0 : Nat, 0 < i0 ∧ (i0 ≤ k ∨ i0 = 1) ∧ i = .int .i64 i0 ∧ (∀ j, 0 < j → j < i0 → j < k → endsE (rs.getD j []) = atE (rs.getD (j - 1) []) (co.getD (j - 1) 0)) ∧ Below Y.heap.size Y wr) (fun i _ => k - (intOf i).toNat)
          case atStart => exact ⟨1, by decide, .inr rfl, rfl, fun j h1 h2 => by omega, Below.refl _ _⟩
          case round =>
            obtain ⟨i, hi0, hile, rfl, hsum, hBr⟩ := hrel
            have HSum := Lib.hid hsum
            clear hsum
            have hBw := hxr.trans (hBr.mono hxr.size)
            by_cases hlt : i < k
            · obtain ⟨t, ht⟩ : ∃ t, rs[i]? = some t := ⟨_, List.getElem?_eq_getElem (by rw [← HRl.out]; exact hlt)⟩
              have htl : t.length = D + 1 := HGd.out i t ht
              obtain ⟨gr, or, capr, hv, -, -, hgr, lr, qr⟩ := tabs_cells (HR.out.keep hBw) (by rw [← HRl.out]; omega)
              rw [← HRl.out] at hv
              cases hv
              obtain ⟨At, ct, d0, hEt⟩ := qr i t ht
              rw [htl] at d0
              obtain ⟨tp, htp⟩ : ∃ t, rs[i - 1]? = some t := ⟨_, List.getElem?_eq_getElem (by rw [← HRl.out]; omega)⟩
              have htpl : tp.length = D + 1 := HGd.out (i - 1) tp htp
              obtain ⟨Aq, cq, d3, hEq⟩ := qr (i - 1) tp htp
              rw [htpl] at d3
              obtain ⟨gc, oc, capc, hvc, -, -, hgc, lc, qc⟩ := exts_cells (Rd.keep HC.out hBw) (by rw [HCl.out]; omega)
              rw [HCl.out] at hvc
              cases hvc
              obtain ⟨xp, hxp⟩ : ∃ x, co[i - 1]? = some x := ⟨_, List.getElem?_eq_getElem (by rw [HCl.out]; omega)⟩
              obtain ⟨d4, d5⟩ := qc (i - 1) xp hxp
              obtain ⟨ga, oa, capa, hva, -, -, -, la, qa⟩ := exts_cells hEt (by omega)
              rw [htl] at hva
              cases hva
              obtain ⟨x0, hx0, hx0d⟩ := get_of (l := t) (k := 0) (by omega)
              obtain ⟨x1, hx1, hx1d⟩ := get_of (l := t) (k := 1) (by omega)
              obtain ⟨w0, w1⟩ := qa 0 x0 hx0
              obtain ⟨w2, w3⟩ := qa 1 x1 hx1
              simp only [Nat.zero_mul, Nat.one_mul, Nat.add_zero, Nat.add_assoc, Nat.reduceAdd] at w0 w1 w2 w3
              have hS1 := Lib.hid (show endsE (rs.getD i []) = x0 + x1 by
                rw [show rs.getD i [] = t by simp [List.getD, ht]]
                unfold endsE
                rw [hx0d, hx1d])
              have hS2 := Lib.hid (show atE (rs.getD (i - 1) []) (co.getD (i - 1) 0) = atE tp xp by simp [List.getD, htp, hxp])
              have HG1 := Lib.hid (fun W1 => xAdd x0 x1 W1)
              have hHG2 := fun W1 (hW : Below wr.heap.size wr W1) => pAt tp xp (by omega) _ _ _ W1 (Rd.keep hEq hW)
              rw [htpl] at hHG2
              have HG2 := Lib.hid hHG2
              have k1 := gw_cell (W := wr) lr d0
              have k3 := gw_cell (W := wr) lr d3
              have k4 := gw_cell (W := wr) lc d4
              have k5 := gw_cell (W := wr) lc d5
              have k6 := gw_cell (W := wr) la w0
              have k7 := gw_cell (W := wr) la w1
              have k8 := gw_cell (W := wr) la w2
              have k9 := gw_cell (W := wr) la w3
              have y5 := gw_blk (b5Y.keep hBr)
              clear qc d4 d5 htp hxp d3 d0 qa qr hEq hEt hx0 hx0d hx1 hx1d w0 w1 w2 w3 hHG2 ht htl htpl
              generalize x0 + x1 = s1 at *
              generalize atE tp xp = s2 at *
              rcases ext_casesX s1 s2 with hs | ⟨hne, hs⟩ | ⟨hne, hs1, hs⟩
              · subst hs
                have HSi := Lib.hid (show endsE (rs.getD i []) = atE (rs.getD (i - 1) []) (co.getD (i - 1) 0) from hS1.out.trans hS2.out.symm)
                go_wp2_with fail
                refine wp_region_rg 26 [(12, Spec.val (.agg #[.int .u64 (fv (s1).a), .int .u64 (fv (s1).b)])), (24, Spec.val (.agg #[.int .u64 (fv (s1).a), .int .u64 (fv (s1).b)]))] (by kernel_rfl) (by kernel_rfl) (by kernel_rfl) trivial ?_
                refine rg_det rfl rfl rfl (fun K hK => ?_)
                go_big_quiet_op
                refine hK _ ?_; clear hK K
                refine rg_det rfl rfl rfl (fun K hK => ?_)
                go_big_quiet_op
                refine hK _ ?_; clear hK K
                refine rg_det rfl rfl rfl (fun K hK => ?_)
                go_big_quiet_op
                refine hK _ ?_; clear hK K
                refine rg_det rfl rfl rfl (fun K hK => ?_)
                go_big_quiet_op
                refine hK _ ?_; clear hK K
                refine rg_det rfl rfl rfl (fun K hK => ?_)
                go_big_quiet_op
                refine hK _ ?_; clear hK K
                refine rg_det rfl rfl rfl (fun K hK => ?_)
                go_big_quiet_op
                refine hK _ ?_; clear hK K
                refine rg_det rfl rfl rfl (fun K hK => ?_)
                go_big_quiet_op
                refine hK _ ?_; clear hK K
                refine rg_det rfl rfl rfl (fun K hK => ?_)
                go_big_quiet_op
                refine hK _ ?_; clear hK K
                refine rg_det rfl rfl rfl (fun K hK => ?_)
                go_big_quiet_op
                refine hK _ ?_; clear hK K
                refine rg_det rfl rfl rfl (fun K hK => ?_)
                go_big_quiet_op
                refine hK _ ?_; clear hK K
                refine rg_det rfl rfl rfl (fun K hK => ?_)
                go_big_quiet_op
                refine hK _ ?_; clear hK K
                refine rg_det rfl rfl rfl (fun K hK => ?_)
                go_big_quiet_op
                refine hK _ ?_; clear hK K
                refine rg_val rfl rfl (fun W1 hW1 hF => step_callv en_attestor_attestorref02_Add (HG1.out W1) rfl rfl) ?_
                intro a' ha
                simp only [Act.put, List.setIfInBounds_toArray, List.set_cons_succ, List.set_cons_zero] at ha
                subst ha
                refine rg_det rfl rfl rfl (fun K hK => ?_)
                go_big_quiet_op
                refine hK _ ?_; clear hK K
                refine rg_det rfl rfl rfl (fun K hK => ?_)
                go_big_quiet_op
                refine hK _ ?_; clear hK K
                refine rg_det rfl rfl rfl (fun K hK => ?_)
                go_big_quiet_op
                refine hK _ ?_; clear hK K
                refine rg_det rfl rfl rfl (fun K hK => ?_)
                go_big_quiet_op
                refine hK _ ?_; clear hK K
                refine rg_det rfl rfl rfl (fun K hK => ?_)
                go_big_quiet_op
                refine hK _ ?_; clear hK K
                refine rg_det rfl rfl rfl (fun K hK => ?_)
                go_big_quiet_op
                refine hK _ ?_; clear hK K
                refine rg_det rfl rfl rfl (fun K hK => ?_)
                go_big_quiet_op
                refine hK _ ?_; clear hK K
                refine rg_det rfl rfl rfl (fun K hK => ?_)
                go_big_quiet_op
                refine hK _ ?_; clear hK K
                refine rg_det rfl rfl rfl (fun K hK => ?_)
                go_big_quiet_op
                refine hK _ ?_; clear hK K
                refine rg_det rfl rfl rfl (fun K hK => ?_)
                go_big_quiet_op
                refine hK _ ?_; clear hK K
                refine rg_det rfl rfl rfl (fun K hK => ?_)
                go_big_quiet_op
                refine hK _ ?_; clear hK K
                refine rg_val rfl rfl (fun W1 hW1 hF => step_callv en_attestor_attestorref03_At (HG2.out W1 (grw_below hW1)) rfl rfl) ?_
                intro a' ha
                simp only [Act.put, List.setIfInBounds_toArray, List.set_cons_succ, List.set_cons_zero] at ha
                subst ha
                refine rg_det rfl rfl rfl (fun K hK => ?_)
                go_big_quiet_op
                refine hK _ ?_; clear hK K
                refine rg_nil (fun w' hw' hF => ?_)
                obtain ⟨z, rfl⟩ := hw'
                simp only [List.drop_succ_cons, List.drop_zero]
                have hBz := hBr.trans (z.h.mono hBr.size)
                clear hF y5 k1 k3 k4 k5 k6 k7 k8 k9
                go_wp2_with fail
                refine ⟨⟨i + 1, by omega, .inl (by omega), by go_num, fun j h1 h2 h3 => ?_, hBz⟩, by simp [intOf]; omega⟩
                by_cases hj : j = i
                · subst hj
                  exact HSi.out
                · exact HSum.out j h1 (by omega) h3
              · have HF60 := Lib.hid (HE60.out (by first | trivial | rfl) HRho.out HAny.out (by
                  cases hso : sumOk rs co
                  · rfl
                  · exact absurd (hS1.out.symm.trans (((sumOk_true rs co).1 hso i hi0 (by rw [← HRl.out]; omega)).trans hS2.out)) hne))
                clear hne
                go_wp2_with fail
                refine wp_region_rg 26 [(12, Spec.val (.agg #[.int .u64 (fv (s1).a), .int .u64 (fv (s1).b)])), (24, Spec.val (.agg #[.int .u64 (fv (s2).a), .int .u64 (fv (s2).b)]))] (by kernel_rfl) (by kernel_rfl) (by kernel_rfl) trivial ?_
                refine rg_det rfl rfl rfl (fun K hK => ?_)
                go_big_quiet_op
                refine hK _ ?_; clear hK K
                refine rg_det rfl rfl rfl (fun K hK => ?_)
                go_big_quiet_op
                refine hK _ ?_; clear hK K
                refine rg_det rfl rfl rfl (fun K hK => ?_)
                go_big_quiet_op
                refine hK _ ?_; clear hK K
                refine rg_det rfl rfl rfl (fun K hK => ?_)
                go_big_quiet_op
                refine hK _ ?_; clear hK K
                refine rg_det rfl rfl rfl (fun K hK => ?_)
                go_big_quiet_op
                refine hK _ ?_; clear hK K
                refine rg_det rfl rfl rfl (fun K hK => ?_)
                go_big_quiet_op
                refine hK _ ?_; clear hK K
                refine rg_det rfl rfl rfl (fun K hK => ?_)
                go_big_quiet_op
                refine hK _ ?_; clear hK K
                refine rg_det rfl rfl rfl (fun K hK => ?_)
                go_big_quiet_op
                refine hK _ ?_; clear hK K
                refine rg_det rfl rfl rfl (fun K hK => ?_)
                go_big_quiet_op
                refine hK _ ?_; clear hK K
                refine rg_det rfl rfl rfl (fun K hK => ?_)
                go_big_quiet_op
                refine hK _ ?_; clear hK K
                refine rg_det rfl rfl rfl (fun K hK => ?_)
                go_big_quiet_op
                refine hK _ ?_; clear hK K
                refine rg_det rfl rfl rfl (fun K hK => ?_)
                go_big_quiet_op
                refine hK _ ?_; clear hK K
                refine rg_val rfl rfl (fun W1 hW1 hF => step_callv en_attestor_attestorref02_Add (HG1.out W1) rfl rfl) ?_
                intro a' ha
                simp only [Act.put, List.setIfInBounds_toArray, List.set_cons_succ, List.set_cons_zero] at ha
                subst ha
                refine rg_det rfl rfl rfl (fun K hK => ?_)
                go_big_quiet_op
                refine hK _ ?_; clear hK K
                refine rg_det rfl rfl rfl (fun K hK => ?_)
                go_big_quiet_op
                refine hK _ ?_; clear hK K
                refine rg_det rfl rfl rfl (fun K hK => ?_)
                go_big_quiet_op
                refine hK _ ?_; clear hK K
                refine rg_det rfl rfl rfl (fun K hK => ?_)
                go_big_quiet_op
                refine hK _ ?_; clear hK K
                refine rg_det rfl rfl rfl (fun K hK => ?_)
                go_big_quiet_op
                refine hK _ ?_; clear hK K
                refine rg_det rfl rfl rfl (fun K hK => ?_)
                go_big_quiet_op
                refine hK _ ?_; clear hK K
                refine rg_det rfl rfl rfl (fun K hK => ?_)
                go_big_quiet_op
                refine hK _ ?_; clear hK K
                refine rg_det rfl rfl rfl (fun K hK => ?_)
                go_big_quiet_op
                refine hK _ ?_; clear hK K
                refine rg_det rfl rfl rfl (fun K hK => ?_)
                go_big_quiet_op
                refine hK _ ?_; clear hK K
                refine rg_det rfl rfl rfl (fun K hK => ?_)
                go_big_quiet_op
                refine hK _ ?_; clear hK K
                refine rg_det rfl rfl rfl (fun K hK => ?_)
                go_big_quiet_op
                refine hK _ ?_; clear hK K
                refine rg_val rfl rfl (fun W1 hW1 hF => step_callv en_attestor_attestorref03_At (HG2.out W1 (grw_below hW1)) rfl rfl) ?_
                intro a' ha
                simp only [Act.put, List.setIfInBounds_toArray, List.set_cons_succ, List.set_cons_zero] at ha
                subst ha
                refine rg_det rfl rfl rfl (fun K hK => ?_)
                go_big_quiet_op
                refine hK _ ?_; clear hK K
                refine rg_nil (fun w' hw' hF => ?_)
                obtain ⟨z, rfl⟩ := hw'
                simp only [List.drop_succ_cons, List.drop_zero]
                clear hF y5 k1 k3 k4 k5 k6 k7 k8 k9
                go_wp2_with fail
                refine bodyPost_ret (v := .tuple #[nilV, .int .i64 60]) (by simp [nilV, results, Tryz.results17, go_sem]) rfl ⟨nilV, by rw [HF60.out], by rw [HF60.out]; exact nil_tabs _ _ _, hBw.trans (z.h.mono hBw.size)⟩
              · have HF60 := Lib.hid (HE60.out (by first | trivial | rfl) HRho.out HAny.out (by
                  cases hso : sumOk rs co
                  · rfl
                  · exact absurd (hS1.out.symm.trans (((sumOk_true rs co).1 hso i hi0 (by rw [← HRl.out]; omega)).trans hS2.out)) hne))
                clear hne
                go_wp2_with fail
                refine wp_region_rg 26 [(12, Spec.val (.agg #[.int .u64 (fv (s1).a), .int .u64 (fv (s1).b)])), (24, Spec.val (.agg #[.int .u64 (fv (s2).a), .int .u64 (fv (s2).b)]))] (by kernel_rfl) (by kernel_rfl) (by kernel_rfl) trivial ?_
                refine rg_det rfl rfl rfl (fun K hK => ?_)
                go_big_quiet_op
                refine hK _ ?_; clear hK K
                refine rg_det rfl rfl rfl (fun K hK => ?_)
                go_big_quiet_op
                refine hK _ ?_; clear hK K
                refine rg_det rfl rfl rfl (fun K hK => ?_)
                go_big_quiet_op
                refine hK _ ?_; clear hK K
                refine rg_det rfl rfl rfl (fun K hK => ?_)
                go_big_quiet_op
                refine hK _ ?_; clear hK K
                refine rg_det rfl rfl rfl (fun K hK => ?_)
                go_big_quiet_op
                refine hK _ ?_; clear hK K
                refine rg_det rfl rfl rfl (fun K hK => ?_)
                go_big_quiet_op
                refine hK _ ?_; clear hK K
                refine rg_det rfl rfl rfl (fun K hK => ?_)
                go_big_quiet_op
                refine hK _ ?_; clear hK K
                refine rg_det rfl rfl rfl (fun K hK => ?_)
                go_big_quiet_op
                refine hK _ ?_; clear hK K
                refine rg_det rfl rfl rfl (fun K hK => ?_)
                go_big_quiet_op
                refine hK _ ?_; clear hK K
                refine rg_det rfl rfl rfl (fun K hK => ?_)
                go_big_quiet_op
                refine hK _ ?_; clear hK K
                refine rg_det rfl rfl rfl (fun K hK => ?_)
                go_big_quiet_op
                refine hK _ ?_; clear hK K
                refine rg_det rfl rfl rfl (fun K hK => ?_)
                go_big_quiet_op
                refine hK _ ?_; clear hK K
                refine rg_val rfl rfl (fun W1 hW1 hF => step_callv en_attestor_attestorref02_Add (HG1.out W1) rfl rfl) ?_
                intro a' ha
                simp only [Act.put, List.setIfInBounds_toArray, List.set_cons_succ, List.set_cons_zero] at ha
                subst ha
                refine rg_det rfl rfl rfl (fun K hK => ?_)
                go_big_quiet_op
                refine hK _ ?_; clear hK K
                refine rg_det rfl rfl rfl (fun K hK => ?_)
                go_big_quiet_op
                refine hK _ ?_; clear hK K
                refine rg_det rfl rfl rfl (fun K hK => ?_)
                go_big_quiet_op
                refine hK _ ?_; clear hK K
                refine rg_det rfl rfl rfl (fun K hK => ?_)
                go_big_quiet_op
                refine hK _ ?_; clear hK K
                refine rg_det rfl rfl rfl (fun K hK => ?_)
                go_big_quiet_op
                refine hK _ ?_; clear hK K
                refine rg_det rfl rfl rfl (fun K hK => ?_)
                go_big_quiet_op
                refine hK _ ?_; clear hK K
                refine rg_det rfl rfl rfl (fun K hK => ?_)
                go_big_quiet_op
                refine hK _ ?_; clear hK K
                refine rg_det rfl rfl rfl (fun K hK => ?_)
                go_big_quiet_op
                refine hK _ ?_; clear hK K
                refine rg_det rfl rfl rfl (fun K hK => ?_)
                go_big_quiet_op
                refine hK _ ?_; clear hK K
                refine rg_det rfl rfl rfl (fun K hK => ?_)
                go_big_quiet_op
                refine hK _ ?_; clear hK K
                refine rg_det rfl rfl rfl (fun K hK => ?_)
                go_big_quiet_op
                refine hK _ ?_; clear hK K
                refine rg_val rfl rfl (fun W1 hW1 hF => step_callv en_attestor_attestorref03_At (HG2.out W1 (grw_below hW1)) rfl rfl) ?_
                intro a' ha
                simp only [Act.put, List.setIfInBounds_toArray, List.set_cons_succ, List.set_cons_zero] at ha
                subst ha
                refine rg_det rfl rfl rfl (fun K hK => ?_)
                go_big_quiet_op
                refine hK _ ?_; clear hK K
                refine rg_nil (fun w' hw' hF => ?_)
                obtain ⟨z, rfl⟩ := hw'
                simp only [List.drop_succ_cons, List.drop_zero]
                clear hF y5 k1 k3 k4 k5 k6 k7 k8 k9
                go_wp2_with fail
                refine bodyPost_ret (v := .tuple #[nilV, .int .i64 60]) (by simp [nilV, results, Tryz.results17, go_sem]) rfl ⟨nilV, by rw [HF60.out], by rw [HF60.out]; exact nil_tabs _ _ _, hBw.trans (z.h.mono hBw.size)⟩
            · have HX := Lib.hid (HE0.out (by first | trivial | rfl) HRho.out HAny.out ((sumOk_true rs co).2 fun j h0 h1 => HSum.out j h0 (by rw [← HRl.out] at h1; omega) (by rw [← HRl.out] at h1; exact h1)))
              clear HSum HE60 HE0
              obtain ⟨Z, hZ⟩ : ∃ Z, Z = wr := ⟨_, rfl⟩
              subst hZ
              replace b3 := b3.keep hBr
              replace b5 := b5.keep hBr
              replace b9 := b9.keep hBr
              clear hBr hxr hile hi0 b5Y
              have e3 := b3.cell
              have e5 := b5.cell
              go_wp2_with fail
              refine (HPr.out Z hBw).mono ?_
              rintro e w3 ⟨v1, v2, rfl, hT, hV, hb3⟩
              obtain ⟨AQ, cQ, hv⟩ := hT.len
              rw [HPl.out] at hv
              subst hv
              obtain ⟨AV, cV, rfl⟩ := Rd.len hV
              have hB3 := hBw.trans (hb3.mono hBw.size)
              replace b5 := b5.keep hb3
              replace b9 := b9.keep hb3
              have HTp := Lib.hid (show TabS w.heap.size w3.heap.size w3 (.slice AQ k cQ) plain from hT.wide hBw.size (Nat.le_refl _))
              have hB3s := hB3.size
              have l5 := b5.lt
              have l9 := b9.lt
              clear e3 e5 b3 HPr HLog HDeg hT hV hb3 hBw hlt
              go_upto_region 19 with (fail)
              refine wp_stk2 fun X2 hX2 hzX2 bO b16 => ?_
              obtain ⟨go0, hgo0⟩ : ∃ g, g = w3.heap.size := ⟨_, rfl⟩
              rw [← hgo0] at bO b16 ⊢
              have hgo1 : w3.heap.size ≤ go0 := by omega
              have h2 := hB3.trans (hX2.mono hB3.size)
              have h2s := hX2.size
              have hX2z : X2.heap.size = go0 + 1 + 1 := by rw [hzX2.out, hgo0]
              replace b5 := b5.keep hX2
              replace b9 := b9.keep hX2
              have HT3 := Lib.hid (HTp.out.keep hX2)
              have hX2a : X2.heap.size ≤ go0 + 1 + 1 := by omega
              have hX2b : go0 + 1 + 1 ≤ X2.heap.size := by omega
              clear hzX2 hgo0 HTp hX2 hX2z
              go_wp2_with fail
              refine (xFromInt 2 (by decide) (by decide) X2).mono ?_
              rintro e w4 ⟨rfl, hb4⟩
              rw [show ev (eb (fz 2)) = ev e2 from rfl]
              go_wp2_with fail
              refine (xInv e2 e2_ne w4).mono ?_
              rintro e w5 ⟨rfl, hb5⟩
              rw [show einv e2 = hlf from rfl]
              unfold ev
              have hb45 := hb4.trans (hb5.mono hb4.size)
              have h5 := h2.trans (hb45.mono h2.size)
              have h5s := hb45.size
              replace b5 := b5.keep hb45
              replace b9 := b9.keep hb45
              replace b16 := b16.keep hb45
              replace bO := bO.keep hb45
              have HT5 := Lib.hid (HT3.out.keep hb45)
              clear hb4 hb5 hb45 h2 HT3
              go_upto_region 20 with (fail)
              refine wp_stk1 fun X3 hX3 hzX3 b17 => ?_
              obtain ⟨g17, hg17⟩ : ∃ g, g = w5.heap.size := ⟨_, rfl⟩
              rw [← hg17] at b17 ⊢
              have hg17a : w5.heap.size ≤ g17 := by omega
              have hX3s := hX3.size
              have h6 := h5.trans (hX3.mono h5.size)
              replace b5 := b5.keep hX3
              replace b9 := b9.keep hX3
              replace b16 := b16.keep hX3
              replace bO := bO.keep hX3
              have HT6 := Lib.hid (HT5.out.keep hX3)
              have l17 := b17.lt
              obtain ⟨R, hR⟩ : ∃ R, R = expK plain rs rho co k k := ⟨_, rfl⟩
              rw [← hR] at HX
              have HRl2 := Lib.hid (show R.length = k by rw [hR, expK_length])
              have HRg := Lib.hid (show ∀ i, i < k → R[i]? = some (expRow rho (rs.getD i []) (plain.getD i []) ((i : Int) + 1 - (k : Int)) (evK R co i)) from fun i hi => by rw [hR]; exact expK_get plain rs rho co k i k hi)
              obtain ⟨g16, hg16⟩ : ∃ g, g = go0 + 1 := ⟨_, rfl⟩
              rw [← hg16] at b16 ⊢
              have hg16a : go0 + 1 ≤ g16 := by omega
              have hg16b : g16 < X2.heap.size := by omega
              have HW0 := Lib.hid (show RowW go0 X3.heap.size X3 (.slice (some ⟨go0, 0, none⟩) 0 0) (R.take 0) from ⟨[], ⟨rfl, .inr ⟨go0, 0, #[], rfl, Nat.le_refl _, bO, Nat.le_refl _, Nat.zero_le _, rfl, rfl⟩⟩, rfl, fun k x t h => by simp at h⟩)
              have b16' : Blk X3 g16 30 #[.int .u64 (fv (evK R co 0).a), .int .u64 (fv (evK R co 0).b)] := b16
              clear hR hzX3 hg17 hX3 h5 HT5 hg16 b16 bO hX2a
              generalize hhf : hlf = hf at *
              have HHf := Lib.hid hhf
              clear hhf
              obtain ⟨L, hL⟩ : ∃ L, L = D + 1 := ⟨_, rfl⟩
              have hL9 : L ≤ 901 := by omega
              have hL2 : 2 ≤ L := by omega
              rw [← hL] at HPd HGd
              clear hL hD1 hd HAny
              go_wp2_with fail
              go_loopw [15, 19] (fun u i wr => ∃ j : Nat, j ≤ k ∧ i = .int .i64 j ∧ RowW go0 X3.heap.size wr u (R.take j) ∧ Blk wr g16 30 #[.int .u64 (fv (evK R co j).a), .int .u64 (fv (evK R co j).b)] ∧ Blk wr g17 30 #[.int .u64 (fv hf.a), .int .u64 (fv hf.b)] ∧ u.ownBlock ≠ some g16 ∧ u.ownBlock ≠ some g17 ∧ Below go0 X3 wr) (fun _ i _ => k - (intOf i).toNat)
              case atStart => exact ⟨0, Nat.zero_le _, rfl, HW0.out, b16', b17, by simp [Value.ownBlock]; omega, by simp [Value.ownBlock]; omega, Below.refl _ _⟩
              case round =>
                obtain ⟨j, hj, rfl, hrow, b16, b17, hn16, hn17, hBr⟩ := hrel
                clear b16'
                have h7 := h6.trans (hBr.mono (by have := h6.size; omega))
                have b5r := b5.below hBr (by omega)
                have b9r := b9.below hBr (by omega)
                obtain ⟨V, hV⟩ : ∃ V, V = wr := ⟨_, rfl⟩
                subst hV
                have hVs := hBr.size
                by_cases hlt : j < k
                · obtain ⟨t, ht⟩ : ∃ t, rs[j]? = some t := ⟨_, List.getElem?_eq_getElem (by rw [← HRl.out]; exact hlt)⟩
                  obtain ⟨p, hp⟩ : ∃ t, plain[j]? = some t := ⟨_, List.getElem?_eq_getElem (by rw [HPl.out]; exact hlt)⟩
                  obtain ⟨xj, hxj⟩ : ∃ x, co[j]? = some x := ⟨_, List.getElem?_eq_getElem (by rw [HCl.out]; exact hlt)⟩
                  have htl : t.length = L := HGd.out j t ht
                  have hpl : p.length = L := HPd.out j p hp
                  obtain ⟨kk, hkk⟩ : ∃ kk, kk = k - 1 - j := ⟨_, rfl⟩
                  have hki : (k : Int) - (j : Int) - 1 = (kk : Int) := by omega
                  have hkk9 : kk ≤ 9 := by omega
                  have hP : pwZ ((j : Int) + 1 - (k : Int)) = xp hf kk := by
                    rw [show ((j : Int) + 1 - (k : Int)) = -(kk : Int) by omega, pwZ_neg, HHf.out]
                  obtain ⟨row, hrowe⟩ : ∃ row, row = expRow rho t p ((j : Int) + 1 - (k : Int)) (evK R co j) := ⟨_, rfl⟩
                  have HRj := Lib.hid (show R[j]? = some row by
                    rw [HRg.out j hlt, hrowe, show rs.getD j [] = t by simp [List.getD, ht], show plain.getD j [] = p by simp [List.getD, hp]])
                  have HrL := Lib.hid (show row.length = L by rw [hrowe, expRow_length, htl])
                  have HrX := Lib.hid (show ∀ (x : Nat) (v q : E), t[x]? = some v → p[x]? = some q → (row.take (x + 1)).flatMap ec = (row.take x).flatMap ec ++ ec (ir * xp hf kk * (v - q) - evK R co j) from fun x v q hv hq => by
                    have hx : x < t.length := (List.getElem?_eq_some_iff.1 hv).1
                    have h1 : row[x]? = some (ir * xp hf kk * (v - q) - evK R co j) := by
                      rw [hrowe, expRow_get _ _ _ _ _ _ hx, show t.getD x 0 = v by simp [List.getD, hv], show p.getD x 0 = q by simp [List.getD, hq], hP, HIr.out, scale_eq]
                    rw [List.take_add_one, h1]
                    simp)
                  have HcN := Lib.hid (show evK R co (j + 1) = evK R co j + atE row xj by
                    rw [evK_succ, show R.getD j [] = row by simp [List.getD, HRj.out], show co.getD j 0 = xj by simp [List.getD, hxj]])
                  have HRk := Lib.hid (show R.take (j + 1) = R.take j ++ [row] by rw [List.take_add_one, HRj.out]; rfl)
                  obtain ⟨c, hc⟩ : ∃ c, c = evK R co j := ⟨_, rfl⟩
                  rw [← hc] at HrX HcN b16
                  obtain ⟨P, hPe⟩ : ∃ P, P = xp hf kk := ⟨_, rfl⟩
                  have HPw := Lib.hid (show ∀ W1, Calls Tryz.prog 65 #[ev hf, .int .u64 (kk : Int)] W1 (Ret (ev P) W1) from fun W1 => by rw [hPe]; exact xPow hf kk (by omega) W1)
                  rw [← hPe] at HrX
                  obtain ⟨gr, or, capr, hv, -, -, -, lr, qr⟩ := tabs_cells HR.out (by rw [← HRl.out]; omega)
                  rw [← HRl.out] at hv
                  cases hv
                  obtain ⟨At, ct, d0, hEt⟩ := qr j t ht
                  obtain ⟨gp, op, capp, hv, -, -, hgp, lp, qp⟩ := tabs_cells HT6.out (by rw [HPl.out]; omega)
                  rw [HPl.out] at hv
                  cases hv
                  obtain ⟨Ap, cp, d1, hEp⟩ := qp j p hp
                  rw [htl] at d0
                  rw [hpl] at d1
                  unfold ExtS at hEt hEp
                  rw [htl] at hEt
                  rw [hpl] at hEp
                  obtain ⟨g1, o1, c1, hv, -, -, -, l1, q1⟩ := Rd.form hEt (by omega)
                  cases hv
                  obtain ⟨g2, o2, c2, hv, -, -, hg2, l2, q2⟩ := Rd.form hEp (by omega)
                  cases hv
                  obtain ⟨gc, oc, cc, hv, -, -, -, lc, qc⟩ := exts_cells HC.out (by rw [HCl.out]; omega)
                  rw [HCl.out] at hv
                  cases hv
                  obtain ⟨d4, d5⟩ := qc j xj hxj
                  have Q1 := Lib.hid q1
                  have Q2 := Lib.hid q2
                  have HtL := Lib.hid htl
                  have HpL := Lib.hid hpl
                  have y1 := gw_blk b9r
                  have y2 := gw_blk b17
                  clear hrowe hP hc hPe qr qp qc q1 q2 ht hp hxj htl hpl hEt hEp hkk
                  go_wp2_with fail
                  refine wp_region_rg 10 [(7, Spec.val (.agg #[.int .u64 (fv (P).a), .int .u64 (fv (P).b)])), (8, Spec.val (.agg #[.int .u64 (fv ((ir * P)).a), .int .u64 (fv ((ir * P)).b)])), (9, Spec.rel (New 30 #[.int .u64 0, .int .u64 0]) (NewF))] (by kernel_rfl) (by kernel_rfl) (by kernel_rfl) ⟨fit_new, trivial⟩ ?_
                  refine rg_det rfl rfl rfl (fun K hK => ?_)
                  go_big_quiet_op
                  refine hK _ ?_; clear hK K
                  refine rg_det rfl rfl rfl (fun K hK => ?_)
                  go_big_quiet_op
                  refine hK _ ?_; clear hK K
                  refine rg_det rfl rfl rfl (fun K hK => ?_)
                  go_big_quiet_op
                  refine hK _ ?_; clear hK K
                  refine rg_det rfl rfl rfl (fun K hK => ?_)
                  go_big_quiet_op
                  refine hK _ ?_; clear hK K
                  refine rg_det rfl rfl rfl (fun K hK => ?_)
                  go_big_quiet_op
                  refine hK _ ?_; clear hK K
                  refine rg_det rfl rfl rfl (fun K hK => ?_)
                  go_big_quiet_op
                  refine hK _ ?_; clear hK K
                  refine rg_det rfl rfl rfl (fun K hK => ?_)
                  go_big_quiet_op
                  refine hK _ ?_; clear hK K
                  refine rg_val rfl rfl (fun W1 hW1 hF => step_callv en_attestor_attestorref02_Pow (HPw.out W1) rfl rfl) ?_
                  intro a' ha
                  simp only [Act.put, List.setIfInBounds_toArray, List.set_cons_succ, List.set_cons_zero] at ha
                  subst ha
                  refine rg_val rfl rfl (fun W1 hW1 hF => step_callv en_attestor_attestorref02_Mul (xMul ir P W1) rfl rfl) ?_
                  intro a' ha
                  simp only [Act.put, List.setIfInBounds_toArray, List.set_cons_succ, List.set_cons_zero] at ha
                  subst ha
                  refine rg_rel rfl rfl (fun W1 hW1 hF => step_new hi1 jz0 rfl) ?_
                  intro n9 m9 v9 hn9 hm9 hd9 hf9 a' ha
                  simp only [Act.put, List.setIfInBounds_toArray, List.set_cons_succ, List.set_cons_zero] at ha
                  subst ha
                  obtain rfl := hf9
                  refine rg_nil (fun w' hw' hF => ?_)
                  obtain ⟨z, rfl⟩ := hw'
                  simp only [List.drop_succ_cons, List.drop_zero]
                  obtain ⟨hm9', -, hl9, b20⟩ := end_last hF
                  have e1 := b20.cell
                  have e2 := b20.frozen
                  clear hF y1 y2
                  generalize ir * P = sc at *
                  go_upto_region 24 with (fail)
                  refine set2 (M := fun W => Code.wp _ _ _ _ W) b20 fun U hU bU => ?_
                  replace bU : Blk U n9 30 #[.int .u64 (fv sc.a), .int .u64 (fv sc.b)] := bU
                  have hzs := z.h.size
                  have hVU : Below V.heap.size V U := below_put z.h hU (by omega)
                  have hUs := hVU.size
                  have b5U := b5r.keep hVU
                  have b16U := b16.keep hVU
                  have b17U := b17.keep hVU
                  have hrowU := hrow.keep hVU
                  have h8 := h7.trans (hVU.mono h7.size)
                  have hX3U : Below go0 X3 U := hBr.trans (hVU.mono (by omega))
                  have d0U := (h8.cell (p := ⟨gr, or + j, none⟩) lr).trans d0
                  have d1U := (hX3U.cell (p := ⟨gp, op + j, none⟩) (show gp < go0 by omega)).trans d1
                  have hrowo := Lib.hid (fun hi => hrow.out (lo := U.heap.size) (hi := hi) hUs)
                  have hgpX : gp < U.heap.size := by have := hX3U.size; omega
                  have hg2X : g2 < go0 := by omega
                  clear d0 d1 hU b16 b17 b20 hrow hVU e1 e2 hd9
                  go_wp2_with fail
                  go_loopw [21, 22] (fun v x wi => ∃ l : Nat, l ≤ L ∧ x = .int .i64 l ∧ wi.ownsRow U.heap.size 30 2 v l ((row.take l).flatMap ec) ∧ Below U.heap.size U wi) (fun _ x _ => L - (intOf x).toNat)
                  case atStart => exact ⟨0, Nat.zero_le _, rfl, ⟨by simp, .inr ⟨U.heap.size, 0, #[], rfl, Nat.le_refl _, World.alloc_heap_new U _, Nat.le_refl _, Nat.zero_le _, rfl, by simp⟩⟩, (Below.refl _ _).alloc (Nat.le_refl _) _⟩
                  case round =>
                    obtain ⟨x, hx, rfl, hown, hBy⟩ := hrel
                    obtain ⟨Y1, hY1⟩ : ∃ U, U = wr := ⟨_, rfl⟩
                    subst hY1
                    have hsy := hBy.size
                    have hwY := h8.trans (hBy.mono h8.size)
                    have hXY := hX3U.trans (hBy.mono (by omega))
                    have e1 := (hBy.cell (p := ⟨gr, or + j, none⟩) (Nat.lt_of_lt_of_le lr h8.size)).trans d0U
                    obtain ⟨Av, cv, rfl⟩ := own_len hown
                    by_cases hltx : x < L
                    · obtain ⟨v, hv, -⟩ := get_of (l := t) (k := x) (by rw [HtL.out]; exact hltx)
                      obtain ⟨q, hq, -⟩ := get_of (l := p) (k := x) (by rw [HpL.out]; exact hltx)
                      have w1 := Q1.out (x * 2) _ (by simpa using flat_get ec_len t x 0 v _ hv rfl)
                      have w2' := Q1.out (x * 2 + 1) _ (flat_get ec_len t x 1 v _ hv rfl)
                      have w3' := Q2.out (x * 2) _ (by simpa using flat_get ec_len p x 0 q _ hq rfl)
                      have w4' := Q2.out (x * 2 + 1) _ (flat_get ec_len p x 1 q _ hq rfl)
                      have HX' := Lib.hid (HrX.out x v q hv hq)
                      rw [← Nat.add_assoc] at w2' w4'
                      have hg2Y : g2 < Y1.heap.size := by have := hXY.size; omega
                      have f1 := gw_cell (Nat.lt_of_lt_of_le lr hwY.size) e1
                      have f2 := gw_cell (Nat.lt_of_lt_of_le l1 hwY.size) ((hwY.cell (p := ⟨g1, o1 + x * 2, none⟩) l1).trans w1)
                      have f3 := gw_cell (Nat.lt_of_lt_of_le l1 hwY.size) ((hwY.cell (p := ⟨g1, o1 + x * 2 + 1, none⟩) l1).trans w2')
                      have f4 := gw_cell (W := Y1) (Nat.lt_of_lt_of_le hgpX hsy) ((hBy.cell (p := ⟨gp, op + j, none⟩) hgpX).trans d1U)
                      have f5 := gw_cell (W := Y1) hg2Y ((hXY.cell (p := ⟨g2, o2 + x * 2, none⟩) hg2X).trans w3')
                      have f6 := gw_cell (W := Y1) hg2Y ((hXY.cell (p := ⟨g2, o2 + x * 2 + 1, none⟩) hg2X).trans w4')
                      have f7 := gw_blk (b16U.keep hBy)
                      have f8 := gw_blk (bU.keep hBy)
                      clear hv hq w1 w2' w3' w4'
                      go_wp2_with fail
                      clear e1
                      refine wp_region_rg 21 [(16, Spec.val (.agg #[.int .u64 (fv ((v - q)).a), .int .u64 (fv ((v - q)).b)])), (17, Spec.val (.agg #[.int .u64 (fv ((sc * (v - q))).a), .int .u64 (fv ((sc * (v - q))).b)])), (19, Spec.val (.agg #[.int .u64 (fv ((sc * (v - q) - c)).a), .int .u64 (fv ((sc * (v - q) - c)).b)])), (20, Spec.rel (Lit 30 1 #[.int .u64 (fv (sc * (v - q) - c).a), .int .u64 (fv (sc * (v - q) - c).b)]) (LitF 1))] (by kernel_rfl) (by kernel_rfl) (by kernel_rfl) ⟨fit_lit, trivial⟩ ?_
                      refine rg_det rfl rfl rfl (fun K hK => ?_)
                      go_big_quiet_op
                      refine hK _ ?_; clear hK K
                      refine rg_det rfl rfl rfl (fun K hK => ?_)
                      go_big_quiet_op
                      refine hK _ ?_; clear hK K
                      refine rg_det rfl rfl rfl (fun K hK => ?_)
                      go_big_quiet_op
                      refine hK _ ?_; clear hK K
                      refine rg_det rfl rfl rfl (fun K hK => ?_)
                      go_big_quiet_op
                      refine hK _ ?_; clear hK K
                      refine rg_det rfl rfl rfl (fun K hK => ?_)
                      go_big_quiet_op
                      refine hK _ ?_; clear hK K
                      refine rg_det rfl rfl rfl (fun K hK => ?_)
                      go_big_quiet_op
                      refine hK _ ?_; clear hK K
                      refine rg_det rfl rfl rfl (fun K hK => ?_)
                      go_big_quiet_op
                      refine hK _ ?_; clear hK K
                      refine rg_det rfl rfl rfl (fun K hK => ?_)
                      go_big_quiet_op
                      refine hK _ ?_; clear hK K
                      refine rg_det rfl rfl rfl (fun K hK => ?_)
                      go_big_quiet_op
                      refine hK _ ?_; clear hK K
                      refine rg_det rfl rfl rfl (fun K hK => ?_)
                      go_big_quiet_op
                      refine hK _ ?_; clear hK K
                      refine rg_det rfl rfl rfl (fun K hK => ?_)
                      go_big_quiet_op
                      refine hK _ ?_; clear hK K
                      refine rg_det rfl rfl rfl (fun K hK => ?_)
                      go_big_quiet_op
                      refine hK _ ?_; clear hK K
                      refine rg_det rfl rfl rfl (fun K hK => ?_)
                      go_big_quiet_op
                      refine hK _ ?_; clear hK K
                      refine rg_det rfl rfl rfl (fun K hK => ?_)
                      go_big_quiet_op
                      refine hK _ ?_; clear hK K
                      refine rg_det rfl rfl rfl (fun K hK => ?_)
                      go_big_quiet_op
                      refine hK _ ?_; clear hK K
                      refine rg_det rfl rfl rfl (fun K hK => ?_)
                      go_big_quiet_op
                      refine hK _ ?_; clear hK K
                      refine rg_val rfl rfl (fun W1 hW1 hF => step_callv en_attestor_attestorref02_Sub (xSub v q W1) rfl rfl) ?_
                      intro a' ha
                      simp only [Act.put, List.setIfInBounds_toArray, List.set_cons_succ, List.set_cons_zero] at ha
                      subst ha
                      refine rg_val rfl rfl (fun W1 hW1 hF => step_callv en_attestor_attestorref02_Mul (xMul sc (v - q) W1) rfl rfl) ?_
                      intro a' ha
                      simp only [Act.put, List.setIfInBounds_toArray, List.set_cons_succ, List.set_cons_zero] at ha
                      subst ha
                      refine rg_det rfl rfl rfl (fun K hK => ?_)
                      go_big_quiet_op
                      refine hK _ ?_; clear hK K
                      refine rg_val rfl rfl (fun W1 hW1 hF => step_callv en_attestor_attestorref02_Sub (xSub (sc * (v - q)) c W1) rfl rfl) ?_
                      intro a' ha
                      simp only [Act.put, List.setIfInBounds_toArray, List.set_cons_succ, List.set_cons_zero] at ha
                      subst ha
                      refine rg_rel rfl rfl (fun W1 hW1 hF => step_lit1 Tryz.underlying22 hi1 jz0 jz1 (by decide) (by decide) rfl rfl rfl) ?_
                      intro ns20 ms20 vs20 hns20 hms20 hds20 hfs20 a' ha
                      simp only [Act.put, List.setIfInBounds_toArray, List.set_cons_succ, List.set_cons_zero] at ha
                      subst ha
                      obtain rfl := hfs20
                      refine rg_nil (fun w' hw' hF => ?_)
                      obtain ⟨z2, rfl⟩ := hw'
                      simp only [List.drop_succ_cons, List.drop_zero]
                      obtain ⟨hms', -, hls, bL⟩ := end_last hF
                      have hO2 := own_below hown (Nat.le_refl _) z2.h
                      have hz2s := z2.h.size
                      have hBz := hBy.trans (z2.h.mono hsy)
                      clear hF f1 f2 f3 f4 f5 f6 f7 f8 hds20
                      go_wp2_with (at_builtin; refine wpList_app1 rfl _ _ rfl Tryz.underlying22 hi1 jz0 jz1 jz2 rfl (by decide) (cl := ec (sc * (v - q) - c)) rfl (ec_one _) rfl rfl hO2 bL ?h63 ?hby ?hbase ?_)
                      case h63 => unfold maxLen; omega
                      case hby => omega
                      case hbase => omega
                      intro v1 w7 hown7 hgrow hB7
                      rw [← HX'.out] at hown7
                      clear hgrow hO2 bL
                      go_wp2_with fail
                      exact ⟨⟨x + 1, by omega, by go_num, hown7, hBz.trans hB7⟩, by simp [intOf]; omega⟩
                    · obtain rfl : L = x := by omega
                      have hown' := hown
                      rw [List.take_of_length_le (by rw [HrL.out]; exact Nat.le_refl _)] at hown'
                      have hE : ExtS U.heap.size Y1.heap.size Y1 (.slice Av (L) cv) row := by
                        unfold ExtS
                        rw [HrL.out]
                        exact Rd.of_own hown' (by omega) (Nat.le_refl _)
                      have al : Below Y1.heap.size Y1 (Y1.alloc (.cells #[.slice Av (L) cv] 22)) := (Below.refl _ _).alloc (Nat.le_refl _) _
                      have hUa := hBy.trans (al.mono hsy)
                      have hrU := hrowU.keep hUa
                      have b16a := b16U.keep hUa
                      have b17a := b17U.keep hUa
                      have lb16 := b16a.lt
                      have lb17 := b17a.lt
                      have hYa : (Y1.alloc (.cells #[.slice Av (L) cv] 22)).heap.size = Y1.heap.size + 1 := by simp
                      go_wp2_with (at_builtin; refine wpList_appW (x := .slice Av (L) cv) (y := row) (lo := U.heap.size) (hi := Y1.heap.size) (b0 := go0) (b1 := X3.heap.size) (ts := R.take j) rfl _ _ rfl Tryz.underlying37 rfl rfl ?hrow ?hsrc rfl ?hE ?hlo ?hhi ?hout ?hk ?hbase ?_)
                      case hrow => exact hrU
                      case hsrc => exact Blk.new_at _ _ _ rfl
                      case hE => exact Rd.keep hE al
                      case hlo => omega
                      case hhi => simp
                      case hout => exact hrowo.out _
                      case hk => rw [List.length_take]; omega
                      case hbase => simp; omega
                      intro u' w8 hrow8 hB8 hg8 hob8
                      have c16 := grown_blk hg8 b16a (fun e => hn16 e.symm)
                      have c17 := grown_blk hg8 b17a (fun e => hn17 e.symm)
                      have h8s : Y1.heap.size + 1 ≤ w8.heap.size := by have := hg8.size; omega
                      have hwa := h8.trans (hUa.mono h8.size)
                      have hE8 := rd_kept (Rd.keep hE al) (Kept.of_grown hg8 (hrowo.out _) (by omega)) hg8.size
                      have b5a := (b5U.keep hUa).below hB8 (by omega)
                      have h8' := hwa.trans (hB8.mono (by omega))
                      have hX8 := (hX3U.trans (hUa.mono (by omega))).trans hB8
                      rw [← HRk.out] at hrow8
                      have hn16' : u'.ownBlock ≠ some g16 := by
                        rcases hob8 with h | h
                        · rw [h]; exact hn16
                        · rw [h]; simp; omega
                      have hn17' : u'.ownBlock ≠ some g17 := by
                        rcases hob8 with h | h
                        · rw [h]; exact hn17
                        · rw [h]; simp; omega
                      have HAt := Lib.hid (show ∀ W1, Below w8.heap.size w8 W1 → Calls Tryz.prog 64 #[.slice Av L cv, ev xj] W1 (Ret (ev (atE row xj)) W1) from fun W1 hW => by
                        have := pAt row xj (by rw [HrL.out]; omega) _ _ _ W1 (Rd.keep hE8 hW)
                        exact this)
                      have y1 := gw_blk c16
                      have y2 := gw_blk b5a
                      have y3 := gw_cell (Nat.lt_of_lt_of_le lc h8'.size) ((h8'.cell (p := ⟨gc, oc + j * 2, none⟩) lc).trans d4)
                      have y4 := gw_cell (Nat.lt_of_lt_of_le lc h8'.size) ((h8'.cell (p := ⟨gc, oc + j * 2 + 1, none⟩) lc).trans d5)
                      generalize atE row xj = a at *
                      clear hE8 hob8 hg8 hrU hrowU b16a b17a b16U b17U b5U bU hE al hUa hown hown' e1 d4 d5
                      go_wp2_with fail
                      refine wp_region_rg 9 [(7, Spec.val (.agg #[.int .u64 (fv (a).a), .int .u64 (fv (a).b)])), (8, Spec.val (.agg #[.int .u64 (fv ((c + a)).a), .int .u64 (fv ((c + a)).b)]))] (by kernel_rfl) (by kernel_rfl) (by kernel_rfl) trivial ?_
                      refine rg_det rfl rfl rfl (fun K hK => ?_)
                      go_big_quiet_op
                      refine hK _ ?_; clear hK K
                      refine rg_det rfl rfl rfl (fun K hK => ?_)
                      go_big_quiet_op
                      refine hK _ ?_; clear hK K
                      refine rg_det rfl rfl rfl (fun K hK => ?_)
                      go_big_quiet_op
                      refine hK _ ?_; clear hK K
                      refine rg_det rfl rfl rfl (fun K hK => ?_)
                      go_big_quiet_op
                      refine hK _ ?_; clear hK K
                      refine rg_det rfl rfl rfl (fun K hK => ?_)
                      go_big_quiet_op
                      refine hK _ ?_; clear hK K
                      refine rg_det rfl rfl rfl (fun K hK => ?_)
                      go_big_quiet_op
                      refine hK _ ?_; clear hK K
                      refine rg_det rfl rfl rfl (fun K hK => ?_)
                      go_big_quiet_op
                      refine hK _ ?_; clear hK K
                      refine rg_val rfl rfl (fun W1 hW1 hF => step_callv en_attestor_attestorref03_At (HAt.out W1 (grw_below hW1)) rfl rfl) ?_
                      intro a' ha
                      simp only [Act.put, List.setIfInBounds_toArray, List.set_cons_succ, List.set_cons_zero] at ha
                      subst ha
                      refine rg_val rfl rfl (fun W1 hW1 hF => step_callv en_attestor_attestorref02_Add (xAdd c a W1) rfl rfl) ?_
                      intro a' ha
                      simp only [Act.put, List.setIfInBounds_toArray, List.set_cons_succ, List.set_cons_zero] at ha
                      subst ha
                      refine rg_nil (fun w' hw' hF => ?_)
                      obtain ⟨z4, rfl⟩ := hw'
                      simp only [List.drop_succ_cons, List.drop_zero]
                      have c16z := c16.gw z4
                      have c17z := c17.gw z4
                      have hrz := hrow8.keep z4.h
                      have hz4 := z4.h.size
                      have hXz := hX8.trans (z4.h.mono (by have := hX8.size; omega))
                      have e1 := c16z.cell
                      have e2 := c16z.frozen
                      clear hF y1 y2 y3 y4 c16 c17 hrow8
                      go_wp2_with fail
                      have hp : Put z4.w ((z4.w.setCell ⟨g16, 0, none⟩ (.int .u64 (fv (c + a).a))).setCell ⟨g16, 1, none⟩ (.int .u64 (fv (c + a).b))) g16 := (Put.set _ _ _ _).trans (Put.set _ _ _ _)
                      exact ⟨⟨j + 1, by omega, by go_num, hrz.put hp (by omega) hn16', by rw [HcN.out]; exact blk_set2 c16z, hp.blk c17z (by omega), hn16', hn17', below_put hXz hp (by omega)⟩, by simp [intOf]; omega⟩
                · obtain rfl : j = k := by omega
                  rw [List.take_of_length_le (by rw [HRl2.out]; exact Nat.le_refl _)] at hrow
                  have hT := hrow.tabs (by omega) (by rw [HRl2.out]; omega)
                  obtain ⟨AU, cU, hv⟩ := hT.len
                  rw [HRl2.out] at hv
                  subst hv
                  have HTT := Lib.hid (hT.wide (show w.heap.size ≤ go0 by omega) (Nat.le_refl _))
                  clear hT hrow
                  go_wp2_with fail
                  refine bodyPost_ret (v := .tuple #[.slice AU j cU, .int .i64 0]) (by simp [results, Tryz.results17, go_sem]) rfl ⟨.slice AU j cU, by rw [HX.out], by rw [HX.out]; exact HTT.out, h7⟩
  · have hne : ((rl : Int) != (n : Int)) = true := by simp; omega
    have hne2 : ¬ ((rl : Int) = (n : Int)) := by omega
    clear e5
    go_wp2_with fail
    refine bodyPost_ret (v := .tuple #[nilV, .int .i64 1]) (by simp [nilV, results, Tryz.results17, go_sem]) rfl ⟨nilV, by rw [HE1.out hrn], by rw [HE1.out hrn]; exact nil_tabs _ _ _, h1⟩
end Go.Proofs.YtnddfeidggcplaaGreat
