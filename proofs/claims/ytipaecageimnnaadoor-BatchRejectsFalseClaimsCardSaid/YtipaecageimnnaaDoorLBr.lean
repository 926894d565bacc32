/-
  BatchRejectsFalseClaims: the walk.
-/
import Derived.Test.YtipaecageimnnaaDoorRj21
import Derived.Test.YtipaecageimnnaaDoorRiv
namespace Go.Proofs.YtipaecageimnnaaDoor
open Go.RowKit

/-- The claims' cells after one value was written. -/
theorem clm_set {X : World} {g k : Nat} {t : TypeId} {cur : Array Value} {cs : List ClW} {x : ClW} {y : E}
    (hb : Blk X g t ((cur.setIfInBounds (k * 3 + 1) (.int .u64 (fv y.a))).setIfInBounds (k * 3 + 1 + 1) (.int .u64 (fv y.b)))) (hpre : ∀ (j : Nat) u, (cs.flatMap clc)[j]? = some u → cur[j]? = some u) (hk : cs[k]? = some x) :
    ∀ (j : Nat) u, ((cs.set k (⟨x.1.p, y⟩, x.2)).flatMap clc)[j]? = some u → X.cell? ⟨g, 0 + j, none⟩ = some u := by
  intro j u hj
  rw [Nat.zero_add, hb.cell]
  have hkl := (List.getElem?_eq_some_iff.1 hk).1
  have hjl : j < (cs.set k (⟨x.1.p, y⟩, x.2)).length * 3 := by rw [← flat_length clc_len]; exact (List.getElem?_eq_some_iff.1 hj).1
  rw [List.length_set] at hjl
  have hi : j / 3 < cs.length := by omega
  have hr := Nat.mod_lt j (show 0 < 3 by decide)
  have hjj : j / 3 * 3 + j % 3 = j := Nat.div_add_mod' j 3
  by_cases hik : j / 3 = k
  · have hy : (cs.set k (⟨x.1.p, y⟩, x.2))[j / 3]? = some (⟨x.1.p, y⟩, x.2) := by rw [hik]; simp [hkl]
    have h2 := flat_get clc_len _ (j / 3) (j % 3) _ _ hy (List.getElem?_eq_getElem (by rw [clc_len]; exact hr))
    rw [hjj, hj] at h2
    have hcur : ∀ r v, (clc x)[r]? = some v → cur[k * 3 + r]? = some v := fun r v hv => hpre _ _ (flat_get clc_len _ k r _ _ hk hv)
    have c1 := hcur 1 _ rfl
    have c2 := hcur 2 _ rfl
    have s1 := (Array.getElem?_eq_some_iff.1 c1).1
    have s2 := (Array.getElem?_eq_some_iff.1 c2).1
    have h3 : j % 3 = 0 ∨ j % 3 = 1 ∨ j % 3 = 2 := by omega
    rcases h3 with h3 | h3 | h3
    · have hj0 : j = k * 3 + 0 := by omega
      have hu : u = ptV x := by
        have : some u = (clc (⟨x.1.p, y⟩, x.2))[j % 3]? := by rw [h2]; exact (List.getElem?_eq_getElem (by rw [clc_len]; exact hr)).symm
        rw [h3] at this
        exact Option.some.inj this
      rw [hu, Array.getElem?_setIfInBounds_ne (by omega), Array.getElem?_setIfInBounds_ne (by omega), hj0]
      exact hcur 0 _ rfl
    · have hj0 : j = k * 3 + 1 := by omega
      have hu : u = .int .u64 (fv y.a) := by
        have : some u = (clc (⟨x.1.p, y⟩, x.2))[j % 3]? := by rw [h2]; exact (List.getElem?_eq_getElem (by rw [clc_len]; exact hr)).symm
        rw [h3] at this
        exact Option.some.inj this
      rw [hu, Array.getElem?_setIfInBounds_ne (by omega), hj0, Array.getElem?_setIfInBounds_self_of_lt s1]
    · have hj0 : j = k * 3 + 1 + 1 := by omega
      have hu : u = .int .u64 (fv y.b) := by
        have : some u = (clc (⟨x.1.p, y⟩, x.2))[j % 3]? := by rw [h2]; exact (List.getElem?_eq_getElem (by rw [clc_len]; exact hr)).symm
        rw [h3] at this
        exact Option.some.inj this
      rw [hu, hj0, Array.getElem?_setIfInBounds_self_of_lt (by rw [Array.size_setIfInBounds]; exact s2)]
  · have hy : (cs.set k (⟨x.1.p, y⟩, x.2))[j / 3]? = some (cs[j / 3]) := by
      rw [List.getElem?_set_ne (fun e => hik e.symm)]
      exact List.getElem?_eq_getElem hi
    have h2 := flat_get clc_len _ (j / 3) (j % 3) _ _ hy (List.getElem?_eq_getElem (by rw [clc_len]; exact hr))
    have h4 := flat_get clc_len cs (j / 3) (j % 3) _ _ (List.getElem?_eq_getElem hi) (List.getElem?_eq_getElem (by rw [clc_len]; exact hr))
    rw [hjj] at h2 h4
    rw [hj] at h2
    rw [Array.getElem?_setIfInBounds_ne (by omega), Array.getElem?_setIfInBounds_ne (by omega)]
    exact hpre j u (h4.trans h2.symm)
/-- A row that a function owns: the block, and its cells from the start. -/
theorem own_blk {w : World} {base n size cap : Nat} {e : TypeId} {A : Option Addr} {xs : List Value} (h : w.ownsRow base e size (.slice A n cap) n xs) (hn : 0 < n) : ∃ g cur, A = some ⟨g, 0, none⟩ ∧ n ≤ cap ∧ base ≤ g ∧ Blk w g e cur ∧ ∀ (j : Nat) u, xs[j]? = some u → cur[j]? = some u := by
  obtain ⟨h1, h2⟩ := h
  rcases h2 with ⟨h3, h4⟩ | ⟨g, cap', cur, h3, h4, h5, h6⟩
  · omega
  · cases h3
    refine ⟨g, cur, rfl, h6.1, h4, h5, fun j u hj => ?_⟩
    rw [← h6.2.2.2, List.getElem?_take] at hj
    split at hj
    · rwa [Array.getElem?_toList] at hj
    · cases hj
theorem TabS.put2 {lo hi g : Nat} {w X : World} {v : Value} {tabs : List (List E)} (h : TabS lo hi w v tabs) (hp : Put w X g) (hne : g < lo ∨ hi ≤ g) : TabS lo hi X v tabs :=
  h.other (by rw [hp.size]; exact Nat.le_refl _) fun k h1 h2 _ => hp.other k (by omega)
theorem truB_pts {T : List E} {us : List ClW} {lo hi : Nat} {w : World} (h : ∀ x ∈ us, ExtS lo hi w (ptV x) x.1.p) : ∀ x ∈ truB T us, ExtS lo hi w (ptV x) x.1.p := fun x hx => by
  obtain ⟨y, hy, rfl⟩ := List.mem_map.1 hx
  exact h y hy
attribute [local irreducible] wpRg
set_option maxRecDepth 100000 in
set_option maxHeartbeats 8000000 in
theorem wkBatchRejects (q : Q21) (vT vL vC : Value) (at_ : Nat) (hat : at_ < 256) (rd : Raw) (hrd : Word rd.1 ∧ Word rd.2) (w : World) (h : Q21S w.heap.size w q vT vL vC) (hL : Laid w) :
    Calls Tryd.prog 5 #[qv21 vT vL vC q, .int .u8 (at_ : Int), .agg #[.int .u64 rd.1, .int .u64 rd.2]] w (Ret (.bool true) w) := by
  have HQ := Lib.hid (fun W (hW : Below w.heap.size w W) => gProblem q vT vL vC W (h.keep hW))
  have HL := Lib.hid (fun W (hW : Below w.heap.size w W) => hL.keep hW)
  have HD := Lib.hid (xMade rd.1 rd.2 hrd.1.1 hrd.1.2 hrd.2.1 hrd.2.2)
  have hk4 := q.hk
  have HT := Lib.hid q.ht
  have HC := Lib.hid q.hc
  have HU := Lib.hid (fun us => @Q21.us q us)
  have hp4 : 2 ^ q.k ≤ 2 ^ 4 := Nat.pow_le_pow_right (by decide) hk4
  unfold qv21 at *
  obtain ⟨r1, r2⟩ := rd
  simp only at *
  generalize em r1 r2 = d at *
  clear h hL hrd
  go_enter Tryd.func5, Tryd.ntmps5
  go_wp2_with fail
  refine calls_stk2 fun W1 hB1 hz1 b1 bd => ?_
  refine (lSanity21 W1 (HL.out _ hB1)).mono ?_
  rintro e w1 ⟨rfl, hb1⟩
  have h1 := hB1.trans (hb1.mono hB1.size)
  have f1 := (b1.keep hb1).cell
  have bd1 := bd.keep hb1
  go_wp2_with fail
  refine (HQ.out w1 h1).mono ?_
  rintro e w2 ⟨v1, v2, AC, cc, us, rfl, T2, U2, hus, C2, hb2⟩
  obtain ⟨hup, hun⟩ := HU.out us hus
  have h2 := h1.trans (hb2.mono h1.size)
  have bd2 := bd1.keep hb2
  clear f1 HQ HU hus b1 bd bd1
  generalize q.t = T at *
  generalize q.c = co at *
  generalize q.r = r at *
  generalize q.k = k at *
  obtain ⟨AT, cT, rfl⟩ := Rd.len T2
  obtain ⟨AU, cU, rfl⟩ := U2.len
  go_upto_region 3 with (fail)
  refine wp_stk1 fun W3 hB3 hz3 b3 => ?_
  have hs3 := hz3.out
  have h3 := h2.trans (hB3.mono h2.size)
  have bd3 := bd2.keep hB3
  go_wp2_with fail
  refine (rTrue21o T us (.slice AT T.length cT) (.slice AU us.length cU) _ _ _ _ W3 (hB3.size) (Rd.keep T2 hB3) (U2.keep hB3) (by rw [HT.out]; omega) (by omega) (fun x hx => by rw [HT.out, hup x hx])).mono ?_
  rintro e w4 ⟨v4, rfl, ⟨U4, O4⟩, hb4⟩
  have hB4 := hB3.trans (hb4.mono hB3.size)
  have h4 := h2.trans (hB4.mono h2.size)
  have hn4 : (truB T us).length ≤ 5 := by rw [truB_length]; exact hun
  have hp4' := truB_p (T := T) hup
  have ht4 := truB_true T us
  have P4 := fun x hx => Rd.keep (truB_pts (T := T) U2.2 x hx) hB4
  generalize truB T us = cs at *
  obtain ⟨A4, c4, rfl⟩ := U4.len
  have T4 := Rd.keep T2 hB4
  have C4 := Rd.keep C2 hB4
  have b4 := b3.keep hb4
  have bd4 := bd3.keep hb4
  have fd := bd4.cell
  go_wp2_with fail
  refine (HD.out w4).mono ?_
  rintro e w5 ⟨he, hb5⟩
  unfold ev at he
  subst he
  have h5 := h4.trans (hb5.mono h4.size)
  clear fd HD bd2 bd3 b3
  go_upto_region 5 with (fail)
  refine wp_stk1 fun W5 hB5 hz5 b12 => ?_
  have hs5 := hz5.out
  have hK5 := hb5.trans (hB5.mono hb5.size)
  have h6 := h4.trans (hK5.mono h4.size)
  have b5 := b4.keep hK5
  have f5 := b5.cell
  go_wp2_with fail
  refine (gProveB T cs r co k HC.out (by omega) AC cc (.slice AT T.length cT) (.slice A4 cs.length c4) _ _ _ _ _ _ W5 hK5.size (Nat.le_trans hB4.size hK5.size) (Rd.keep T4 hK5) (U4.keep hK5) (Rd.keep C4 hK5) HT.out (fun x hx => by rw [HT.out, hp4' x hx]) (HL.out _ h6)).mono ?_
  rintro e w6 ⟨v6, rfl, R6, hb6⟩
  clear f5
  have hK6 := hK5.trans (hb6.mono hK5.size)
  have h7 := h6.trans (hb6.mono h6.size)
  have b6 := b5.keep hb6
  have b12' := b12.keep hb6
  obtain ⟨A6, c6, rfl⟩ := R6.len
  unfold clV clc ptV
  dsimp only
  go_upto_region 6 with (fail)
  refine wp_stk1 fun W6 hB6 hz6 b14 => ?_
  have hs6 := hz6.out
  have hL6 := hK6.trans (hB6.mono hK6.size)
  have h8 := h7.trans (hB6.mono h7.size)
  have b7 := b6.keep hB6
  have f7 := b7.cell
  have b127 := b12'.keep hB6
  go_wp2_with fail
  have HE := rEval T co (by rw [HT.out]; omega) (by rw [HC.out]; omega) _ _ _ _ _ _ W6 (Rd.keep T4 hL6) (Rd.keep C4 hL6)
  rw [dotE_all T co (by rw [HC.out, HT.out])] at HE
  refine HE.mono ?_
  clear HE
  rintro e w7 ⟨he, hb7⟩
  clear f7
  have HV := Lib.hid (show ∀ W1, Below w4.heap.size w4 W1 → TabS W5.heap.size w6.heap.size W1 (Value.slice A6 (prvR (tabB T cs r) trmB co).length c6) (prvR (tabB T cs r) trmB co) → Calls Tryd.prog 11 #[.slice A4 cs.length c4, .slice A6 (prvR (tabB T cs r) trmB co).length c6, .agg #[.int .u64 (fv r.a), .int .u64 (fv r.b), .slice AC co.length cc, .int .u64 (fv (mev T co + d).a), .int .u64 (fv (mev T co + d).b)]] W1 (Ret (if d * wgtC cs r co = 0 then .tuple #[clV (⟨co, mev T co + d⟩, (AC, cc)), .int .i64 0] else .tuple #[clm0, .int .i64 111]) W1) from fun W1 hW hR => by
    have := gVerifyB cs r (prvR (tabB T cs r) trmB co) co (mev T co + d) AC cc _ _ _ _ _ _ _ _ W1 hW.size (U4.keep hW) (Rd.keep C4 hW) hR (by rw [prvR_length, HC.out]; omega) (fun x hx => by rw [HC.out, hp4' x hx]) (HL.out _ (h4.trans (hW.mono h4.size)))
    rwa [vfyB_value T cs r d co AC cc (by rw [HT.out, HC.out]) (fun x hx => by rw [HC.out, hp4' x hx]) ht4] at this)
  have HW := Lib.hid (show ∀ W1, Below w4.heap.size w4 W1 → Calls Tryd.prog 24 #[.slice A4 cs.length c4, .agg #[.int .u64 (fv r.a), .int .u64 (fv r.b)], .slice AC co.length cc] W1 (Ret (ev (wgtC cs r co)) W1) from fun W1 hW =>
    gWeightB cs r co _ _ _ _ _ _ W1 hW.size (U4.keep hW) (Rd.keep C4 hW) (fun x hx => by rw [HC.out, hp4' x hx]) (HL.out _ (h4.trans (hW.mono h4.size))))
  have HF := Lib.hid (show ∀ (k' : Nat) (x : ClW), cs[k']? = some x → r ≠ 0 → d ≠ 0 → ∀ (W1 : World) (g : Nat), Below w.heap.size w W1 → w2.heap.size ≤ W1.heap.size → A4 = some ⟨g, 0, none⟩ → g < W1.heap.size → cs.length ≤ c4 → (∀ (j : Nat) u, ((cs.set k' (⟨x.1.p, x.1.v + d⟩, x.2)).flatMap clc)[j]? = some u → W1.cell? ⟨g, 0 + j, none⟩ = some u) → (∀ x ∈ cs, ExtS w1.heap.size w2.heap.size W1 (ptV x) x.1.p) → ExtS w1.heap.size w2.heap.size W1 (.slice AC co.length cc) co → TabS W5.heap.size w6.heap.size W1 (Value.slice A6 (prvR (tabB T cs r) trmB co).length c6) (prvR (tabB T cs r) trmB co) →
      ∃ err : Int, err ≠ 0 ∧ Calls Tryd.prog 11 #[.slice A4 cs.length c4, .slice A6 (prvR (tabB T cs r) trmB co).length c6, .agg #[.int .u64 (fv r.a), .int .u64 (fv r.b), .slice AC co.length cc, .int .u64 (fv (mev T co).a), .int .u64 (fv (mev T co).b)]] W1 (Ret (.tuple #[clm0, .int .i64 err]) W1) from fun k' x hx hr0 hd0 W1 g hW hw2 hA hg hcap hcell hpts hco hR => by
    obtain ⟨err, he, hv⟩ := vfyB_false T cs r d co AC cc (by rw [HT.out, HC.out]) (fun x hx => by rw [HC.out, hp4' x hx]) ht4 k' x hx hr0 hd0
    have hl : (cs.set k' (⟨x.1.p, x.1.v + d⟩, x.2)).length = cs.length := List.length_set
    have hU : ClmU 0 W1.heap.size W1 (.slice A4 (cs.set k' (⟨x.1.p, x.1.v + d⟩, x.2)).length c4) (cs.set k' (⟨x.1.p, x.1.v + d⟩, x.2)) := by
      refine ⟨⟨flat_length clc_len _, by rw [hl]; omega, A4, c4, rfl, by rw [hl]; exact hcap, fun _ => ⟨g, 0, hA, Nat.zero_le _, hg, hg, hcell⟩⟩, fun y hy => ?_⟩
      rcases List.mem_or_eq_of_mem_set hy with hy | hy
      · exact Rd.wide (hpts y hy) (Nat.zero_le _) hw2
      · subst hy
        exact Rd.wide (hpts x (List.mem_of_getElem? hx)) (Nat.zero_le _) hw2
    have := gVerifyB _ r (prvR (tabB T cs r) trmB co) co (mev T co) AC cc _ _ _ _ _ _ _ _ W1 (Nat.le_refl _) hU hco hR (by rw [prvR_length, HC.out]; omega) (fun y hy => by
      rcases List.mem_or_eq_of_mem_set hy with hy | hy
      · rw [HC.out, hp4' y hy]
      · subst hy
        show co.length = x.1.p.length
        rw [HC.out, hp4' x (List.mem_of_getElem? hx)]) (HL.out _ hW)
    rw [hv, hl] at this
    exact ⟨err, he, this⟩)
  generalize prvR (tabB T cs r) trmB co = gs at *
  generalize gs.length = lr at *
  generalize wgtC cs r co = wg at *
  have R7 := R6.keep (hB6.trans (hb7.mono hB6.size))
  have hLL := hL6.trans (hb7.mono hL6.size)
  have h9 := h8.trans (hb7.mono h8.size)
  generalize mev T co = y at *
  unfold ev at he
  subst he
  unfold clV clc ptV clm0 at HV
  unfold clm0 at HF
  dsimp only at HV
  have b8 := b7.keep hb7
  have b128 := b127.keep hb7
  have hs45 := hK5.size
  clear b14 R6 ht4 U4 T4 T2 U2 C2 b5 b6 b7 b12 b12' b127 bd4 hb6 hK5 hb5 hb4 hp4' hup
  go_upto_region 7 with (fail)
  refine wp_stk1 fun W7 hB7 hz7 b15 => ?_
  have hs7 := hz7.out
  have h10 := h9.trans (hB7.mono h9.size)
  have hM := hLL.trans (hB7.mono hLL.size)
  have R8 := R7.keep hB7
  have d10 := b8.keep hB7
  have d12 := b128.keep hB7
  obtain ⟨AX, nX, cX, x1, x2, e0, hval, hcase⟩ : ∃ AX nX cX x1 x2 e0, (if d * wg = 0 then Value.tuple #[.agg #[.slice AC co.length cc, .int .u64 (fv (y + d).a), .int .u64 (fv (y + d).b)], .int .i64 0] else .tuple #[.agg #[.slice none 0 0, .int .u64 0, .int .u64 0], .int .i64 111]) = .tuple #[.agg #[.slice AX nX cX, .int .u64 x1, .int .u64 x2], .int .i64 e0] ∧ ((e0 = 0 ∧ d * wg = 0) ∨ (e0 = 111 ∧ d * wg ≠ 0)) := by
    by_cases hz : d * wg = 0
    · exact ⟨_, _, _, _, _, _, if_pos hz, .inl ⟨rfl, hz⟩⟩
    · exact ⟨_, _, _, _, _, _, if_neg hz, .inr ⟨rfl, hz⟩⟩
  rw [hval] at HV
  have HCs := Lib.hid hcase
  clear hval hcase
  obtain ⟨i0, hi0, iz0, iz1, iz2⟩ := info_parts clm_info
  obtain ⟨i1, hi1, jz0, jz1, jz2⟩ := info_parts ext_info
  clear b8 b128 R7
  apply join21 (Q := fun n X => Below W7.heap.size W7 X)
  case h =>
    intro kk
    have KK := Lib.hid kk
    clear kk
    have y10 := gw_blk d10
    have y12 := gw_blk d12
    have y15 := gw_blk b15
    refine wp_region_swap 12 10 undef [(5, Spec.val (.agg #[.int .u64 (fv ((y + d)).a), .int .u64 (fv ((y + d)).b)])), (7, Spec.val (.tuple #[.agg #[.slice AX nX cX, .int .u64 x1, .int .u64 x2], .int .i64 e0])), (11, Spec.rel (New 38 #[.slice none 0 0, .int .u64 0, .int .u64 0]) (NewF))] (by kernel_rfl) (by kernel_rfl) (by kernel_rfl) rfl rfl rfl rfl ⟨fit_new, trivial⟩ ?_ ?_
    refine rg_det rfl rfl rfl (fun K hK => ?_)
    go_big_quiet_op
    refine hK _ ?_; clear hK K
    refine rg_det rfl rfl rfl (fun K hK => ?_)
    go_big_quiet_op
    refine hK _ ?_; clear hK K
    refine rg_det rfl rfl rfl (fun K hK => ?_)
    go_big_quiet_op
    refine hK _ ?_; clear hK K
    refine rg_det rfl rfl rfl (fun K hK => ?_)
    go_big_quiet_op
    refine hK _ ?_; clear hK K
    refine rg_det rfl rfl rfl (fun K hK => ?_)
    go_big_quiet_op
    refine hK _ ?_; clear hK K
    refine rg_val rfl rfl (fun W1 hW1 hF => step_callv en_attestor_attestorref02_Add (xAdd y d W1) rfl rfl) ?_
    intro a' ha
    simp only [Act.put, List.setIfInBounds_toArray, List.set_cons_succ, List.set_cons_zero] at ha
    subst ha
    refine rg_det rfl rfl rfl (fun K hK => ?_)
    go_big_quiet_op
    refine hK _ ?_; clear hK K
    refine rg_val rfl rfl (fun W1 hW1 hF => step_callv en_attestor_batch_Verify (HV.out W1 (hM.trans ((grw_below hW1).mono hM.size)) (R8.keep (grw_below hW1))) rfl rfl) ?_
    intro a' ha
    simp only [Act.put, List.setIfInBounds_toArray, List.set_cons_succ, List.set_cons_zero] at ha
    subst ha
    refine rg_det rfl rfl rfl (fun K hK => ?_)
    go_big_quiet_op
    refine hK _ ?_; clear hK K
    refine rg_det rfl rfl rfl (fun K hK => ?_)
    go_big_quiet_op
    refine hK _ ?_; clear hK K
    refine rg_det rfl rfl rfl (fun K hK => ?_)
    go_big_quiet_op
    refine hK _ ?_; clear hK K
    refine rg_rel rfl rfl (fun W1 hW1 hF => step_new hi0 iz0 rfl) ?_
    intro n11 m11 v11 hn11 hm11 hd11 hf11 a' ha
    simp only [Act.put, List.setIfInBounds_toArray, List.set_cons_succ, List.set_cons_zero] at ha
    subst ha
    obtain rfl := hf11
    refine rg_nil (fun w' hw' hF => ?_)
    obtain ⟨z, rfl⟩ := hw'
    simp only [List.drop_succ_cons, List.drop_zero]
    rotate_left 1
    refine rg_det rfl rfl rfl (fun K hK => ?_)
    go_big_quiet_op
    refine hK _ ?_; clear hK K
    refine rg_det rfl rfl rfl (fun K hK => ?_)
    go_big_quiet_op
    refine hK _ ?_; clear hK K
    refine rg_det rfl rfl rfl (fun K hK => ?_)
    go_big_quiet_op
    refine hK _ ?_; clear hK K
    refine rg_det rfl rfl rfl (fun K hK => ?_)
    go_big_quiet_op
    refine hK _ ?_; clear hK K
    refine rg_det rfl rfl rfl (fun K hK => ?_)
    go_big_quiet_op
    refine hK _ ?_; clear hK K
    refine rg_val rfl rfl (fun W1 hW1 hF => step_callv en_attestor_attestorref02_Add (xAdd y d W1) rfl rfl) ?_
    intro a' ha
    simp only [Act.put, List.setIfInBounds_toArray, List.set_cons_succ, List.set_cons_zero] at ha
    subst ha
    refine rg_det rfl rfl rfl (fun K hK => ?_)
    go_big_quiet_op
    refine hK _ ?_; clear hK K
    refine rg_val rfl rfl (fun W1 hW1 hF => step_callv en_attestor_batch_Verify (HV.out W1 (hM.trans ((grw_below hW1).mono hM.size)) (R8.keep (grw_below hW1))) rfl rfl) ?_
    intro a' ha
    simp only [Act.put, List.setIfInBounds_toArray, List.set_cons_succ, List.set_cons_zero] at ha
    subst ha
    refine rg_det rfl rfl rfl (fun K hK => ?_)
    go_big_quiet_op
    refine hK _ ?_; clear hK K
    refine rg_det rfl rfl rfl (fun K hK => ?_)
    go_big_quiet_op
    refine hK _ ?_; clear hK K
    refine rg_pass rfl rfl ?_
    intro a' ha
    simp only [Act.put, List.setIfInBounds_toArray, List.set_cons_succ, List.set_cons_zero] at ha
    subst ha
    refine rg_rel rfl rfl (fun W1 hW1 hF => step_new hi0 iz0 rfl) ?_
    intro n11 m11 v11 hn11 hm11 hd11 hf11 a' ha
    simp only [Act.put, List.setIfInBounds_toArray, List.set_cons_succ, List.set_cons_zero] at ha
    subst ha
    obtain rfl := hf11
    refine rg_nil (fun w' hw' hF => ?_)
    obtain ⟨z, rfl⟩ := hw'
    simp only [List.drop_succ_cons, List.drop_zero]
    refine wpList_putS ?_
    intro a' ha
    simp only [Act.put, List.setIfInBounds_toArray, List.set_cons_succ, List.set_cons_zero] at ha
    subst ha
    rotate_right 1
    all_goals
      obtain ⟨hm11, -, hl11, b11⟩ := end_last hF
      have e1 := b11.cell
      have e2 := b11.frozen
      clear hF y10 y12 y15
      go_upto_region 8 with (fail)
      rename_i K hK
      refine set3B (M := fun W => Code.wp _ _ _ _ W) b11 fun X1 hX1 bX1 => ?_
      revert K
      exact KK.out n11 X1 (below_put z.h hX1 hn11)
  intro n16 X1 BX1 K hK
  clear HV
  have h11 := h10.trans (BX1.mono h10.size)
  have hN := hM.trans (BX1.mono hM.size)
  have y10 := gw_blk (d10.keep BX1)
  have y12 := gw_blk (d12.keep BX1)
  refine wp_region_rg 9 [(6, Spec.val (.agg #[.int .u64 (fv (wg).a), .int .u64 (fv (wg).b)])), (7, Spec.val (.agg #[.int .u64 (fv ((d * wg)).a), .int .u64 (fv ((d * wg)).b)])), (8, Spec.rel (New 26 #[.int .u64 0, .int .u64 0]) (NewF))] (by kernel_rfl) (by kernel_rfl) (by kernel_rfl) ⟨fit_new, trivial⟩ ?_
  refine rg_det rfl rfl rfl (fun K hK => ?_)
  go_big_quiet_op
  refine hK _ ?_; clear hK K
  refine rg_det rfl rfl rfl (fun K hK => ?_)
  go_big_quiet_op
  refine hK _ ?_; clear hK K
  refine rg_det rfl rfl rfl (fun K hK => ?_)
  go_big_quiet_op
  refine hK _ ?_; clear hK K
  refine rg_det rfl rfl rfl (fun K hK => ?_)
  go_big_quiet_op
  refine hK _ ?_; clear hK K
  refine rg_det rfl rfl rfl (fun K hK => ?_)
  go_big_quiet_op
  refine hK _ ?_; clear hK K
  refine rg_det rfl rfl rfl (fun K hK => ?_)
  go_big_quiet_op
  refine hK _ ?_; clear hK K
  refine rg_val rfl rfl (fun W1 hW1 hF => step_callv en_attestor_batch_Weight (HW.out W1 (hN.trans ((grw_below hW1).mono hN.size))) rfl rfl) ?_
  intro a' ha
  simp only [Act.put, List.setIfInBounds_toArray, List.set_cons_succ, List.set_cons_zero] at ha
  subst ha
  refine rg_val rfl rfl (fun W1 hW1 hF => step_callv en_attestor_attestorref02_Mul (xMul d wg W1) rfl rfl) ?_
  intro a' ha
  simp only [Act.put, List.setIfInBounds_toArray, List.set_cons_succ, List.set_cons_zero] at ha
  subst ha
  refine rg_rel rfl rfl (fun W1 hW1 hF => step_new hi1 jz0 rfl) ?_
  intro n8 m8 v8 hn8 hm8 hd8 hf8 a' ha
  simp only [Act.put, List.setIfInBounds_toArray, List.set_cons_succ, List.set_cons_zero] at ha
  subst ha
  obtain rfl := hf8
  refine rg_nil (fun w' hw' hF => ?_)
  obtain ⟨z, rfl⟩ := hw'
  simp only [List.drop_succ_cons, List.drop_zero]
  obtain ⟨hm8, -, hl8, b18⟩ := end_last hF
  have e1 := b18.cell
  have e2 := b18.frozen
  clear hF y10 y12
  go_upto_region 9 with (fail)
  refine set2 (M := fun W => Code.wp _ _ _ _ W) b18 fun X2 hX2 bX2 => ?_
  have BX2 := below_put z.h hX2 hn8
  clear e1 e2 b18 HW
  have f18 := bX2.cell
  go_wp2_with fail
  refine (xIsZero (d * wg) _).mono ?_
  rintro e w8 ⟨he, hb8⟩
  subst he
  clear f18
  have BX3 := BX1.trans ((BX2.trans (hb8.mono BX2.size)).mono BX1.size)
  have h12 := h10.trans (BX3.mono h10.size)
  have R9 := R8.keep BX3
  have g10 := d10.keep BX3
  have g12 := d12.keep BX3
  have g15 := b15.keep BX3
  rcases HCs.out with ⟨rfl, hz⟩ | ⟨rfl, hz⟩
  · rw [decide_eq_true hz]
    clear hz HCs
    go_upto_region 11 with (fail)
    have f12 := g12.cell
    by_cases hn0 : cs.length = 0
    · go_wp2_with fail
      go_ret
      exact ⟨rfl, h12⟩
    have hne : (((cs.length : Nat) : Int) == 0) = false := by rw [beq_eq_false_iff_ne]; omega
    go_wp2_with fail
    refine (xIsZero d _).mono ?_
    rintro e w9 ⟨he, hb9⟩
    subst he
    clear f12
    have h13 := h12.trans (hb9.mono h12.size)
    by_cases hd0 : d = 0
    · rw [decide_eq_true hd0]
      clear hd0
      go_wp2_with fail
      go_ret
      exact ⟨rfl, h13⟩
    rw [decide_eq_false hd0]
    have f10 := (g10.keep hb9).cell
    have Hd0 := Lib.hid hd0
    clear hd0
    go_wp2_with fail
    refine (xIsZero r _).mono ?_
    rintro e w10 ⟨he, hb10⟩
    subst he
    clear f10
    have h14 := h13.trans (hb10.mono h13.size)
    by_cases hr0 : r = 0
    · rw [decide_eq_true hr0]
      clear hr0
      go_wp2_with fail
      go_ret
      exact ⟨rfl, h14⟩
    rw [decide_eq_false hr0]
    have Hr0 := Lib.hid hr0
    clear hr0 hne
    have BX4 := BX3.trans ((hb9.trans (hb10.mono hb9.size)).mono BX3.size)
    have hmod : Int.tmod (at_ : Int) ((cs.length : Nat) : Int) = ((at_ % cs.length : Nat) : Int) := rfl
    have hlt := Nat.mod_lt at_ (Nat.pos_of_ne_zero hn0)
    have hne' : (((cs.length : Nat) : Int) = 0) = False := eq_false (by omega)
    obtain ⟨g, cur, rfl, hcap, hgW3, hB0, hpre⟩ := own_blk O4 (Nat.pos_of_ne_zero hn0)
    have HPre := Lib.hid hpre
    clear hpre O4
    generalize hkk : at_ % cs.length = kk at *
    clear hkk
    obtain ⟨x, hx⟩ : ∃ x, cs[kk]? = some x := ⟨_, List.getElem?_eq_getElem hlt⟩
    have hN4 := hM.trans (BX4.mono hM.size)
    have hBg := hB0.keep hN4
    have c1 : w10.cell? ⟨g, kk * 3 + 1, none⟩ = some (.int .u64 (fv x.1.v.a)) := (hBg.cell _).trans (HPre.out (kk * 3 + 1) _ (flat_get clc_len _ kk 1 _ _ hx rfl))
    have c2 : w10.cell? ⟨g, kk * 3 + 1 + 1, none⟩ = some (.int .u64 (fv x.1.v.b)) := (hBg.cell _).trans (HPre.out (kk * 3 + 2) _ (flat_get clc_len _ kk 2 _ _ hx rfl))
    have HFx := Lib.hid (HF.out kk x hx Hr0.out Hd0.out)
    have hg4 := hB0.lt
    clear hB0 HF
    go_upto_region 14 with (fail)
    clear hmod hne'
    have k1 := gw_cell hBg.lt c1
    have k2 := gw_cell hBg.lt c2
    have y12 := gw_blk ((g12.keep hb9).keep hb10)
    refine wp_region_rg 11 [(8, Spec.val (.agg #[.int .u64 (fv ((x.1.v + d)).a), .int .u64 (fv ((x.1.v + d)).b)]))] (by kernel_rfl) (by kernel_rfl) (by kernel_rfl) trivial ?_
    refine rg_det rfl rfl rfl (fun K hK => ?_)
    go_big_quiet_op
    refine hK _ ?_; clear hK K
    refine rg_det rfl rfl rfl (fun K hK => ?_)
    go_big_quiet_op
    refine hK _ ?_; clear hK K
    refine rg_det rfl rfl rfl (fun K hK => ?_)
    go_big_quiet_op
    refine hK _ ?_; clear hK K
    refine rg_det rfl rfl rfl (fun K hK => ?_)
    go_big_quiet_op
    refine hK _ ?_; clear hK K
    refine rg_det rfl rfl rfl (fun K hK => ?_)
    go_big_quiet_op
    refine hK _ ?_; clear hK K
    refine rg_det rfl rfl rfl (fun K hK => ?_)
    go_big_quiet_op
    refine hK _ ?_; clear hK K
    refine rg_det rfl rfl rfl (fun K hK => ?_)
    go_big_quiet_op
    refine hK _ ?_; clear hK K
    refine rg_det rfl rfl rfl (fun K hK => ?_)
    go_big_quiet_op
    refine hK _ ?_; clear hK K
    refine rg_val rfl rfl (fun W1 hW1 hF => step_callv en_attestor_attestorref02_Add (xAdd x.1.v d W1) rfl rfl) ?_
    intro a' ha
    simp only [Act.put, List.setIfInBounds_toArray, List.set_cons_succ, List.set_cons_zero] at ha
    subst ha
    refine rg_det rfl rfl rfl (fun K hK => ?_)
    go_big_quiet_op
    refine hK _ ?_; clear hK K
    refine rg_det rfl rfl rfl (fun K hK => ?_)
    go_big_quiet_op
    refine hK _ ?_; clear hK K
    refine rg_nil (fun w' hw' hF => ?_)
    obtain ⟨zs, rfl⟩ := hw'
    simp only [List.drop_succ_cons, List.drop_zero]
    clear hF k1 k2 y12
    have bG := hBg.gw zs
    have e1 := (zs.h.cell (p := ⟨g, kk * 3 + 1, none⟩) hBg.lt).trans c1
    have e2 := (zs.h.cell (p := ⟨g, kk * 3 + 1 + 1, none⟩) hBg.lt).trans c2
    have e3 := bG.frozen
    clear c1 c2
    go_upto_region 15 with (fail)
    refine set2 (M := fun W => Code.wp _ _ _ _ W) bG fun X3 hX3 bX3 => ?_
    clear e1 e2 e3 bG
    have hg2 : w2.heap.size < g := by omega
    have BZ := hN4.trans (zs.h.mono hN4.size)
    have hw3 := h3.size
    have h15 : Below w.heap.size w X3 := below_put (h14.trans (zs.h.mono h14.size)) hX3 (by omega)
    have hz9 := (hb9.trans (hb10.mono hb9.size)).trans (zs.h.mono (hb9.trans (hb10.mono hb9.size)).size)
    have q10 := hX3.blk (g10.keep hz9) (by omega)
    have hw7 := hLL.size
    have q15 := hX3.blk (g15.keep hz9) (by omega)
    have hlt3 := bX3.lt
    obtain ⟨err, herr, HVc⟩ := HFx.out X3 g h15 (by omega) rfl hlt3 hcap (clm_set bX3 HPre.out hx) (fun x hx => hX3.rd (Rd.keep (P4 x hx) BZ) (.inr (by omega))) (hX3.rd (Rd.keep C4 BZ) (.inr (by omega))) ((R9.keep hz9).put2 hX3 (.inl (by omega)))
    have herr' : (err != 0) = true := bne_iff_ne.2 herr
    have e10 := q10.cell
    have e15 := q15.cell
    clear HFx hX3 hs3 hs5 hs6 hs7 hg4 hgW3 hg2 hw3 hw7 hlt3 hs45 hlt hx HPre
    go_wp2_with fail
    refine HVc.mono ?_
    rintro e w11 ⟨he, hb11⟩
    subst he
    clear HVc e10 e15
    have h16 := h15.trans (hb11.mono h15.size)
    go_upto_region 16 with (fail)
    refine wp_stk1 fun W9 hB9 _ b20 => ?_
    go_wp2_with fail
    go_ret
    exact ⟨rfl, h16.trans (hB9.mono h16.size)⟩
  · rw [decide_eq_false hz]
    clear hz HCs
    go_upto_region 11 with (fail)
    have f12 := g12.cell
    by_cases hn0 : cs.length = 0
    · go_wp2_with fail
      go_ret
      exact ⟨rfl, h12⟩
    have hne : (((cs.length : Nat) : Int) == 0) = false := by rw [beq_eq_false_iff_ne]; omega
    go_wp2_with fail
    refine (xIsZero d _).mono ?_
    rintro e w9 ⟨he, hb9⟩
    subst he
    clear f12
    have h13 := h12.trans (hb9.mono h12.size)
    by_cases hd0 : d = 0
    · rw [decide_eq_true hd0]
      clear hd0
      go_wp2_with fail
      go_ret
      exact ⟨rfl, h13⟩
    rw [decide_eq_false hd0]
    have f10 := (g10.keep hb9).cell
    have Hd0 := Lib.hid hd0
    clear hd0
    go_wp2_with fail
    refine (xIsZero r _).mono ?_
    rintro e w10 ⟨he, hb10⟩
    subst he
    clear f10
    have h14 := h13.trans (hb10.mono h13.size)
    by_cases hr0 : r = 0
    · rw [decide_eq_true hr0]
      clear hr0
      go_wp2_with fail
      go_ret
      exact ⟨rfl, h14⟩
    rw [decide_eq_false hr0]
    have Hr0 := Lib.hid hr0
    clear hr0 hne
    have BX4 := BX3.trans ((hb9.trans (hb10.mono hb9.size)).mono BX3.size)
    have hmod : Int.tmod (at_ : Int) ((cs.length : Nat) : Int) = ((at_ % cs.length : Nat) : Int) := rfl
    have hlt := Nat.mod_lt at_ (Nat.pos_of_ne_zero hn0)
    have hne' : (((cs.length : Nat) : Int) = 0) = False := eq_false (by omega)
    obtain ⟨g, cur, rfl, hcap, hgW3, hB0, hpre⟩ := own_blk O4 (Nat.pos_of_ne_zero hn0)
    have HPre := Lib.hid hpre
    clear hpre O4
    generalize hkk : at_ % cs.length = kk at *
    clear hkk
    obtain ⟨x, hx⟩ : ∃ x, cs[kk]? = some x := ⟨_, List.getElem?_eq_getElem hlt⟩
    have hN4 := hM.trans (BX4.mono hM.size)
    have hBg := hB0.keep hN4
    have c1 : w10.cell? ⟨g, kk * 3 + 1, none⟩ = some (.int .u64 (fv x.1.v.a)) := (hBg.cell _).trans (HPre.out (kk * 3 + 1) _ (flat_get clc_len _ kk 1 _ _ hx rfl))
    have c2 : w10.cell? ⟨g, kk * 3 + 1 + 1, none⟩ = some (.int .u64 (fv x.1.v.b)) := (hBg.cell _).trans (HPre.out (kk * 3 + 2) _ (flat_get clc_len _ kk 2 _ _ hx rfl))
    have HFx := Lib.hid (HF.out kk x hx Hr0.out Hd0.out)
    have hg4 := hB0.lt
    clear hB0 HF
    go_upto_region 14 with (fail)
    clear hmod hne'
    have k1 := gw_cell hBg.lt c1
    have k2 := gw_cell hBg.lt c2
    have y12 := gw_blk ((g12.keep hb9).keep hb10)
    refine wp_region_rg 11 [(8, Spec.val (.agg #[.int .u64 (fv ((x.1.v + d)).a), .int .u64 (fv ((x.1.v + d)).b)]))] (by kernel_rfl) (by kernel_rfl) (by kernel_rfl) trivial ?_
    refine rg_det rfl rfl rfl (fun K hK => ?_)
    go_big_quiet_op
    refine hK _ ?_; clear hK K
    refine rg_det rfl rfl rfl (fun K hK => ?_)
    go_big_quiet_op
    refine hK _ ?_; clear hK K
    refine rg_det rfl rfl rfl (fun K hK => ?_)
    go_big_quiet_op
    refine hK _ ?_; clear hK K
    refine rg_det rfl rfl rfl (fun K hK => ?_)
    go_big_quiet_op
    refine hK _ ?_; clear hK K
    refine rg_det rfl rfl rfl (fun K hK => ?_)
    go_big_quiet_op
    refine hK _ ?_; clear hK K
    refine rg_det rfl rfl rfl (fun K hK => ?_)
    go_big_quiet_op
    refine hK _ ?_; clear hK K
    refine rg_det rfl rfl rfl (fun K hK => ?_)
    go_big_quiet_op
    refine hK _ ?_; clear hK K
    refine rg_det rfl rfl rfl (fun K hK => ?_)
    go_big_quiet_op
    refine hK _ ?_; clear hK K
    refine rg_val rfl rfl (fun W1 hW1 hF => step_callv en_attestor_attestorref02_Add (xAdd x.1.v d W1) rfl rfl) ?_
    intro a' ha
    simp only [Act.put, List.setIfInBounds_toArray, List.set_cons_succ, List.set_cons_zero] at ha
    subst ha
    refine rg_det rfl rfl rfl (fun K hK => ?_)
    go_big_quiet_op
    refine hK _ ?_; clear hK K
    refine rg_det rfl rfl rfl (fun K hK => ?_)
    go_big_quiet_op
    refine hK _ ?_; clear hK K
    refine rg_nil (fun w' hw' hF => ?_)
    obtain ⟨zs, rfl⟩ := hw'
    simp only [List.drop_succ_cons, List.drop_zero]
    clear hF k1 k2 y12
    have bG := hBg.gw zs
    have e1 := (zs.h.cell (p := ⟨g, kk * 3 + 1, none⟩) hBg.lt).trans c1
    have e2 := (zs.h.cell (p := ⟨g, kk * 3 + 1 + 1, none⟩) hBg.lt).trans c2
    have e3 := bG.frozen
    clear c1 c2
    go_upto_region 15 with (fail)
    refine set2 (M := fun W => Code.wp _ _ _ _ W) bG fun X3 hX3 bX3 => ?_
    clear e1 e2 e3 bG
    have hg2 : w2.heap.size < g := by omega
    have BZ := hN4.trans (zs.h.mono hN4.size)
    have hw3 := h3.size
    have h15 : Below w.heap.size w X3 := below_put (h14.trans (zs.h.mono h14.size)) hX3 (by omega)
    have hz9 := (hb9.trans (hb10.mono hb9.size)).trans (zs.h.mono (hb9.trans (hb10.mono hb9.size)).size)
    have q10 := hX3.blk (g10.keep hz9) (by omega)
    have hw7 := hLL.size
    have q15 := hX3.blk (g15.keep hz9) (by omega)
    have hlt3 := bX3.lt
    obtain ⟨err, herr, HVc⟩ := HFx.out X3 g h15 (by omega) rfl hlt3 hcap (clm_set bX3 HPre.out hx) (fun x hx => hX3.rd (Rd.keep (P4 x hx) BZ) (.inr (by omega))) (hX3.rd (Rd.keep C4 BZ) (.inr (by omega))) ((R9.keep hz9).put2 hX3 (.inl (by omega)))
    have herr' : (err != 0) = true := bne_iff_ne.2 herr
    have e10 := q10.cell
    have e15 := q15.cell
    clear HFx hX3 hs3 hs5 hs6 hs7 hg4 hgW3 hg2 hw3 hw7 hlt3 hs45 hlt hx HPre
    go_wp2_with fail
    refine HVc.mono ?_
    rintro e w11 ⟨he, hb11⟩
    subst he
    clear HVc e10 e15
    have h16 := h15.trans (hb11.mono h15.size)
    go_upto_region 16 with (fail)
    refine wp_stk1 fun W9 hB9 _ b20 => ?_
    go_wp2_with fail
    go_ret
    exact ⟨rfl, h16.trans (hB9.mono h16.size)⟩
end Go.Proofs.YtipaecageimnnaaDoor
