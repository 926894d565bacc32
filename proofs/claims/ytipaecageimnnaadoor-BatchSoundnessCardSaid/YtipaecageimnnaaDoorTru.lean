/-
  The reference's True: claims with their true values.
-/
import Derived.Test.YtipaecageimnnaaDoorClm
import Derived.Test.YtipaecageimnnaaDoorMr1
import Derived.Test.YtipaecageimnnaaDoorGrow
namespace Go.Proofs.YtipaecageimnnaaDoor
open Go.RowKit

theorem clm_info : (Tryd.prog.info? 38).map (fun i => (i.zero, i.size, i.bytes)) = some (some (.agg #[.slice none 0 0, .int .u64 0, .int .u64 0]), 3, 40) := by kernel_rfl
theorem clc_one (x : ClW) : ∀ u ∈ clc x, u.oneCell' = true := by
  intro u hu
  simp only [clc, ptV, List.mem_cons, List.not_mem_nil, or_false] at hu
  rcases hu with rfl | rfl | rfl <;> rfl
/-- A claim with its true value. -/
def truC (T : List E) (x : ClW) : ClW := (⟨x.1.p, mev T x.1.p⟩, x.2)
def truB (T : List E) (cs : List ClW) : List ClW := cs.map (truC T)
theorem truB_snoc (T : List E) (cs : List ClW) (j : Nat) (x : ClW) (h : cs[j]? = some x) : (truB T (cs.take (j + 1))).flatMap clc = (truB T (cs.take j)).flatMap clc ++ clc (truC T x) := by
  unfold truB; rw [List.take_add_one, h, List.map_append, List.flatMap_append]; simp
set_option maxRecDepth 100000 in
set_option maxHeartbeats 2000000 in
theorem rTrue21o (T : List E) (cs : List ClW) (vt vl : Value) (lo hi lo2 hi2 : Nat) (w : World) (hhi : hi ≤ w.heap.size) (hT : ExtS lo2 hi2 w vt T) (hcs : ClmU lo hi w vl cs) (hTl : T.length ≤ 1000000) (hn : cs.length ≤ 1000) (hpl : ∀ x ∈ cs, T.length = 2 ^ x.1.p.length) :
    Calls Tryd.prog 9 #[vt, vl] w fun e w' => ∃ v, e = .returned v ∧ (ClmU 0 w'.heap.size w' v (truB T cs) ∧ w'.ownsRow w.heap.size 38 3 v (truB T cs).length ((truB T cs).flatMap clc)) ∧ Below w.heap.size w w' := by
  obtain ⟨A, cap, rfl⟩ := hcs.len
  obtain ⟨AT, capT, rfl⟩ := Rd.len hT
  have HC := Lib.hid hcs
  have HE := Lib.hid (fun W (hW : Below w.heap.size w W) x (hx : x ∈ cs) => show Calls Tryd.prog 12 #[.slice AT T.length capT, ptV x] W (Ret (ev (mev T x.1.p)) W) from by
    have hl := hpl x hx
    have hp60 : x.1.p.length ≤ 60 := by
      refine Decidable.byContradiction fun hc => ?_
      have : 2 ^ 61 ≤ 2 ^ x.1.p.length := Nat.pow_le_pow_right (by decide) (by omega)
      omega
    rw [← dotE_all T x.1.p hl]
    exact rEval T x.1.p hTl hp60 _ _ _ _ _ _ W (Rd.keep hT hW) (Rd.keep (hcs.2 x hx) hW))
  obtain ⟨i0, hi0, hz0, hz1, hz2⟩ := info_parts clm_info
  obtain ⟨L, hL⟩ : ∃ L, L = cs.length := ⟨_, rfl⟩
  obtain ⟨N, hN⟩ : ∃ N, N = T.length := ⟨_, rfl⟩
  rw [← hL] at HC hn ⊢
  rw [← hN] at HE ⊢
  have HLn := Lib.hid hL
  clear hT hcs hpl hTl hL hN
  go_enter Tryd.func9, Tryd.ntmps9
  go_wp2
  go_loopw [5, 6] (fun v i wr => ∃ j : Nat, j ≤ L ∧ i = .int .i64 j ∧ wr.ownsRow w.heap.size 38 3 v j ((truB T (cs.take j)).flatMap clc) ∧ Below w.heap.size w wr) (fun _ i _ => L - (intOf i).toNat)
  case atStart => exact ⟨0, Nat.zero_le _, rfl, ⟨by simp [truB], .inr ⟨w.heap.size, 0, #[], rfl, Nat.le_refl _, World.alloc_heap_new w _, Nat.le_refl _, Nat.zero_le _, rfl, by simp [truB]⟩⟩, (Below.refl _ _).alloc (Nat.le_refl _) _⟩
  case round =>
    obtain ⟨j, hj, rfl, hown, hB⟩ := hrel
    by_cases hlt : j < L
    · obtain ⟨gC, oC, cC, hv, -, -, -, lC, qC⟩ := HC.out.cells (by rw [← HLn.out]; omega)
      rw [← HLn.out] at hv
      cases hv
      obtain ⟨x, hx⟩ : ∃ x, cs[j]? = some x := ⟨_, List.getElem?_eq_getElem (by rw [← HLn.out]; exact hlt)⟩
      obtain ⟨-, d1, -, -⟩ := qC j x hx
      have HX := Lib.hid (fun W1 (hW1 : Below wr.heap.size wr W1) => HE.out W1 (hB.trans (hW1.mono hB.size)) x (List.mem_of_getElem? hx))
      have HP := Lib.hid (truB_snoc T cs j x hx)
      have k1 := gw_cell (W := wr) (Nat.lt_of_lt_of_le lC hB.size) ((hB.cell (p := ⟨gC, oC + j * 3, none⟩) lC).trans d1)
      obtain ⟨⟨xp, xv⟩, Ax, cx⟩ := x
      simp only [ptV, truC, clc] at HX HP k1
      clear qC hx d1
      generalize mev T xp = y at *
      go_upto_region 5 with (fail)
      refine wp_region_rg 15 [(12, Spec.val (.agg #[.int .u64 (fv (y).a), .int .u64 (fv (y).b)])), (14, Spec.rel (Lit 38 1 #[.slice Ax xp.length cx, .int .u64 (fv y.a), .int .u64 (fv y.b)]) AnyV)] (by kernel_rfl) (by kernel_rfl) (by kernel_rfl) ⟨fit_of (stable_lit), trivial⟩ ?_
      refine rg_det rfl rfl rfl (fun K hK => ?_)
      go_big_quiet_op
      refine hK _ ?_; clear hK K
      refine rg_det rfl rfl rfl (fun K hK => ?_)
      go_big_quiet_op
      refine hK _ ?_; clear hK K
      refine rg_det rfl rfl rfl (fun K hK => ?_)
      go_big_quiet_op
      refine hK _ ?_; clear hK K
      refine rg_det rfl rfl rfl (fun K hK => ?_)
      go_big_quiet_op
      refine hK _ ?_; clear hK K
      refine rg_det rfl rfl rfl (fun K hK => ?_)
      go_big_quiet_op
      refine hK _ ?_; clear hK K
      refine rg_det rfl rfl rfl (fun K hK => ?_)
      go_big_quiet_op
      refine hK _ ?_; clear hK K
      refine rg_det rfl rfl rfl (fun K hK => ?_)
      go_big_quiet_op
      refine hK _ ?_; clear hK K
      refine rg_det rfl rfl rfl (fun K hK => ?_)
      go_big_quiet_op
      refine hK _ ?_; clear hK K
      refine rg_det rfl rfl rfl (fun K hK => ?_)
      go_big_quiet_op
      refine hK _ ?_; clear hK K
      refine rg_det rfl rfl rfl (fun K hK => ?_)
      go_big_quiet_op
      refine hK _ ?_; clear hK K
      refine rg_det rfl rfl rfl (fun K hK => ?_)
      go_big_quiet_op
      refine hK _ ?_; clear hK K
      refine rg_det rfl rfl rfl (fun K hK => ?_)
      go_big_quiet_op
      refine hK _ ?_; clear hK K
      refine rg_val rfl rfl (fun W1 hW1 hF => step_callv en_attestor_attestorref05_Eval (HX.out W1 (grw_below hW1)) rfl rfl) ?_
      intro a' ha
      simp only [Act.put, List.setIfInBounds_toArray, List.set_cons_succ, List.set_cons_zero] at ha
      subst ha
      refine rg_det rfl rfl rfl (fun K hK => ?_)
      go_big_quiet_op
      refine hK _ ?_; clear hK K
      refine rg_rel rfl rfl (fun W1 hW1 hF => step_lit1 Tryd.underlying23 hi0 hz0 hz1 (by decide) (by decide) rfl rfl rfl) ?_
      intro n14 m14 v14 hn14 hm14 hd14 hf14 a' ha
      simp only [Act.put, List.setIfInBounds_toArray, List.set_cons_succ, List.set_cons_zero] at ha
      subst ha
      refine rg_nil (fun w' hw' hF => ?_)
      obtain ⟨z, rfl⟩ := hw'
      simp only [List.drop_succ_cons, List.drop_zero]
      obtain ⟨hm, rfl, hlt', bl⟩ := end_last hF
      have hBz : Below wr.heap.size wr z.w := z.h
      clear hF k1
      go_wp2_with (at_builtin; refine wpList_app1 rfl _ _ rfl Tryd.underlying23 hi0 hz0 hz1 hz2 rfl (by decide) (cl := [.slice Ax xp.length cx, .int .u64 (fv y.a), .int .u64 (fv y.b)]) rfl (fun u hu => by simp only [List.mem_cons, List.not_mem_nil, or_false] at hu; rcases hu with rfl | rfl | rfl <;> rfl) rfl rfl (own_below hown (Nat.le_refl _) ?hX) ?hsrc ?h63 ?hby ?hbase ?_)
      case hX => exact hBz
      case hsrc => exact bl
      case h63 => unfold maxLen; omega
      case hby => omega
      case hbase => have := hB.size; have := hBz.size; omega
      intro v1 w3 hown3 hgrow hB3
      go_wp2
      exact ⟨⟨j + 1, by omega, by go_num, by rw [HP.out]; exact hown3, (hB.trans (hBz.mono hB.size)).trans hB3⟩, by simp [intOf]; omega⟩
    · obtain rfl : j = L := by omega
      go_wp2
      go_ret
      rw [List.take_of_length_le (by rw [← HLn.out]; exact Nat.le_refl _)] at hown
      have hR := Rd.of_own hown (by omega) (Nat.le_refl _)
      refine ⟨_, rfl, ⟨⟨?_, ?_⟩, ?_⟩, hB⟩
      rotate_left 2
      · rw [show (truB T cs).length = j by rw [HLn.out]; simp [truB]]
        exact hown
      · rw [show (truB T cs).length = j by rw [HLn.out]; simp [truB]]
        exact hR.wide (Nat.zero_le _) (Nat.le_refl _)
      · intro x hx
        obtain ⟨y, hy, rfl⟩ := List.mem_map.1 hx
        exact (Rd.keep (HC.out.2 y hy) hB).wide (Nat.zero_le _) (Nat.le_trans hhi hB.size)
theorem rTrue21 (T : List E) (cs : List ClW) (vt vl : Value) (lo hi lo2 hi2 : Nat) (w : World) (hhi : hi ≤ w.heap.size) (hT : ExtS lo2 hi2 w vt T) (hcs : ClmU lo hi w vl cs) (hTl : T.length ≤ 1000000) (hn : cs.length ≤ 1000) (hpl : ∀ x ∈ cs, T.length = 2 ^ x.1.p.length) :
    Calls Tryd.prog 9 #[vt, vl] w fun e w' => ∃ v, e = .returned v ∧ ClmU 0 w'.heap.size w' v (truB T cs) ∧ Below w.heap.size w w' :=
  (rTrue21o T cs vt vl lo hi lo2 hi2 w hhi hT hcs hTl hn hpl).mono fun _ _ ⟨v, h1, h2, h3⟩ => ⟨v, h1, h2.1, h3⟩
end Go.Proofs.YtipaecageimnnaaDoor
