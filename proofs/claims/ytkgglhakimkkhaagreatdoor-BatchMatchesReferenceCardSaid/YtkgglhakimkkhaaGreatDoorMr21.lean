/-
  The numbers of the fixed example of chapter 21.
  The fixed example of chapter 21.
  What the laws of chapter 21 share: the sizes of a problem.
  Same over any two rows, and Degree, of the reference's polynomials, by contract.
  MadeRounds of the reference's sums, by contract.
-/
import Derived.Test.YtkgglhakimkkhaaGreatDoorTk
import Derived.Test.YtkgglhakimkkhaaGreatDoorSm21
import Derived.Test.YtkgglhakimkkhaaGreatDoorP3
import Derived.Test.YtkgglhakimkkhaaGreatDoorZv
import Derived.Test.YtkgglhakimkkhaaGreatDoorMr3
import Derived.Test.YtkgglhakimkkhaaGreatDoorRq6
import Derived.Test.YtkgglhakimkkhaaGreatDoorRgM
namespace Go.Proofs.YtkgglhakimkkhaaGreatDoor
open Go.RowKit

def i21 (zs : List Int) : List E := zs.map fun z => eb (fz z)
def cmbK (val : Clm → E) (r : E) : E → List Clm → E
  | _, [] => 0
  | x, c :: cs => x * val c + cmbK val r (x * r) cs
theorem cmbK_eq (val : Clm → E) (r : E) : ∀ (cs : List ClW) (x : E), cmbE val (pwL r x cs) = cmbK val r x (cs.map (·.1))
  | [], _ => rfl
  | c :: cs, x => by
    show x * val c.1 + cmbE val (pwL r (x * r) cs) = _
    rw [cmbK_eq val r cs]; rfl
theorem accB_K (n : Nat) (r : E) (cs : List ClW) : accB n (pwL r 1 cs) = (List.range n).map fun i => cmbK (fun c => eqi i c.p) r 1 (cs.map (·.1)) := by
  unfold accB
  exact List.map_congr_left fun i _ => cmbK_eq _ r cs 1
def T21 : List E := i21 [1, 2]
def L21 : List Clm := [⟨[0], eb (fz 1)⟩, ⟨i21 [1], eb (fz 2)⟩]
def A21 : List E := i21 [1, 10]
theorem n21a : ((List.range 2).map fun i => cmbK (fun c => eqi i c.p) (eb (fz 10)) 1 L21) = A21 := by kernel_rfl
theorem n21b : cmbK (fun c => c.v) (eb (fz 10)) 1 L21 = eb (fz 21) := by kernel_rfl
theorem n21c : cmbK (fun c => pfac c.p (i21 [3]) c.p.length) (eb (fz 10)) 1 L21 = eb (fz 28) := by kernel_rfl
theorem n21d : cmbK (fun c => pfac c.p (i21 [2]) c.p.length) (eb (fz 10)) 1 L21 = eb (fz 19) := by kernel_rfl
theorem n21e : prvR [T21, A21] trmB (i21 [3]) = [i21 [1, 20, 57]] := by kernel_rfl
theorem n21f : (prvV [T21, A21] (i21 [3])).getD 0 0 = eb (fz 4) := by kernel_rfl
theorem n21g : cmbK (fun c => c.v) (eb (fz 10)) 1 (L21.take 1) = eb (fz 1) := by kernel_rfl
theorem n21h : eb (fz 4) * eb (fz 28) = eb (fz 112) := by kernel_rfl
theorem all21 : AllLen [T21, A21] (2 ^ (i21 [3]).length) := fun t ht => by
  simp only [List.mem_cons, List.not_mem_nil, or_false] at ht
  rcases ht with rfl | rfl <;> rfl
theorem t21 : totE [T21, A21] trmB = eb (fz 21) := by kernel_rfl
theorem f21 : finE (valL (prvV [T21, A21] (i21 [3]))) trmB = eb (fz 112) := by kernel_rfl
theorem n21i : vrfE 2 (eb (fz 21)) [i21 [1, 20, 57]] (i21 [3]) = (eb (fz 112), 0) := by
  have h := vrf_complete [T21, A21] trmB (i21 [3]) all21 (by decide) (by decide)
  rw [t21, n21e, f21] at h
  exact h
theorem n21j : vrfE 2 (eb (fz 1)) [i21 [1, 20, 57]] (i21 [3]) = (0, 60) := by
  have h := vrf_wrong [T21, A21] trmB (eb (fz 3)) [] (eb (fz 1)) all21 (by decide) (by decide) (by rw [t21]; decide +kernel)
  rw [show prvR [T21, A21] trmB [eb (fz 3)] = [i21 [1, 20, 57]] from n21e] at h
  exact h
theorem n21k : vrfE 2 (eb (fz 21)) [] (i21 [3]) = (0, 1) := if_pos (.inr (.inr (by decide)))
theorem m21a (cs : List ClW) (h : cs.map (·.1) = L21) : valB cs (eb (fz 10)) = eb (fz 21) := (cmbK_eq _ _ cs 1).trans (by rw [h]; exact n21b)
theorem m21b (cs : List ClW) (h : cs.map (·.1) = L21) : wgtC cs (eb (fz 10)) (i21 [3]) = eb (fz 28) := (cmbK_eq _ _ cs 1).trans (by rw [h]; exact n21c)
theorem m21c (cs : List ClW) (h : cs.map (·.1) = L21) : wgtC cs (eb (fz 10)) (i21 [2]) = eb (fz 19) := (cmbK_eq _ _ cs 1).trans (by rw [h]; exact n21d)
theorem m21d (cs : List ClW) (h : cs.map (·.1) = L21.take 1) : valB cs (eb (fz 10)) = eb (fz 1) := (cmbK_eq _ _ cs 1).trans (by rw [h]; exact n21g)
theorem m21t (cs : List ClW) (h : cs.map (·.1) = L21) : tabB T21 cs (eb (fz 10)) = [T21, A21] := by
  unfold tabB
  rw [accB_K, h, show T21.length = 2 from rfl, n21a]
variable (A : Option Addr) (cap : Nat)
theorem v21a (cs : List ClW) (h : cs.map (·.1) = L21) : vfyB cs (eb (fz 10)) [i21 [1, 20, 57]] (i21 [3]) (eb (fz 4)) A cap = .tuple #[clV (⟨i21 [3], eb (fz 4)⟩, (A, cap)), .int .i64 0] := by
  unfold vfyB
  rw [m21a cs h, m21b cs h, n21i, n21h]
  simp
theorem v21b (cs : List ClW) (h : cs.map (·.1) = L21) : vfyB cs (eb (fz 10)) [i21 [1, 20, 57]] (i21 [3]) (eb (fz 5)) A cap = .tuple #[clm0, .int .i64 111] := by
  unfold vfyB
  rw [m21a cs h, m21b cs h, n21i, if_neg (by simp), if_pos (show eb (fz 112) ≠ eb (fz 5) * eb (fz 28) by decide +kernel)]
theorem v21c (cs : List ClW) (h : cs.map (·.1) = L21.take 1) : vfyB cs (eb (fz 10)) [i21 [1, 20, 57]] (i21 [3]) (eb (fz 4)) A cap = .tuple #[clm0, .int .i64 60] := by
  unfold vfyB
  rw [m21d cs h, n21j, if_pos (by simp)]
theorem v21d (cs : List ClW) (h : cs.map (·.1) = L21) : vfyB cs (eb (fz 10)) [] (i21 [3]) (eb (fz 4)) A cap = .tuple #[clm0, .int .i64 1] := by
  unfold vfyB
  rw [m21a cs h, n21k, if_pos (by simp)]
end Go.Proofs.YtkgglhakimkkhaaGreatDoor
namespace Go.Proofs.YtkgglhakimkkhaaGreatDoor
open Go.RowKit

def c21 (g1 g2 : Nat) : List ClW := [(⟨[0], eb (fz 1)⟩, (some ⟨g1, 0, none⟩, 1)), (⟨i21 [1], eb (fz 2)⟩, (some ⟨g2, 0, none⟩, 1))]
theorem c21_L (g1 g2 : Nat) : (c21 g1 g2).map (·.1) = L21 := rfl
theorem c21_l (g1 g2 : Nat) : ∀ x ∈ c21 g1 g2, x.1.p.length = 1 := by
  intro x hx
  simp only [c21, List.mem_cons, List.not_mem_nil, or_false] at hx
  rcases hx with rfl | rfl <;> rfl
theorem c21_U {W : World} {g1 g2 g3 : Nat} {t : TypeId} (h1 : Blk W g1 26 #[.int .u64 0, .int .u64 0]) (h2 : Blk W g2 26 #[.int .u64 (fv (eb (fz 1)).a), .int .u64 (fv (eb (fz 1)).b)])
    (h3 : Blk W g3 t #[.slice (some ⟨g1, 0, none⟩) 1 1, .int .u64 (fv (eb (fz 1)).a), .int .u64 (fv (eb (fz 1)).b), .slice (some ⟨g2, 0, none⟩) 1 1, .int .u64 (fv (eb (fz 2)).a), .int .u64 (fv (eb (fz 2)).b)]) :
    ClmU 0 W.heap.size W (.slice (some ⟨g3, 0, none⟩) 2 2) (c21 g1 g2) := by
  refine ⟨rd_blkB (cs := (c21 g1 g2).flatMap clc) h3 rfl (by decide) (Nat.zero_le _) h3.lt, fun x hx => ?_⟩
  simp only [c21, List.mem_cons, List.not_mem_nil, or_false] at hx
  rcases hx with rfl | rfl
  · exact rd_blkB (cs := ([0] : List E).flatMap ec) h1 rfl (show 1 ≤ 1000000 by decide) (Nat.zero_le _) h1.lt
  · exact rd_blkB (cs := (i21 [1]).flatMap ec) h2 rfl (show 1 ≤ 1000000 by decide) (Nat.zero_le _) h2.lt
theorem en_attestor_attestorref21_Same : ∀ args w, (callFunc 12 args).run Tryz.prog w = .ok (.enter 12 args) w := enters_of Tryz.func12 (by kernel_rfl) rfl
theorem en_attestor_batch_Verify : ∀ args w, (callFunc 17 args).run Tryz.prog w = .ok (.enter 17 args) w := enters_of Tryz.func17 (by kernel_rfl) rfl
attribute [local irreducible] wpRg
theorem c21_U1 {W : World} {lo hi g1 g2 cap : Nat} {A : Option Addr} (h : ClmU lo hi W (.slice A 2 cap) (c21 g1 g2)) : ClmU lo hi W (.slice A 1 cap) [(⟨[0], eb (fz 1)⟩, (some ⟨g1, 0, none⟩, 1))] := by
  obtain ⟨⟨h1, h2, A', cap', h3, h4, h5⟩, h6⟩ := h
  cases h3
  refine ⟨⟨rfl, (show 1 ≤ 140737488355327 by decide), A, cap, rfl, Nat.le_trans (show 1 ≤ 2 by decide) h4, fun _ => ?_⟩, fun x hx => h6 x (by simp only [List.mem_singleton] at hx; subst hx; exact List.mem_cons_self ..)⟩
  obtain ⟨g, off, q1, q2, q3, q4, q5⟩ := h5 (show 0 < 2 by decide)
  refine ⟨g, off, q1, q2, q3, q4, fun j u hj => q5 j u ?_⟩
  have hl : j < 3 := (List.getElem?_eq_some_iff.1 hj).1
  rw [← hj]
  match j, hl with
  | 0, _ => rfl
  | 1, _ => rfl
  | 2, _ => rfl
theorem tab_cell {lo hi : Nat} {W : World} {A : Option Addr} {n cap : Nat} {tabs : List (List E)} (h : TabS lo hi W (.slice A n cap) tabs) (hn : 0 < tabs.length) : ∃ g off, A = some ⟨g, off, none⟩ ∧ g < W.heap.size ∧ ∀ k t, tabs[k]? = some t → ∃ B c, W.cell? ⟨g, off + k, none⟩ = some (.slice B t.length c) ∧ ExtS lo hi W (.slice B t.length c) t := by
  obtain ⟨us, hl, ⟨h1, h2, A', cap', h3, h4, h5⟩, h6⟩ := h
  cases h3
  obtain ⟨g, off, q1, q2, q3, q4, q5⟩ := h5 hn
  refine ⟨g, off, q1, q4, fun k t ht => ?_⟩
  have hk : k < us.length := by rw [hl]; exact (List.getElem?_eq_some_iff.1 ht).1
  have hx := h6 k _ t (List.getElem?_eq_getElem hk) ht
  obtain ⟨B, c, hB⟩ := Rd.len hx
  exact ⟨B, c, (q5 k _ (List.getElem?_eq_getElem hk)).trans (congrArg some hB), hB ▸ hx⟩
theorem rd_lit21 {xs : List E} {len n m : Nat} {v : Value} {W : World} (h : Lit 26 len (xs.flatMap ec).toArray n m v W) (hl : xs.length = len) (hs : len ≤ 1000000) : ExtS 0 W.heap.size W v xs := by
  obtain ⟨rfl, -, hb⟩ := h
  subst hl
  exact rd_blkB hb (flat_length ec_len _) hs (Nat.zero_le _) hb.lt
theorem join21 {A : Prop} {M : Nat → World → Prop} (Q : Nat → World → Prop) (h : (∀ n X, Q n X → M n X) → A) (k : ∀ n X, Q n X → M n X) : A := h k
set_option maxRecDepth 100000 in
set_option maxHeartbeats 4000000 in
theorem lSanity21 (w : World) (hL : Laid w) : Calls Tryz.prog 4 #[] w (Ret (.bool true) w) := by
  go_enter Tryz.func4, Tryz.ntmps4
  go_wp2_with fail
  refine calls_stk1 fun W1 hB1 hz1 b1 => ?_
  refine (xFromInt 1 (by decide) (by decide) W1).mono ?_
  rintro e w1 ⟨he, hb1⟩
  unfold ev at he
  subst he
  have h1 := hB1.trans (hb1.mono hB1.size)
  have b1a := b1.keep hb1
  go_upto_region 3 with (fail)
  refine wp_stk1 fun W2 hB2 hz2 b2 => ?_
  have h2 := h1.trans (hB2.mono h1.size)
  go_wp2_with fail
  refine (xFromInt 2 (by decide) (by decide) W2).mono ?_
  rintro e w2 ⟨he, hb2⟩
  unfold ev at he
  subst he
  have h3 := h2.trans (hb2.mono h2.size)
  have b2a := b2.keep hb2
  have b1b := (b1a.keep hB2).keep hb2
  clear b1 b2 b1a
  go_upto_region 4 with (fail)
  refine wp_stk1 fun W3 hB3 hz3 b3 => ?_
  have b1 := b1b.keep hB3
  have b2 := b2a.keep hB3
  have h4 := h3.trans (hB3.mono h3.size)
  have f1 := b1.cell
  have f2 := b2.cell
  have f3 := b3.cell
  clear b1b b2a
  go_upto_region 5 with (fail)
  refine wp_stk1 fun W4 hB4 hz4 b4 => ?_
  have b1' := b1.keep hB4
  have b2' := b2.keep hB4
  have b3' := b3.keep hB4
  have h5 := h4.trans (hB4.mono h4.size)
  clear f1 f2 f3 b1 b2 b3
  have f1 := b1'.cell
  have f2 := b2'.cell
  have f3 := b3'.cell
  have g2 := (b2'.alloc (.cells #[.int .u64 0, .int .u64 0] 26)).cell
  have g3 := ((b3'.alloc (.cells #[.int .u64 0, .int .u64 0] 26)).alloc (.cells #[.int .u64 (fv (eb (fz 1)).a), .int .u64 (fv (eb (fz 1)).b)] 26)).cell
  go_upto_region 6 with (fail)
  refine wp_stk3 fun W5 hB5 hz5 b5 b6 b7 => ?_
  have h6 := h5.trans (hB5.mono h5.size)
  have hs5 := hz5.out
  clear f1 f2 f3 g2 g3
  go_wp2_with fail
  refine (xFromInt 10 (by decide) (by decide) W5).mono ?_
  rintro e w5 ⟨he, hb5⟩
  unfold ev at he
  subst he
  have h7 := h6.trans (hb5.mono h6.size)
  go_wp2_with fail
  have U5 := (c21_U b5 b6 b7).keep hb5
  have T5 : ExtS 0 W4.heap.size w5 (.slice (some ⟨W3.heap.size, 0, none⟩) 2 2) T21 := ((rd_blkB (cs := T21.flatMap ec) b4 rfl (by decide) (Nat.zero_le _) b4.lt : ExtS 0 W4.heap.size W4 _ T21).keep hB5).keep hb5
  have hl5 := hB5.size
  have hl6 := hb5.size
  refine (gSumB T21 (c21 W4.heap.size (W4.heap.size + 1)) (eb (fz 10)) _ _ _ _ _ _ w5 hl6 (by omega) T5 U5 (by decide) (by decide) (fun x hx => by rw [c21_l _ _ x hx]; rfl) (hL.keep h7)).mono ?_
  rintro e w6 ⟨v1, v2, rfl, S6, hb6⟩
  rw [accB_K, c21_L, show T21.length = 2 from rfl, n21a] at S6
  rw [cmbK_eq, c21_L, n21b]
  have h8 := h7.trans (hb6.mono h7.size)
  have U6 := U5.keep hb6
  have T6 := Rd.keep T5 hb6
  have hl7 := hb6.size
  obtain ⟨A1, k1, hv⟩ := S6.ht.len
  obtain ⟨A2, k2, hv2⟩ := S6.hp.len
  replace hv : v1 = .slice A1 2 k1 := hv
  replace hv2 : v2 = .slice A2 1 k2 := hv2
  subst hv hv2
  have p1 := ((b1'.keep hB5).keep hb5).keep hb6
  have p2 := ((b2'.keep hB5).keep hb5).keep hb6
  have p3 := ((b3'.keep hB5).keep hb5).keep hb6
  clear b1' b2' b3' b4 b5 b6 b7 U5 T5
  generalize h21 : eb (fz 21) = e21 at *
  unfold sv ev
  go_upto_region 7 with (fail)
  refine wp_stk2 fun W6 hB6 hz6 c6 c7 => ?_
  have h9 := h8.trans (hB6.mono h8.size)
  go_wp2_with fail
  refine (xFromInt 10 (by decide) (by decide) W6).mono ?_
  rintro e w7 ⟨he, hb7⟩
  unfold ev at he
  subst he
  have h10 := h9.trans (hb7.mono h9.size)
  go_wp2_with fail
  refine (gSumB T21 [] (eb (fz 10)) _ _ 0 0 _ _ w7 (Nat.zero_le _) (by have := hB6.size; have := hb7.size; omega) (Rd.keep (Rd.keep T6 hB6) hb7) ⟨⟨rfl, by decide, none, 0, rfl, Nat.le_refl _, fun h => absurd h (by decide)⟩, fun x hx => by simp at hx⟩ (by decide) (by decide) (fun x hx => by simp at hx) (hL.keep h10)).mono ?_
  rintro e w8 ⟨v3, v4, rfl, S8, hb8⟩
  rw [show accB T21.length (pwL (eb (fz 10)) 1 []) = i21 [0, 0] from by kernel_rfl] at S8
  rw [show cmbE (fun c => c.v) (pwL (eb (fz 10)) 1 []) = (0 : E) from rfl]
  have h11 := h10.trans (hb8.mono h10.size)
  have T8 := Rd.keep (Rd.keep (Rd.keep T6 hB6) hb7) hb8
  have U8 := ((U6.keep hB6).keep hb7).keep hb8
  have S6b := ((S6.keep hB6).keep hb7).keep hb8
  have c6b := (c6.keep hb7).keep hb8
  have c7b := (c7.keep hb7).keep hb8
  obtain ⟨A3, k3, hv⟩ := S8.ht.len
  obtain ⟨A4, k4, hv2⟩ := S8.hp.len
  replace hv : v3 = .slice A3 2 k3 := hv
  replace hv2 : v4 = .slice A4 1 k4 := hv2
  subst hv hv2
  clear c6 c7 S6 T6 U6
  unfold sv ev
  go_upto_region 8 with (fail)
  refine wp_stk2 fun W8 hB8 hz8 c8 c9 => ?_
  have h12 := h11.trans (hB8.mono h11.size)
  go_wp2_with fail
  refine (xFromInt 10 (by decide) (by decide) W8).mono ?_
  rintro e w9 ⟨he, hb9⟩
  unfold ev at he
  subst he
  have h13 := h12.trans (hb9.mono h12.size)
  go_wp2_with fail
  refine (xFromInt 3 (by decide) (by decide) w9).mono ?_
  rintro e w10 ⟨he, hb10⟩
  unfold ev at he
  subst he
  have h14 := h13.trans (hb10.mono h13.size)
  go_wp2_with fail
  refine calls_stk1 fun W10 hB10 hz10 c10 => ?_
  have h15 := h14.trans (hB10.mono h14.size)
  have hT := (((hB8.trans (hb9.mono hB8.size)).trans ((hb10.trans (hB10.mono hb10.size)).mono (hB8.trans (hb9.mono hB8.size)).size)))
  have T10 := Rd.keep T8 hT
  have U10 := U8.keep hT
  have hs8 := hT.size
  have hs9 := hb8.size
  have hsa := hb7.size
  have hsb := hB6.size
  have C10 : ExtS 0 W10.heap.size W10 (.slice (some ⟨w10.heap.size, 0, none⟩) 1 1) (i21 [3]) := rd_blkB (cs := (i21 [3]).flatMap ec) c10 rfl (by decide) (Nat.zero_le _) c10.lt
  refine (gProveB T21 (c21 W4.heap.size (W4.heap.size + 1)) (eb (fz 10)) (i21 [3]) 1 rfl (by decide) (some ⟨w10.heap.size, 0, none⟩) 1 _ _ _ _ _ _ _ _ W10 (by omega) (by omega) T10 U10 C10 rfl (fun x hx => by rw [c21_l _ _ x hx]; rfl) (hL.keep h15)).mono ?_
  rintro e w11 ⟨v5, rfl, R11, hb11⟩
  rw [m21t _ (c21_L _ _)] at R11
  rw [m21t _ (c21_L _ _), n21f]
  rw [n21e] at R11
  obtain ⟨A5, k5, hv⟩ := R11.len
  replace hv : v5 = .slice A5 1 k5 := hv
  subst hv
  have h16 := h15.trans (hb11.mono h15.size)
  have hT2 := hT.trans (hb11.mono hT.size)
  have T11 := Rd.keep T10 hb11
  have U11 := U10.keep hb11
  have C11 := Rd.keep C10 hb11
  have d6 := c6b.keep hT2
  have d7 := c7b.keep hT2
  have hT3 := (hb9.trans ((hb10.trans (hB10.mono hb10.size)).mono hb9.size))
  have hT4 := hT3.trans (hb11.mono hT3.size)
  have d8 := c8.keep hT4
  have d9 := c9.keep hT4
  have S6c := S6b.keep hT2
  have S8c := S8.keep hT2
  clear c6b c7b c8 c9 T8 T10 U8 U10 C10 c10 S6b S8
  generalize h4 : eb (fz 4) = e4 at *
  unfold clV clc ptV
  dsimp only
  go_upto_region 9 with (fail)
  refine wp_stk1 fun W11 hB11 hz11 c11 => ?_
  have h17 := h16.trans (hB11.mono h16.size)
  have f6 := (d6.keep hB11).cell
  have f8 := (d8.keep hB11).cell
  go_upto_region 11 with (fail)
  clear f6 f8
  go_wp2_with fail
  refine (xFromInt 10 (by decide) (by decide) W11).mono ?_
  rintro e w12 ⟨he, hb12⟩
  unfold ev at he
  subst he
  have h18 := h17.trans (hb12.mono h17.size)
  go_wp2_with fail
  refine (xFromInt 3 (by decide) (by decide) w12).mono ?_
  rintro e w13 ⟨he, hb13⟩
  unfold ev at he
  subst he
  have h19 := h18.trans (hb13.mono h18.size)
  go_upto_region 12 with (fail)
  refine wp_stk2 fun W13 hB13 hz13 c12 c13 => ?_
  have hT5 := hB11.trans ((hb12.trans (hb13.mono hb12.size)).mono hB11.size)
  have hT6 := hT5.trans (hB13.mono hT5.size)
  have h20 := h19.trans (hB13.mono h19.size)
  have T13 := Rd.keep T11 hT6
  have U13 := U11.keep hT6
  have C13 := Rd.keep C11 hT6
  have R13 := R11.keep hT6
  have F4 := Lib.hid (show ∀ W1, Calls Tryz.prog 25 #[.int .i64 4] W1 (Ret (ev e4) W1) from fun W1 => h4 ▸ xFromInt 4 (by decide) (by decide) W1)
  have XV1 := Lib.hid (show ∀ W1, Below W13.heap.size W13 W1 → Calls Tryz.prog 17 #[.slice (some ⟨W4.heap.size + 1 + 1, 0, none⟩) 2 2, .slice A5 1 k5, .agg #[.int .u64 (fv (eb (fz 10)).a), .int .u64 (fv (eb (fz 10)).b), .slice (some ⟨w13.heap.size, 0, none⟩) 1 1, .int .u64 (fv e4.a), .int .u64 (fv e4.b)]] W1 (Ret (.tuple #[.agg #[.slice (some ⟨w13.heap.size, 0, none⟩) 1 1, .int .u64 (fv e4.a), .int .u64 (fv e4.b)], .int .i64 0]) W1) from fun W1 h => by
    have hC : ExtS 0 W13.heap.size W13 (.slice (some ⟨w13.heap.size, 0, none⟩) 1 1) (i21 [3]) := rd_blkB (cs := (i21 [3]).flatMap ec) c12 rfl (by decide) (Nat.zero_le _) c12.lt
    have := gVerifyB (c21 W4.heap.size (W4.heap.size + 1)) (eb (fz 10)) [i21 [1, 20, 57]] (i21 [3]) e4 (some ⟨w13.heap.size, 0, none⟩) 1 _ _ _ _ _ _ _ _ W1 (by have := hT6.size; have := hT2.size; have := h.size; omega) (U13.keep h) (Rd.keep hC h) (R13.keep h) (by decide) (fun x hx => by rw [c21_l _ _ x hx]; rfl) (hL.keep (h20.trans (h.mono h20.size)))
    rw [← h4, v21a _ _ _ (c21_L _ _), h4] at this
    exact this)
  obtain ⟨i0, hi0, iz0, iz1, iz2⟩ := info_parts clm_info
  apply join21 (Q := fun n X => Below W13.heap.size W13 X ∧ W13.heap.size ≤ n ∧ Blk X n 42 #[.slice (some ⟨w13.heap.size, 0, none⟩) 1 1, .int .u64 (fv e4.a), .int .u64 (fv e4.b)])
  case h =>
    intro kk
    have KK := Lib.hid kk
    clear kk
    have y13 := gw_blk c13
    refine wp_region_swap 10 8 undef [(3, Spec.val (.agg #[.int .u64 (fv (e4).a), .int .u64 (fv (e4).b)])), (5, Spec.val (.tuple #[.agg #[.slice (some ⟨w13.heap.size, 0, none⟩) 1 1, .int .u64 (fv e4.a), .int .u64 (fv e4.b)], .int .i64 0])), (9, Spec.rel (New 42 #[.slice none 0 0, .int .u64 0, .int .u64 0]) (NewF))] (by kernel_rfl) (by kernel_rfl) (by kernel_rfl) rfl rfl rfl rfl ⟨fit_new, trivial⟩ ?_ ?_
    iterate 3 (refine rg_det rfl rfl rfl (fun K hK => ?_); go_big_quiet_op; refine hK _ ?_; clear hK K)
    refine rg_val rfl rfl (fun W1 hW1 hF => step_callv en_attestor_attestorref02_FromInt (F4.out W1) rfl rfl) ?_
    intro a' ha
    simp only [Act.put, List.setIfInBounds_toArray, List.set_cons_succ, List.set_cons_zero] at ha
    subst ha
    refine rg_det rfl rfl rfl (fun K hK => ?_)
    go_big_quiet_op
    refine hK _ ?_; clear hK K
    refine rg_val rfl rfl (fun W1 hW1 hF => step_callv en_attestor_batch_Verify (XV1.out W1 (grw_below hW1)) rfl rfl) ?_
    intro a' ha
    simp only [Act.put, List.setIfInBounds_toArray, List.set_cons_succ, List.set_cons_zero] at ha
    subst ha
    iterate 3 (refine rg_det rfl rfl rfl (fun K hK => ?_); go_big_quiet_op; refine hK _ ?_; clear hK K)
    refine rg_rel rfl rfl (fun W1 hW1 hF => step_new hi0 iz0 rfl) ?_
    intro n9 m9 v9 hn9 hm9 hd9 hf9 a' ha
    simp only [Act.put, List.setIfInBounds_toArray, List.set_cons_succ, List.set_cons_zero] at ha
    subst ha
    obtain rfl := hf9
    refine rg_nil (fun w' hw' hF => ?_)
    obtain ⟨z, rfl⟩ := hw'
    simp only [List.drop_succ_cons, List.drop_zero]
    rotate_left 1
    iterate 3 (refine rg_det rfl rfl rfl (fun K hK => ?_); go_big_quiet_op; refine hK _ ?_; clear hK K)
    refine rg_val rfl rfl (fun W1 hW1 hF => step_callv en_attestor_attestorref02_FromInt (F4.out W1) rfl rfl) ?_
    intro a' ha
    simp only [Act.put, List.setIfInBounds_toArray, List.set_cons_succ, List.set_cons_zero] at ha
    subst ha
    refine rg_det rfl rfl rfl (fun K hK => ?_)
    go_big_quiet_op
    refine hK _ ?_; clear hK K
    refine rg_val rfl rfl (fun W1 hW1 hF => step_callv en_attestor_batch_Verify (XV1.out W1 (grw_below hW1)) rfl rfl) ?_
    intro a' ha
    simp only [Act.put, List.setIfInBounds_toArray, List.set_cons_succ, List.set_cons_zero] at ha
    subst ha
    iterate 2 (refine rg_det rfl rfl rfl (fun K hK => ?_); go_big_quiet_op; refine hK _ ?_; clear hK K)
    refine rg_pass rfl rfl ?_
    intro a' ha
    simp only [Act.put, List.setIfInBounds_toArray, List.set_cons_succ, List.set_cons_zero] at ha
    subst ha
    refine rg_rel rfl rfl (fun W1 hW1 hF => step_new hi0 iz0 rfl) ?_
    intro n9 m9 v9 hn9 hm9 hd9 hf9 a' ha
    simp only [Act.put, List.setIfInBounds_toArray, List.set_cons_succ, List.set_cons_zero] at ha
    subst ha
    obtain rfl := hf9
    refine rg_nil (fun w' hw' hF => ?_)
    obtain ⟨z, rfl⟩ := hw'
    simp only [List.drop_succ_cons, List.drop_zero]
    refine wpList_putS ?_
    intro a' ha
    simp only [Act.put, List.setIfInBounds_toArray, List.set_cons_succ, List.set_cons_zero] at ha
    subst ha
    rotate_right 1
    all_goals
      obtain ⟨hm9, -, hl9, b9⟩ := end_last hF
      have e1 := b9.cell
      have e2 := b9.frozen
      clear hF y13
      go_upto_region 13 with (fail)
      rename_i K hK
      refine set3B (M := fun W => Code.wp _ _ _ _ W) b9 fun X1 hX1 bX1 => ?_
      revert K
      exact KK.out n9 X1 ⟨below_put z.h hX1 hn9, hn9, bX1⟩
  intro n13 X1 ⟨BX1, hn13, d13⟩ K hK
  clear XV1
  have F5 := Lib.hid (xFromInt 5 (by decide) (by decide))
  have XV2 := Lib.hid (show ∀ W1, Below W13.heap.size W13 W1 → Calls Tryz.prog 17 #[.slice (some ⟨W4.heap.size + 1 + 1, 0, none⟩) 2 2, .slice A5 1 k5, .agg #[.int .u64 (fv (eb (fz 10)).a), .int .u64 (fv (eb (fz 10)).b), .slice (some ⟨w13.heap.size, 0, none⟩) 1 1, .int .u64 (fv (eb (fz 5)).a), .int .u64 (fv (eb (fz 5)).b)]] W1 (Ret (.tuple #[clm0, .int .i64 111]) W1) from fun W1 h => by
    have hC : ExtS 0 W13.heap.size W13 (.slice (some ⟨w13.heap.size, 0, none⟩) 1 1) (i21 [3]) := rd_blkB (cs := (i21 [3]).flatMap ec) c12 rfl (by decide) (Nat.zero_le _) c12.lt
    have := gVerifyB (c21 W4.heap.size (W4.heap.size + 1)) (eb (fz 10)) [i21 [1, 20, 57]] (i21 [3]) (eb (fz 5)) (some ⟨w13.heap.size, 0, none⟩) 1 _ _ _ _ _ _ _ _ W1 (by have := hT6.size; have := hT2.size; have := h.size; omega) (U13.keep h) (Rd.keep hC h) (R13.keep h) (by decide) (fun x hx => by rw [c21_l _ _ x hx]; rfl) (hL.keep (h20.trans (h.mono h20.size)))
    rw [v21b _ _ _ (c21_L _ _)] at this
    exact this)
  unfold clm0 at XV2
  generalize h5e : eb (fz 5) = e5 at *
  apply join21 (Q := fun n X => Below X1.heap.size X1 X)
  case h =>
    intro kk
    have KK := Lib.hid kk
    clear kk
    have y13 := gw_blk (c13.keep BX1)
    refine wp_region_swap 10 8 undef [(3, Spec.val (.agg #[.int .u64 (fv (e5).a), .int .u64 (fv (e5).b)])), (5, Spec.val (.tuple #[.agg #[.slice none 0 0, .int .u64 0, .int .u64 0], .int .i64 111])), (9, Spec.rel (New 42 #[.slice none 0 0, .int .u64 0, .int .u64 0]) (NewF))] (by kernel_rfl) (by kernel_rfl) (by kernel_rfl) rfl rfl rfl rfl ⟨fit_new, trivial⟩ ?_ ?_
    iterate 3 (refine rg_det rfl rfl rfl (fun K hK => ?_); go_big_quiet_op; refine hK _ ?_; clear hK K)
    refine rg_val rfl rfl (fun W1 hW1 hF => step_callv en_attestor_attestorref02_FromInt (F5.out W1) rfl rfl) ?_
    intro a' ha
    simp only [Act.put, List.setIfInBounds_toArray, List.set_cons_succ, List.set_cons_zero] at ha
    subst ha
    refine rg_det rfl rfl rfl (fun K hK => ?_)
    go_big_quiet_op
    refine hK _ ?_; clear hK K
    refine rg_val rfl rfl (fun W1 hW1 hF => step_callv en_attestor_batch_Verify (XV2.out W1 (BX1.trans ((grw_below hW1).mono BX1.size))) rfl rfl) ?_
    intro a' ha
    simp only [Act.put, List.setIfInBounds_toArray, List.set_cons_succ, List.set_cons_zero] at ha
    subst ha
    iterate 3 (refine rg_det rfl rfl rfl (fun K hK => ?_); go_big_quiet_op; refine hK _ ?_; clear hK K)
    refine rg_rel rfl rfl (fun W1 hW1 hF => step_new hi0 iz0 rfl) ?_
    intro n9 m9 v9 hn9 hm9 hd9 hf9 a' ha
    simp only [Act.put, List.setIfInBounds_toArray, List.set_cons_succ, List.set_cons_zero] at ha
    subst ha
    obtain rfl := hf9
    refine rg_nil (fun w' hw' hF => ?_)
    obtain ⟨z, rfl⟩ := hw'
    simp only [List.drop_succ_cons, List.drop_zero]
    rotate_left 1
    iterate 3 (refine rg_det rfl rfl rfl (fun K hK => ?_); go_big_quiet_op; refine hK _ ?_; clear hK K)
    refine rg_val rfl rfl (fun W1 hW1 hF => step_callv en_attestor_attestorref02_FromInt (F5.out W1) rfl rfl) ?_
    intro a' ha
    simp only [Act.put, List.setIfInBounds_toArray, List.set_cons_succ, List.set_cons_zero] at ha
    subst ha
    refine rg_det rfl rfl rfl (fun K hK => ?_)
    go_big_quiet_op
    refine hK _ ?_; clear hK K
    refine rg_val rfl rfl (fun W1 hW1 hF => step_callv en_attestor_batch_Verify (XV2.out W1 (BX1.trans ((grw_below hW1).mono BX1.size))) rfl rfl) ?_
    intro a' ha
    simp only [Act.put, List.setIfInBounds_toArray, List.set_cons_succ, List.set_cons_zero] at ha
    subst ha
    iterate 2 (refine rg_det rfl rfl rfl (fun K hK => ?_); go_big_quiet_op; refine hK _ ?_; clear hK K)
    refine rg_pass rfl rfl ?_
    intro a' ha
    simp only [Act.put, List.setIfInBounds_toArray, List.set_cons_succ, List.set_cons_zero] at ha
    subst ha
    refine rg_rel rfl rfl (fun W1 hW1 hF => step_new hi0 iz0 rfl) ?_
    intro n9 m9 v9 hn9 hm9 hd9 hf9 a' ha
    simp only [Act.put, List.setIfInBounds_toArray, List.set_cons_succ, List.set_cons_zero] at ha
    subst ha
    obtain rfl := hf9
    refine rg_nil (fun w' hw' hF => ?_)
    obtain ⟨z, rfl⟩ := hw'
    simp only [List.drop_succ_cons, List.drop_zero]
    refine wpList_putS ?_
    intro a' ha
    simp only [Act.put, List.setIfInBounds_toArray, List.set_cons_succ, List.set_cons_zero] at ha
    subst ha
    rotate_right 1
    all_goals
      obtain ⟨hm9, -, hl9, b9⟩ := end_last hF
      have e1 := b9.cell
      have e2 := b9.frozen
      clear hF y13
      go_upto_region 14 with (fail)
      rename_i K hK
      refine set3B (M := fun W => Code.wp _ _ _ _ W) b9 fun X1 hX1 bX1 => ?_
      revert K
      exact KK.out n9 X1 (below_put z.h hX1 hn9)
  intro n14 X2 BX2 K14 hK14
  clear XV2 F5
  have BY2 := BX1.trans (BX2.mono BX1.size)
  have F4 := Lib.hid (show ∀ W1, Calls Tryz.prog 25 #[.int .i64 4] W1 (Ret (ev e4) W1) from fun W1 => h4 ▸ xFromInt 4 (by decide) (by decide) W1)
  have XV3 := Lib.hid (show ∀ W1, Below W13.heap.size W13 W1 → Calls Tryz.prog 17 #[.slice (some ⟨W4.heap.size + 1 + 1, 0, none⟩) 1 2, .slice A5 1 k5, .agg #[.int .u64 (fv (eb (fz 10)).a), .int .u64 (fv (eb (fz 10)).b), .slice (some ⟨w13.heap.size, 0, none⟩) 1 1, .int .u64 (fv e4.a), .int .u64 (fv e4.b)]] W1 (Ret (.tuple #[clm0, .int .i64 60]) W1) from fun W1 h => by
    have hC : ExtS 0 W13.heap.size W13 (.slice (some ⟨w13.heap.size, 0, none⟩) 1 1) (i21 [3]) := rd_blkB (cs := (i21 [3]).flatMap ec) c12 rfl (by decide) (Nat.zero_le _) c12.lt
    have := gVerifyB [(⟨[0], eb (fz 1)⟩, (some ⟨W4.heap.size, 0, none⟩, 1))] (eb (fz 10)) [i21 [1, 20, 57]] (i21 [3]) e4 (some ⟨w13.heap.size, 0, none⟩) 1 _ _ _ _ _ _ _ _ W1 (by have := hT6.size; have := hT2.size; have := h.size; omega) (c21_U1 (U13.keep h)) (Rd.keep hC h) (R13.keep h) (by decide) (fun x hx => by simp only [List.mem_singleton] at hx; subst hx; rfl) (hL.keep (h20.trans (h.mono h20.size)))
    rw [← h4, v21c _ _ _ rfl, h4] at this
    exact this)
  have XV4 := Lib.hid (show ∀ W1, Below W13.heap.size W13 W1 → Calls Tryz.prog 17 #[.slice (some ⟨W4.heap.size + 1 + 1, 0, none⟩) 2 2, .slice none 0 0, .agg #[.int .u64 (fv (eb (fz 10)).a), .int .u64 (fv (eb (fz 10)).b), .slice (some ⟨w13.heap.size, 0, none⟩) 1 1, .int .u64 (fv e4.a), .int .u64 (fv e4.b)]] W1 (Ret (.tuple #[clm0, .int .i64 1]) W1) from fun W1 h => by
    have hC : ExtS 0 W13.heap.size W13 (.slice (some ⟨w13.heap.size, 0, none⟩) 1 1) (i21 [3]) := rd_blkB (cs := (i21 [3]).flatMap ec) c12 rfl (by decide) (Nat.zero_le _) c12.lt
    have := gVerifyB (c21 W4.heap.size (W4.heap.size + 1)) (eb (fz 10)) [] (i21 [3]) e4 (some ⟨w13.heap.size, 0, none⟩) 1 _ _ _ _ 0 0 _ _ W1 (by have := hT6.size; have := hT2.size; have := h.size; omega) (U13.keep h) (Rd.keep hC h) ⟨[], rfl, rd_nil _ _ _ _ none 0, fun k u t hu => by simp at hu⟩ (by decide) (fun x hx => by rw [c21_l _ _ x hx]; rfl) (hL.keep (h20.trans (h.mono h20.size)))
    rw [← h4, v21d _ _ _ (c21_L _ _), h4] at this
    exact this)
  unfold clm0 at XV3 XV4
  apply join21 (Q := fun n X => Below X2.heap.size X2 X)
  case h =>
    intro kk
    have KK := Lib.hid kk
    clear kk
    have y13 := gw_blk (c13.keep BY2)
    refine wp_region_swap 11 9 undef [(4, Spec.val (.agg #[.int .u64 (fv (e4).a), .int .u64 (fv (e4).b)])), (6, Spec.val (.tuple #[.agg #[.slice none 0 0, .int .u64 0, .int .u64 0], .int .i64 60])), (10, Spec.rel (New 42 #[.slice none 0 0, .int .u64 0, .int .u64 0]) (NewF))] (by kernel_rfl) (by kernel_rfl) (by kernel_rfl) rfl rfl rfl rfl ⟨fit_new, trivial⟩ ?_ ?_
    iterate 4 (refine rg_det rfl rfl rfl (fun K hK => ?_); go_big_quiet_op; refine hK _ ?_; clear hK K)
    refine rg_val rfl rfl (fun W1 hW1 hF => step_callv en_attestor_attestorref02_FromInt (F4.out W1) rfl rfl) ?_
    intro a' ha
    simp only [Act.put, List.setIfInBounds_toArray, List.set_cons_succ, List.set_cons_zero] at ha
    subst ha
    refine rg_det rfl rfl rfl (fun K hK => ?_)
    go_big_quiet_op
    refine hK _ ?_; clear hK K
    refine rg_val rfl rfl (fun W1 hW1 hF => step_callv en_attestor_batch_Verify (XV3.out W1 (BY2.trans ((grw_below hW1).mono BY2.size))) rfl rfl) ?_
    intro a' ha
    simp only [Act.put, List.setIfInBounds_toArray, List.set_cons_succ, List.set_cons_zero] at ha
    subst ha
    iterate 3 (refine rg_det rfl rfl rfl (fun K hK => ?_); go_big_quiet_op; refine hK _ ?_; clear hK K)
    refine rg_rel rfl rfl (fun W1 hW1 hF => step_new hi0 iz0 rfl) ?_
    intro n10 m10 v10 hn10 hm10 hd10 hf10 a' ha
    simp only [Act.put, List.setIfInBounds_toArray, List.set_cons_succ, List.set_cons_zero] at ha
    subst ha
    obtain rfl := hf10
    refine rg_nil (fun w' hw' hF => ?_)
    obtain ⟨z, rfl⟩ := hw'
    simp only [List.drop_succ_cons, List.drop_zero]
    rotate_left 1
    iterate 4 (refine rg_det rfl rfl rfl (fun K hK => ?_); go_big_quiet_op; refine hK _ ?_; clear hK K)
    refine rg_val rfl rfl (fun W1 hW1 hF => step_callv en_attestor_attestorref02_FromInt (F4.out W1) rfl rfl) ?_
    intro a' ha
    simp only [Act.put, List.setIfInBounds_toArray, List.set_cons_succ, List.set_cons_zero] at ha
    subst ha
    refine rg_det rfl rfl rfl (fun K hK => ?_)
    go_big_quiet_op
    refine hK _ ?_; clear hK K
    refine rg_val rfl rfl (fun W1 hW1 hF => step_callv en_attestor_batch_Verify (XV3.out W1 (BY2.trans ((grw_below hW1).mono BY2.size))) rfl rfl) ?_
    intro a' ha
    simp only [Act.put, List.setIfInBounds_toArray, List.set_cons_succ, List.set_cons_zero] at ha
    subst ha
    iterate 2 (refine rg_det rfl rfl rfl (fun K hK => ?_); go_big_quiet_op; refine hK _ ?_; clear hK K)
    refine rg_pass rfl rfl ?_
    intro a' ha
    simp only [Act.put, List.setIfInBounds_toArray, List.set_cons_succ, List.set_cons_zero] at ha
    subst ha
    refine rg_rel rfl rfl (fun W1 hW1 hF => step_new hi0 iz0 rfl) ?_
    intro n10 m10 v10 hn10 hm10 hd10 hf10 a' ha
    simp only [Act.put, List.setIfInBounds_toArray, List.set_cons_succ, List.set_cons_zero] at ha
    subst ha
    obtain rfl := hf10
    refine rg_nil (fun w' hw' hF => ?_)
    obtain ⟨z, rfl⟩ := hw'
    simp only [List.drop_succ_cons, List.drop_zero]
    refine wpList_putS ?_
    intro a' ha
    simp only [Act.put, List.setIfInBounds_toArray, List.set_cons_succ, List.set_cons_zero] at ha
    subst ha
    rotate_right 1
    all_goals
      obtain ⟨hm10, -, hl10, b10⟩ := end_last hF
      have e1 := b10.cell
      have e2 := b10.frozen
      clear hF y13
      go_upto_region 15 with (fail)
      rename_i K hK
      refine set3B (M := fun W => Code.wp _ _ _ _ W) b10 fun X1 hX1 bX1 => ?_
      revert K
      exact KK.out n10 X1 (below_put z.h hX1 hn10)
  intro n15 X3 BX3 K15 hK15
  have BY3 := BY2.trans (BX3.mono BY2.size)
  apply join21 (Q := fun n X => Below X3.heap.size X3 X)
  case h =>
    intro kk
    have KK := Lib.hid kk
    clear kk
    have y13 := gw_blk (c13.keep BY3)
    refine wp_region_swap 9 7 undef [(2, Spec.val (.agg #[.int .u64 (fv (e4).a), .int .u64 (fv (e4).b)])), (4, Spec.val (.tuple #[.agg #[.slice none 0 0, .int .u64 0, .int .u64 0], .int .i64 1])), (8, Spec.rel (New 42 #[.slice none 0 0, .int .u64 0, .int .u64 0]) (NewF))] (by kernel_rfl) (by kernel_rfl) (by kernel_rfl) rfl rfl rfl rfl ⟨fit_new, trivial⟩ ?_ ?_
    iterate 2 (refine rg_det rfl rfl rfl (fun K hK => ?_); go_big_quiet_op; refine hK _ ?_; clear hK K)
    refine rg_val rfl rfl (fun W1 hW1 hF => step_callv en_attestor_attestorref02_FromInt (F4.out W1) rfl rfl) ?_
    intro a' ha
    simp only [Act.put, List.setIfInBounds_toArray, List.set_cons_succ, List.set_cons_zero] at ha
    subst ha
    refine rg_det rfl rfl rfl (fun K hK => ?_)
    go_big_quiet_op
    refine hK _ ?_; clear hK K
    refine rg_val rfl rfl (fun W1 hW1 hF => step_callv en_attestor_batch_Verify (XV4.out W1 (BY3.trans ((grw_below hW1).mono BY3.size))) rfl rfl) ?_
    intro a' ha
    simp only [Act.put, List.setIfInBounds_toArray, List.set_cons_succ, List.set_cons_zero] at ha
    subst ha
    iterate 3 (refine rg_det rfl rfl rfl (fun K hK => ?_); go_big_quiet_op; refine hK _ ?_; clear hK K)
    refine rg_rel rfl rfl (fun W1 hW1 hF => step_new hi0 iz0 rfl) ?_
    intro n8 m8 v8 hn8 hm8 hd8 hf8 a' ha
    simp only [Act.put, List.setIfInBounds_toArray, List.set_cons_succ, List.set_cons_zero] at ha
    subst ha
    obtain rfl := hf8
    refine rg_nil (fun w' hw' hF => ?_)
    obtain ⟨z, rfl⟩ := hw'
    simp only [List.drop_succ_cons, List.drop_zero]
    rotate_left 1
    iterate 2 (refine rg_det rfl rfl rfl (fun K hK => ?_); go_big_quiet_op; refine hK _ ?_; clear hK K)
    refine rg_val rfl rfl (fun W1 hW1 hF => step_callv en_attestor_attestorref02_FromInt (F4.out W1) rfl rfl) ?_
    intro a' ha
    simp only [Act.put, List.setIfInBounds_toArray, List.set_cons_succ, List.set_cons_zero] at ha
    subst ha
    refine rg_det rfl rfl rfl (fun K hK => ?_)
    go_big_quiet_op
    refine hK _ ?_; clear hK K
    refine rg_val rfl rfl (fun W1 hW1 hF => step_callv en_attestor_batch_Verify (XV4.out W1 (BY3.trans ((grw_below hW1).mono BY3.size))) rfl rfl) ?_
    intro a' ha
    simp only [Act.put, List.setIfInBounds_toArray, List.set_cons_succ, List.set_cons_zero] at ha
    subst ha
    iterate 2 (refine rg_det rfl rfl rfl (fun K hK => ?_); go_big_quiet_op; refine hK _ ?_; clear hK K)
    refine rg_pass rfl rfl ?_
    intro a' ha
    simp only [Act.put, List.setIfInBounds_toArray, List.set_cons_succ, List.set_cons_zero] at ha
    subst ha
    refine rg_rel rfl rfl (fun W1 hW1 hF => step_new hi0 iz0 rfl) ?_
    intro n8 m8 v8 hn8 hm8 hd8 hf8 a' ha
    simp only [Act.put, List.setIfInBounds_toArray, List.set_cons_succ, List.set_cons_zero] at ha
    subst ha
    obtain rfl := hf8
    refine rg_nil (fun w' hw' hF => ?_)
    obtain ⟨z, rfl⟩ := hw'
    simp only [List.drop_succ_cons, List.drop_zero]
    refine wpList_putS ?_
    intro a' ha
    simp only [Act.put, List.setIfInBounds_toArray, List.set_cons_succ, List.set_cons_zero] at ha
    subst ha
    rotate_right 1
    all_goals
      obtain ⟨hm8, -, hl8, b8⟩ := end_last hF
      have e1 := b8.cell
      have e2 := b8.frozen
      clear hF y13
      go_upto_region 16 with (fail)
      rename_i K hK
      refine set3B (M := fun W => Code.wp _ _ _ _ W) b8 fun X1 hX1 bX1 => ?_
      revert K
      exact KK.out n8 X1 (below_put z.h hX1 hn8)
  intro n16 X4 BX4 K16 hK16
  clear XV3 XV4 F4 hK hK14 hK15
  have BY4 := BY3.trans (BX4.mono BY3.size)
  have hU := hT6.trans (BY4.mono hT6.size)
  have hV := hT2.trans (hU.mono hT2.size)
  have hV7 := (hB6.trans (hb7.mono hB6.size)).trans ((hb8.trans (hV.mono hb8.size)).mono (hB6.trans (hb7.mono hB6.size)).size)
  have g1 := p1.keep hV7
  have g2 := p2.keep hV7
  have g3 := p3.keep hV7
  have g6 := d6.keep hU
  have g7 := d7.keep hU
  have g8 := d8.keep hU
  have g9 := d9.keep hU
  have g11 := c11.keep ((hb12.trans ((hb13.trans (hB13.mono hb13.size)).mono hb12.size)).trans (BY4.mono (hb12.trans ((hb13.trans (hB13.mono hb13.size)).mono hb12.size)).size))
  have g13 := d13.keep (BX2.trans ((BX3.trans (BX4.mono BX3.size)).mono BX2.size))
  have T4 := Rd.keep T13 BY4
  have U4 := U13.keep BY4
  have C4 : ExtS 0 W10.heap.size X4 (.slice (some ⟨w10.heap.size, 0, none⟩) 1 1) (i21 [3]) := Rd.keep C13 BY4
  have C5 : ExtS 0 W13.heap.size X4 (.slice (some ⟨w13.heap.size, 0, none⟩) 1 1) (i21 [3]) := Rd.keep (rd_blkB (cs := (i21 [3]).flatMap ec) c12 rfl (by decide) (Nat.zero_le _) c12.lt) BY4
  obtain ⟨ga, oa, rfl, la, qa⟩ := tab_cell (S6c.keep hU).ht (by decide)
  obtain ⟨gb, ob, rfl, lb, qb⟩ := tab_cell (S8c.keep hU).ht (by decide)
  obtain ⟨gc, oc, rfl, lc, qc⟩ := tab_cell (R13.keep BY4) (by decide)
  obtain ⟨B1, k1', z1, t1⟩ := qa 0 _ rfl
  obtain ⟨B2, k2', z2, t2⟩ := qa 1 _ rfl
  obtain ⟨B3, k3', z3, t3⟩ := qb 1 _ rfl
  obtain ⟨B4, k4', z4, t4⟩ := qc 0 _ rfl
  clear qa qb qc
  have h21' := h20.trans (BY4.mono h20.size)
  clear T13 U13 C13 R13 S6c S8c c11 c12 c13 d6 d7 d8 d9 d13 p1 p2 p3 hz11 hz13 hz5 hz1 hz2 hz3 hz4 hz6 hz8 hz10 R11 T11 U11 C11 h1 h2 h3 h5 h6 h7 h8 h9 h10 h11 h12 h13 h14 h15 h16 h17 h18 h19 h20
  have t3' : ExtS 0 w8.heap.size X4 (.slice B3 2 k3') ([0, 0] : List E) := (show i21 [0, 0] = [0, 0] from by kernel_rfl) ▸ t3
  clear t3
  have t3 := t3'
  clear t3'
  have g9' : Blk X4 (w8.heap.size + 1) 26 #[.int .u64 0, .int .u64 0] := g9
  clear g9
  have y1 := gw_blk g1
  have y2 := gw_blk g2
  have y3 := gw_blk g3
  have y6 := gw_blk g6
  have y7 := gw_blk g7
  have y8 := gw_blk g8
  have y9 := gw_blk g9'
  have y11 := gw_blk g11
  have y13 := gw_blk g13
  have x1 := gw_cell (i := oa) la z1
  have x2 := gw_cell la z2
  have x3 := gw_cell lb z3
  have x4 := gw_cell (i := oc) lc z4
  obtain ⟨e19, h19e⟩ : ∃ e, eb (fz 19) = e := ⟨_, rfl⟩
  have F10 := Lib.hid (show ∀ W1, Calls Tryz.prog 25 #[.int .i64 10] W1 (Ret (ev (eb (fz 10))) W1) from fun W1 => xFromInt 10 (by decide) (by decide) W1)
  have F20 := Lib.hid (show ∀ W1, Calls Tryz.prog 25 #[.int .i64 20] W1 (Ret (ev (eb (fz 20))) W1) from fun W1 => xFromInt 20 (by decide) (by decide) W1)
  have F57 := Lib.hid (show ∀ W1, Calls Tryz.prog 25 #[.int .i64 57] W1 (Ret (ev (eb (fz 57))) W1) from fun W1 => xFromInt 57 (by decide) (by decide) W1)
  have F21 := Lib.hid (show ∀ W1, Calls Tryz.prog 25 #[.int .i64 21] W1 (Ret (ev e21) W1) from fun W1 => h21 ▸ xFromInt 21 (by decide) (by decide) W1)
  have F4 := Lib.hid (show ∀ W1, Calls Tryz.prog 25 #[.int .i64 4] W1 (Ret (ev e4) W1) from fun W1 => h4 ▸ xFromInt 4 (by decide) (by decide) W1)
  have F19 := Lib.hid (show ∀ W1, Calls Tryz.prog 25 #[.int .i64 19] W1 (Ret (ev e19) W1) from fun W1 => h19e ▸ xFromInt 19 (by decide) (by decide) W1)
  have FW := Lib.hid (show ∀ W1, Below X4.heap.size X4 W1 → ∀ v2, ExtS 0 W1.heap.size W1 v2 (i21 [2]) → Calls Tryz.prog 13 #[.slice (some ⟨W4.heap.size + 1 + 1, 0, none⟩) 2 2, ev (eb (fz 10)), v2] W1 (Ret (ev e19) W1) from fun W1 h v2 hv2 => by
    have := gWeightB (c21 W4.heap.size (W4.heap.size + 1)) (eb (fz 10)) (i21 [2]) (.slice (some ⟨W4.heap.size + 1 + 1, 0, none⟩) 2 2) v2 _ _ _ _ W1 (by have := hU.size; have := hT2.size; have := h.size; omega) (U4.keep h) hv2 (fun x hx => by rw [c21_l _ _ x hx]; rfl) (hL.keep (h21'.trans (h.mono h21'.size)))
    rw [m21c _ (c21_L _ _), h19e] at this
    exact this)
  clear g1 g2 g3 g6 g7 g8 g9' g11 g13 z1 z2 z3 z4 h21 h4 h19e h5e
  refine wp_region_rg 82 [(5, Spec.val (.bool true)), (12, Spec.val (.agg #[.int .u64 (fv (eb (fz 10)).a), .int .u64 (fv (eb (fz 10)).b)])), (13, Spec.rel (Lit 26 2 ((i21 [1, 10]).flatMap ec).toArray) (LitF 2)), (14, Spec.val (.bool true)), (18, Spec.val (.agg #[.int .u64 (fv (e21).a), .int .u64 (fv (e21).b)])), (28, Spec.rel (Lit 26 2 (([0, 0]).flatMap ec).toArray) (LitF 2)), (29, Spec.val (.bool true)), (41, Spec.val (.agg #[.int .u64 (fv (eb (fz 20)).a), .int .u64 (fv (eb (fz 20)).b)])), (42, Spec.val (.agg #[.int .u64 (fv (eb (fz 57)).a), .int .u64 (fv (eb (fz 57)).b)])), (43, Spec.rel (Lit 26 3 ((i21 [1, 20, 57]).flatMap ec).toArray) (LitF 3)), (44, Spec.val (.bool true)), (49, Spec.val (.agg #[.int .u64 (fv (e4).a), .int .u64 (fv (e4).b)])), (55, Spec.val (.bool true)), (75, Spec.val (.agg #[.int .u64 (fv (eb (fz 10)).a), .int .u64 (fv (eb (fz 10)).b)])), (77, Spec.rel (Lit 26 1 ((i21 [2]).flatMap ec).toArray) (LitF 1)), (78, Spec.val (.agg #[.int .u64 (fv (e19).a), .int .u64 (fv (e19).b)])), (79, Spec.val (.agg #[.int .u64 (fv (e19).a), .int .u64 (fv (e19).b)]))] (by kernel_rfl) (by kernel_rfl) (by kernel_rfl) ⟨fit_lit, fit_lit, fit_lit, fit_lit, trivial⟩ ?_
  iterate 5 (refine rg_det rfl rfl rfl (fun K hK => ?_); go_big_quiet_op; refine hK _ ?_; clear hK K)
  refine rg_val rfl rfl (fun W1 hW1 hF => step_callv en_attestor_attestorref03_Same (xSame3 (T21) _ _ _ _ _ _ W1 (Rd.keep t1 (grw_below hW1)) (Rd.keep T4 (grw_below hW1))) rfl rfl) ?_
  intro a' ha
  simp only [Act.put, List.setIfInBounds_toArray, List.set_cons_succ, List.set_cons_zero] at ha
  subst ha
  iterate 6 (refine rg_det rfl rfl rfl (fun K hK => ?_); go_big_quiet_op; refine hK _ ?_; clear hK K)
  refine rg_val rfl rfl (fun W1 hW1 hF => step_callv en_attestor_attestorref02_FromInt (F10.out W1) rfl rfl) ?_
  intro a' ha
  simp only [Act.put, List.setIfInBounds_toArray, List.set_cons_succ, List.set_cons_zero] at ha
  subst ha
  refine rg_rel rfl rfl (fun W1 hW1 hF => step_litE (parts := [(0, Operand.tmp 125), (1, Operand.tmp 126)]) (i21 [1, 10]) rfl (by decide) (by decide) rfl rfl) ?_
  intro nq13 mq13 vq13 hnq13 hmq13 hdq13 hfq13 a' ha
  simp only [Act.put, List.setIfInBounds_toArray, List.set_cons_succ, List.set_cons_zero] at ha
  subst ha
  obtain rfl := hfq13
  refine rg_val rfl rfl (fun W1 hW1 hF => step_callv en_attestor_attestorref03_Same (xSame3 (i21 [1, 10]) _ _ _ _ _ _ W1 (Rd.keep t2 (grw_below hW1)) (rd_lit21 (pick_last hF (by kernel_rfl)).2 rfl (by decide))) rfl rfl) ?_
  intro a' ha
  simp only [Act.put, List.setIfInBounds_toArray, List.set_cons_succ, List.set_cons_zero] at ha
  subst ha
  iterate 3 (refine rg_det rfl rfl rfl (fun K hK => ?_); go_big_quiet_op; refine hK _ ?_; clear hK K)
  refine rg_val rfl rfl (fun W1 hW1 hF => step_callv en_attestor_attestorref02_FromInt (F21.out W1) rfl rfl) ?_
  intro a' ha
  simp only [Act.put, List.setIfInBounds_toArray, List.set_cons_succ, List.set_cons_zero] at ha
  subst ha
  iterate 9 (refine rg_det rfl rfl rfl (fun K hK => ?_); go_big_quiet_op; refine hK _ ?_; clear hK K)
  refine rg_rel rfl rfl (fun W1 hW1 hF => step_litE (parts := [(0, Operand.tmp 140), (1, Operand.tmp 141)]) ([0, 0]) rfl (by decide) (by decide) rfl rfl) ?_
  intro nq28 mq28 vq28 hnq28 hmq28 hdq28 hfq28 a' ha
  simp only [Act.put, List.setIfInBounds_toArray, List.set_cons_succ, List.set_cons_zero] at ha
  subst ha
  obtain rfl := hfq28
  refine rg_val rfl rfl (fun W1 hW1 hF => step_callv en_attestor_attestorref03_Same (xSame3 ([0, 0]) _ _ _ _ _ _ W1 (Rd.keep t3 (grw_below hW1)) (rd_lit21 (pick_last hF (by kernel_rfl)).2 rfl (by decide))) rfl rfl) ?_
  intro a' ha
  simp only [Act.put, List.setIfInBounds_toArray, List.set_cons_succ, List.set_cons_zero] at ha
  subst ha
  iterate 11 (refine rg_det rfl rfl rfl (fun K hK => ?_); go_big_quiet_op; refine hK _ ?_; clear hK K)
  refine rg_val rfl rfl (fun W1 hW1 hF => step_callv en_attestor_attestorref02_FromInt (F20.out W1) rfl rfl) ?_
  intro a' ha
  simp only [Act.put, List.setIfInBounds_toArray, List.set_cons_succ, List.set_cons_zero] at ha
  subst ha
  refine rg_val rfl rfl (fun W1 hW1 hF => step_callv en_attestor_attestorref02_FromInt (F57.out W1) rfl rfl) ?_
  intro a' ha
  simp only [Act.put, List.setIfInBounds_toArray, List.set_cons_succ, List.set_cons_zero] at ha
  subst ha
  refine rg_rel rfl rfl (fun W1 hW1 hF => step_litE (parts := [(0, Operand.tmp 154), (1, Operand.tmp 155), (2, Operand.tmp 156)]) (i21 [1, 20, 57]) rfl (by decide) (by decide) rfl rfl) ?_
  intro nq43 mq43 vq43 hnq43 hmq43 hdq43 hfq43 a' ha
  simp only [Act.put, List.setIfInBounds_toArray, List.set_cons_succ, List.set_cons_zero] at ha
  subst ha
  obtain rfl := hfq43
  refine rg_val rfl rfl (fun W1 hW1 hF => step_callv en_attestor_attestorref03_Same (xSame3 (i21 [1, 20, 57]) _ _ _ _ _ _ W1 (Rd.keep t4 (grw_below hW1)) (rd_lit21 (pick_last hF (by kernel_rfl)).2 rfl (by decide))) rfl rfl) ?_
  intro a' ha
  simp only [Act.put, List.setIfInBounds_toArray, List.set_cons_succ, List.set_cons_zero] at ha
  subst ha
  iterate 4 (refine rg_det rfl rfl rfl (fun K hK => ?_); go_big_quiet_op; refine hK _ ?_; clear hK K)
  refine rg_val rfl rfl (fun W1 hW1 hF => step_callv en_attestor_attestorref02_FromInt (F4.out W1) rfl rfl) ?_
  intro a' ha
  simp only [Act.put, List.setIfInBounds_toArray, List.set_cons_succ, List.set_cons_zero] at ha
  subst ha
  iterate 5 (refine rg_det rfl rfl rfl (fun K hK => ?_); go_big_quiet_op; refine hK _ ?_; clear hK K)
  refine rg_val rfl rfl (fun W1 hW1 hF => step_callv en_attestor_attestorref21_Same (rSame21 (i21 [3]) e4 _ _ _ _ _ _ _ _ W1 (Rd.keep C4 (grw_below hW1)) (Rd.keep C5 (grw_below hW1))) rfl rfl) ?_
  intro a' ha
  simp only [Act.put, List.setIfInBounds_toArray, List.set_cons_succ, List.set_cons_zero] at ha
  subst ha
  iterate 19 (refine rg_det rfl rfl rfl (fun K hK => ?_); go_big_quiet_op; refine hK _ ?_; clear hK K)
  refine rg_val rfl rfl (fun W1 hW1 hF => step_callv en_attestor_attestorref02_FromInt (F10.out W1) rfl rfl) ?_
  intro a' ha
  simp only [Act.put, List.setIfInBounds_toArray, List.set_cons_succ, List.set_cons_zero] at ha
  subst ha
  refine rg_det rfl rfl rfl (fun K hK => ?_)
  go_big_quiet_op
  refine hK _ ?_; clear hK K
  refine rg_rel rfl rfl (fun W1 hW1 hF => step_litE (parts := [(0, Operand.tmp 190)]) (i21 [2]) rfl (by decide) (by decide) rfl rfl) ?_
  intro nq77 mq77 vq77 hnq77 hmq77 hdq77 hfq77 a' ha
  simp only [Act.put, List.setIfInBounds_toArray, List.set_cons_succ, List.set_cons_zero] at ha
  subst ha
  obtain rfl := hfq77
  refine rg_val rfl rfl (fun W1 hW1 hF => step_callv en_attestor_batch_Weight (FW.out W1 (grw_below hW1) _ (rd_lit21 (pick_last hF (by kernel_rfl)).2 rfl (by decide))) rfl rfl) ?_
  intro a' ha
  simp only [Act.put, List.setIfInBounds_toArray, List.set_cons_succ, List.set_cons_zero] at ha
  subst ha
  refine rg_val rfl rfl (fun W1 hW1 hF => step_callv en_attestor_attestorref02_FromInt (F19.out W1) rfl rfl) ?_
  intro a' ha
  simp only [Act.put, List.setIfInBounds_toArray, List.set_cons_succ, List.set_cons_zero] at ha
  subst ha
  iterate 2 (refine rg_det rfl rfl rfl (fun K hK => ?_); go_big_quiet_op; refine hK _ ?_; clear hK K)
  refine rg_nil (fun w' hw' hF => ?_)
  obtain ⟨z9, rfl⟩ := hw'
  simp only [List.append_eq, List.cons_append, List.nil_append, List.drop_succ_cons, List.drop_zero]
  have hBz := h21'.trans (z9.h.mono h21'.size)
  clear hF
  go_wp2_with fail
  go_ret
  exact ⟨rfl, hBz⟩
end Go.Proofs.YtkgglhakimkkhaaGreatDoor
namespace Go.Proofs.YtkgglhakimkkhaaGreatDoor
open Go.RowKit

theorem Q21.hk (q : Q21) : q.k ≤ 4 := by have := Nat.mod_lt q.N (show 0 < 5 by decide); unfold Q21.k; omega
theorem Q21.ht (q : Q21) : q.t.length = 2 ^ q.k := mdT_length _ _
theorem Q21.hc (q : Q21) : q.c.length = q.k := madeAll_length _ _
theorem Q21.hl (q : Q21) : ∀ c ∈ q.l, c.p.length = q.k := fun c hc => by
  unfold Q21.l mdB at hc
  obtain ⟨x, _, rfl⟩ := List.mem_map.1 hc
  exact madeAll_length _ _
theorem Q21.hn (q : Q21) : q.l.length ≤ 5 := by
  unfold Q21.l mdB
  rw [List.length_map, List.length_take]
  omega
theorem Q21.us {q : Q21} {us : List ClW} (h : us.map (·.1) = q.l) : (∀ x ∈ us, x.1.p.length = q.k) ∧ us.length ≤ 5 :=
  ⟨fun x hx => q.hl _ (h ▸ List.mem_map_of_mem hx), by have := q.hn; rw [← h, List.length_map] at this; exact this⟩
theorem Q21S.keep {w W : World} {q : Q21} {a b c : Value} (h : Q21S w.heap.size w q a b c) (hb : Below w.heap.size w W) : Q21S W.heap.size W q a b c :=
  ⟨⟨Rd.wide (Rd.keep h.T.1 hb) (Nat.le_refl _) hb.size, h.T.2⟩, ⟨Rd.wide (Rd.keep h.L.1 hb) (Nat.le_refl _) hb.size, fun x hx => ⟨⟨Rd.wide (Rd.keep (h.L.2 x hx).1.1 hb) (Nat.le_refl _) hb.size, (h.L.2 x hx).1.2⟩, (h.L.2 x hx).2⟩⟩, ⟨Rd.wide (Rd.keep h.C.1 hb) (Nat.le_refl _) hb.size, h.C.2⟩, h.r1, h.r2, h.n⟩
end Go.Proofs.YtkgglhakimkkhaaGreatDoor
namespace Go.Proofs.YtkgglhakimkkhaaGreatDoor
open Go.RowKit

end Go.Proofs.YtkgglhakimkkhaaGreatDoor
namespace Go.Proofs.YtkgglhakimkkhaaGreatDoor
open Go.RowKit

def mdR (l : List (List Raw)) (n m : Nat) : List (List E) := (List.range n).map fun i => madeAll (l.getD i []) m
theorem mdR_succ (l : List (List Raw)) (n m : Nat) : mdR l (n + 1) m = mdR l n m ++ [madeAll (l.getD n []) m] := by simp [mdR, List.range_succ]
theorem mdR_length (l : List (List Raw)) (n m : Nat) : (mdR l n m).length = n := by simp [mdR]
end Go.Proofs.YtkgglhakimkkhaaGreatDoor
