/-
  Explain of package mask in mathematics: what it finds for the rounds of Prove.
  The numbers of the fixed examples of chapter 32.
  Verify of package mask, by contract.
  Blocks read as rows, for the fixed examples of chapter 32.
  The fixed examples of chapter 32.
  What every law of chapter 32 has in hand behind made.
-/
import Derived.Test.YtnddfeidggcplaaGreatXp32
import Derived.Test.YtnddfeidggcplaaGreatIp
import Derived.Test.YtnddfeidggcplaaGreatSw32
import Derived.Test.YtnddfeidggcplaaGreatInts
import Derived.Test.YtnddfeidggcplaaGreatMp32
import Derived.Test.YtnddfeidggcplaaGreatVf2
import Derived.Test.YtnddfeidggcplaaGreatRiv
import Derived.Test.YtnddfeidggcplaaGreatSame
import Derived.Test.YtnddfeidggcplaaGreatRu6
import Derived.Test.YtnddfeidggcplaaGreatPq32
import Derived.Test.YtnddfeidggcplaaGreatCpm
import Derived.Test.YtnddfeidggcplaaGreatMd32
namespace Go.Proofs.YtnddfeidggcplaaGreat

theorem at2 (a b x : E) : atE [a, b] x = a + x * (b - a) := by
  have h := lagrange 2 (by decide) (by decide) (fun t => a + t * (b - a)) ⟨[a, b - a], Nat.le_refl 2, fun y => (pev_two a (b - a) y).symm⟩ x
  have e : (List.range 2).map (fun i => a + nodeE i * (b - a)) = [a, b] := by
    show [a + nodeE 0 * (b - a), a + nodeE 1 * (b - a)] = _
    rw [show nodeE 0 = 0 from by decide +kernel, show nodeE 1 = 1 from by decide +kernel, E.zero_mul, E.one_mul, E.add_zero, E.sub_self_add]
  rw [e] at h
  exact h
theorem hlf_val : hlf = eb (fz 9223372034707292161) := by
  refine E.cancel e2 _ _ e2_ne ?_
  rw [E.mul_comm e2 hlf, hlf_two]
  decide +kernel
theorem xp_pair (k : Nat) : xp e2 k * xp hlf k = 1 := by
  induction k with
  | zero => exact E.mul_one _
  | succ k ih =>
    show e2 * xp e2 k * (hlf * xp hlf k) = 1
    have : e2 * xp e2 k * (hlf * xp hlf k) = (hlf * e2) * (xp e2 k * xp hlf k) := by
      generalize xp e2 k = a
      generalize xp hlf k = b
      rw [E.mul_comm e2 a, E.mul_assoc, ← E.mul_assoc e2, E.mul_comm e2 hlf, E.mul_comm hlf e2, ← E.mul_assoc, E.mul_comm a, E.mul_assoc]
    rw [this, hlf_two, ih, E.mul_one]
/-- What is moved at polynomial i. -/
def movE (m K : List (List E)) (co : List E) (i : Nat) : E := evK m co i + bsK m (m.length - 1 - i) * hlf - evK K co i
theorem exp_val (rho p x P c a : E) (Q : E) (hr : einv rho * rho = 1) (hP : P * Q = 1) : einv rho * (p + rho * ((a + x) * P) - p) * Q - c = x + (a - c) := by
  have h1 : p + rho * ((a + x) * P) - p = rho * ((a + x) * P) := by
    generalize rho * ((a + x) * P) = z
    apply E.ext_ <;> simp only [add_a, add_b, sub_a, sub_b] <;> grind
  rw [h1, ← E.mul_assoc, hr, E.one_mul, E.mul_assoc, hP, E.mul_one]
  apply E.ext_ <;> simp only [add_a, add_b, sub_a, sub_b] <;> grind
section
variable {plain m : List (List E)} {rho : E} {co : List E} {D : Nat}
theorem expK_prv (hr : rho ≠ 0) (hm : ∀ g ∈ m, g.length = D + 1) (i N : Nat) (hi : i < m.length) (hN : i < N) :
    (expK plain (prvM plain m rho co) rho co m.length N).getD i [] = (m.getD i []).map (· + movE m (expK plain (prvM plain m rho co) rho co m.length N) co i) := by
  have h := expK_get plain (prvM plain m rho co) rho co m.length i N hN
  rw [show (expK plain (prvM plain m rho co) rho co m.length N).getD i [] = expRow rho ((prvM plain m rho co).getD i []) (plain.getD i []) ((i : Int) + 1 - (m.length : Int)) (evK (expK plain (prvM plain m rho co) rho co m.length N) co i) by rw [List.getD_eq_getElem?_getD, h]; rfl]
  generalize expK plain (prvM plain m rho co) rho co m.length N = K
  have hg : (prvM plain m rho co).getD i [] = linR (plain.getD i []) rho (mrow m co i) := by simp [prvM, List.getD, hi]
  rw [hg]
  apply List.ext_getElem?
  intro x
  by_cases hx : x < (m.getD i []).length
  · have hl : x < (linR (plain.getD i []) rho (mrow m co i)).length := by rw [linR_length, mrow_length]; exact hx
    rw [expRow_get _ _ _ _ _ _ hl, linR_getD _ _ _ _ (by rw [mrow_length]; exact hx)]
    obtain ⟨v, hv⟩ : ∃ v, (m.getD i [])[x]? = some v := ⟨_, List.getElem?_eq_getElem hx⟩
    rw [List.getElem?_map, hv]
    have hmv : (mrow m co i).getD x 0 = mskE m co i v := by
      unfold mrow
      rw [List.getD_eq_getElem?_getD, List.getElem?_map, hv]
      rfl
    rw [hmv, mskE_eq m co i hi, show ((i : Int) + 1 - (m.length : Int)) = -((m.length - 1 - i : Nat) : Int) by omega, pwZ_neg]
    simp only [Option.map_some]
    exact congrArg some (exp_val _ _ _ _ _ _ _ (einv_mul _ hr) (xp_pair _))
  · rw [List.getElem?_eq_none (by rw [expRow_length, linR_length, mrow_length]; omega), List.getElem?_eq_none (by rw [List.length_map]; omega)]
end
theorem atE_shift (g : List E) (d x : E) (h2 : 2 ≤ g.length) (h4 : g.length ≤ 4) : atE (g.map (· + d)) x = atE g x + d := by
  have := atE_aff g d 1 x h2 h4
  rw [show (g.map fun v => (d + v) * 1) = g.map (· + d) from List.map_congr_left fun v _ => by rw [E.mul_one, E.add_comm], E.mul_one, E.add_comm] at this
  exact this
section
variable {m K : List (List E)} {co : List E}
theorem exp_ev (hm : ∀ i, i < m.length → 2 ≤ (m.getD i []).length ∧ (m.getD i []).length ≤ 4) (hK : ∀ i, i < m.length → K.getD i [] = (m.getD i []).map (· + movE m K co i)) : ∀ i, i < m.length → evK K co (i + 1) = evK m co (i + 1) + bsK m (m.length - 1 - i) * hlf := by
  intro i hi
  rw [evK_succ, hK i hi, atE_shift _ _ _ (hm i hi).1 (hm i hi).2, evK_succ]
  unfold movE
  generalize bsK m (m.length - 1 - i) * hlf = b
  generalize evK K co i = k
  generalize evK m co i = e
  generalize atE (m.getD i []) (co.getD i 0) = a
  apply E.ext_ <;> simp only [add_a, add_b, sub_a, sub_b] <;> grind
theorem exp_evM (hl : K.length = m.length) (hm : ∀ i, i < m.length → 2 ≤ (m.getD i []).length ∧ (m.getD i []).length ≤ 4) (hK : ∀ i, i < m.length → K.getD i [] = (m.getD i []).map (· + movE m K co i)) : evM K co = evM m co := by
  unfold evM
  rw [hl]
  by_cases h : m.length = 0
  · rw [h]; exact (show evK K co 0 = 0 from rfl).trans (show evK m co 0 = 0 from rfl).symm
  · obtain ⟨n, hn⟩ : ∃ n, m.length = n + 1 := ⟨m.length - 1, by omega⟩
    have := exp_ev hm hK n (by omega)
    rw [show m.length - 1 - n = 0 by omega, show bsK m 0 = 0 from rfl, E.zero_mul, E.add_zero] at this
    rw [hn]
    exact this
theorem mov_zero : movE m K co 0 = bsK m (m.length - 1) * hlf := by
  unfold movE
  rw [show evK m co 0 = 0 from rfl, show evK K co 0 = 0 from rfl, Nat.sub_zero, E.zero_add]
  generalize bsK m (m.length - 1) * hlf = b
  exact E.sub_zero b
theorem mov_succ (hm : ∀ i, i < m.length → 2 ≤ (m.getD i []).length ∧ (m.getD i []).length ≤ 4) (hK : ∀ i, i < m.length → K.getD i [] = (m.getD i []).map (· + movE m K co i)) (i : Nat) (hi : i + 1 < m.length) : movE m K co (i + 1) + movE m K co (i + 1) + endsE (m.getD (i + 1) []) = 0 := by
  have h := exp_ev hm hK i (by omega)
  unfold movE
  rw [h, show m.length - 1 - i = m.length - 1 - (i + 1) + 1 by omega, bsK_succ, show m.length - 1 - (m.length - 1 - (i + 1)) = i + 1 by omega]
  have h2 := hlf_add (endsE (m.getD (i + 1) []))
  rw [E.add_mul]
  generalize bsK m (m.length - 1 - (i + 1)) * hlf = b
  generalize endsE (m.getD (i + 1) []) = u at *
  generalize u * hlf = c at *
  rw [← h2]
  generalize evK m co (i + 1) = e
  apply E.ext_ <;> simp only [add_a, add_b, sub_a, sub_b, zero_a, zero_b] <;> grind
theorem ends_shift (g : List E) (d : E) (h2 : 2 ≤ g.length) : endsE (g.map (· + d)) = endsE g + (d + d) := by
  obtain ⟨x, y, g', rfl⟩ : ∃ x y g', g = x :: y :: g' := by
    match g, h2 with
    | x :: y :: g', _ => exact ⟨x, y, g', rfl⟩
  show x + d + (y + d) = x + y + (d + d)
  apply E.ext_ <;> simp only [add_a, add_b] <;> grind
theorem exp_norm (hm : ∀ i, i < m.length → 2 ≤ (m.getD i []).length ∧ (m.getD i []).length ≤ 4) (hK : ∀ i, i < m.length → K.getD i [] = (m.getD i []).map (· + movE m K co i)) (i : Nat) (hi : i + 1 < m.length) : endsE (K.getD (i + 1) []) = 0 := by
  rw [hK _ hi, ends_shift _ _ (hm _ hi).1, E.add_comm]
  exact mov_succ hm hK i hi
theorem exp_tot (hl : K.length = m.length) (hm : ∀ i, i < m.length → 2 ≤ (m.getD i []).length ∧ (m.getD i []).length ≤ 4) (hK : ∀ i, i < m.length → K.getD i [] = (m.getD i []).map (· + movE m K co i)) : totM K = totM m := by
  unfold totM
  rw [hl]
  refine cmul ?_
  by_cases h : m.length = 0
  · rw [h]; exact (show endK K 0 = 0 from rfl).trans (show endK m 0 = 0 from rfl).symm
  · have h0 : 0 < m.length := by omega
    have key : ∀ k, k < m.length → endK K (k + 1) = endsE (m.getD 0 []) + bsK m (m.length - 1) := by
      intro k
      induction k with
      | zero =>
        intro _
        rw [endK_succ, show endK K 0 = 0 from rfl, E.zero_add, hK 0 h0, ends_shift _ _ (hm 0 h0).1, mov_zero, hlf_add]
      | succ k ih =>
        intro hk
        rw [endK_succ, ih (by omega), exp_norm hm hK k hk, E.add_zero]
    obtain ⟨n, hn⟩ : ∃ n, m.length = n + 1 := ⟨m.length - 1, by omega⟩
    have h1 := key n (by omega)
    have h2 := bsK_split m n (by omega)
    rw [show m.length - n = 1 by omega, endK_succ, show endK m 0 = 0 from rfl, E.zero_add] at h2
    rw [← h2, show m.length - 1 = n by omega] at *
    rw [hn]
    exact h1
end
end Go.Proofs.YtnddfeidggcplaaGreat
namespace Go.Proofs.YtnddfeidggcplaaGreat
open Go.RowKit

def T32 : List E := intsE [1, 2, 3, 4]
def q32 : List Trm := [⟨eb (fz 1), [0]⟩]
def M32 : List (List E) := [intsE [0, 1], intsE [2, 3]]
def C32 : List E := intsE [5, 7]
def W32 : List (List E) := [intsE [54, 76], intsE [76, 88]]
def r32 : E := eb (fz 10)
theorem all32 : AllLen [T32] (2 ^ 2) := fun t ht => by cases ht with | head => rfl | tail _ h => cases h
theorem n32p : prvR [T32] q32 C32 = [intsE [4, 6], intsE [6, 8]] := by kernel_rfl
theorem n32b : prvV [T32] C32 = intsE [20] := by kernel_rfl
theorem n32d : degE q32 = 1 := rfl
theorem n32x : evK M32 C32 1 = eb (fz 5) := by
  rw [evK_succ, show evK M32 C32 0 = 0 from rfl, E.zero_add, show atE (M32.getD 0 []) (C32.getD 0 0) = atE [eb (fz 0), eb (fz 1)] (eb (fz 5)) from rfl, at2]
  decide +kernel
theorem n32i : evM M32 C32 = eb (fz 14) := by
  show evK M32 C32 2 = _
  rw [evK_succ, n32x, show atE (M32.getD 1 []) (C32.getD 1 0) = atE [eb (fz 2), eb (fz 3)] (eb (fz 7)) from rfl, at2]
  decide +kernel
theorem n32r0 : mrow M32 C32 0 = intsE [5, 7] := by
  have h : ∀ v, mskE M32 C32 0 v = (bsK M32 1 * hlf + v) * e2 := fun v => by
    rw [mskE_eq M32 C32 0 (by decide), show evK M32 C32 0 = 0 from rfl, E.zero_add]
    show (bsK M32 1 * hlf + v) * (e2 * 1) = _
    rw [E.mul_one]
  show [mskE M32 C32 0 (eb (fz 0)), mskE M32 C32 0 (eb (fz 1))] = _
  rw [h, h, hlf_val, show bsK M32 1 = eb (fz 5) by decide +kernel]
  decide +kernel
theorem n32r1 : mrow M32 C32 1 = intsE [7, 8] := by
  have h : ∀ v, mskE M32 C32 1 v = eb (fz 5) + v := fun v => by
    rw [mskE_eq M32 C32 1 (by decide), n32x, show bsK M32 (M32.length - 1 - 1) = 0 from rfl, E.zero_mul, E.add_zero]
    show (eb (fz 5) + v) * 1 = _
    rw [E.mul_one]
  show [mskE M32 C32 1 (eb (fz 2)), mskE M32 C32 1 (eb (fz 3))] = _
  rw [h, h]
  decide +kernel
theorem n32a : prvM (prvR [T32] q32 C32) M32 r32 C32 = W32 := by
  show [linR ((prvR [T32] q32 C32).getD 0 []) r32 (mrow M32 C32 0), linR ((prvR [T32] q32 C32).getD 1 []) r32 (mrow M32 C32 1)] = _
  rw [n32r0, n32r1, n32p]
  decide +kernel
theorem n32e : totM M32 = eb (fz 12) := by
  show endK M32 2 * (e2 * 1) = _
  decide +kernel
theorem n32f : totM [] = 0 := E.zero_mul _
theorem at54 : atE (intsE [54, 76]) (eb (fz 5)) = eb (fz 164) := by
  show atE [eb (fz 54), eb (fz 76)] (eb (fz 5)) = _
  rw [at2]
  decide +kernel
theorem at76 : atE (intsE [76, 88]) (eb (fz 7)) = eb (fz 160) := by
  show atE [eb (fz 76), eb (fz 88)] (eb (fz 7)) = _
  rw [at2]
  decide +kernel
theorem n32c : vrfE 1 (eb (fz 10) + r32 * eb (fz 12)) W32 C32 = (eb (fz 160), 0) := by
  unfold vrfE
  rw [if_neg (by decide)]
  have key := steps_ok 1 W32 C32 (fun i => match i with | 0 => eb (fz 10) + r32 * eb (fz 12) | 1 => eb (fz 164) | _ => eb (fz 160)) rfl (fun i g r hg hr => by
    match i with
    | 0 => cases hg; cases hr; exact ⟨rfl, by decide +kernel, at54⟩
    | 1 => cases hg; cases hr; exact ⟨rfl, by decide +kernel, at76⟩
    | i + 2 => simp [W32] at hg)
  exact key
theorem n32v : vrfE 1 (eb (fz 11) + r32 * eb (fz 12)) W32 C32 = (0, 60) := by
  unfold vrfE
  rw [if_neg (by decide)]
  show lastS _ (stepsL 1 _ (intsE [54, 76] :: _) (eb (fz 5) :: _)) = _
  rw [stepsL, if_neg (by decide), if_pos (by decide +kernel)]
  rfl
theorem r32_ne : r32 ≠ 0 := by decide +kernel
/-- What Explain finds in the fixed example. -/
def K32 : List (List E) := expK (prvR [T32] q32 C32) W32 r32 C32 2 2
theorem n32s : sumOk W32 C32 = true := by
  rw [sumOk_true]
  intro i h0 h1
  have : i = 1 := by have : W32.length = 2 := rfl; omega
  subst this
  show endsE (intsE [76, 88]) = atE (intsE [54, 76]) (eb (fz 5))
  rw [at54]
  decide +kernel
theorem n32h : explE (prvR [T32] q32 C32) W32 r32 C32 2 1 = (K32, 0) := by
  unfold explE
  rw [if_neg (by decide), if_neg r32_ne, if_neg (by decide), if_pos n32s]
  rfl
theorem K32_len : K32.length = 2 := expK_length _ _ _ _ _ _
theorem n32k : evM K32 C32 = eb (fz 14) := by
  have hm : ∀ g ∈ M32, g.length = 1 + 1 := by decide
  have h2 : ∀ i, i < M32.length → 2 ≤ (M32.getD i []).length ∧ (M32.getD i []).length ≤ 4 := by decide
  have hK : K32 = expK (prvR [T32] q32 C32) (prvM (prvR [T32] q32 C32) M32 r32 C32) r32 C32 M32.length 2 := by rw [n32a]; rfl
  rw [← n32i]
  refine exp_evM (by rw [K32_len]; rfl) h2 fun i hi => ?_
  rw [hK]
  exact expK_prv r32_ne hm i 2 hi hi
theorem n32g0 : explE (prvR [T32] q32 C32) W32 0 C32 2 1 = ([], 3) := by
  unfold explE
  rw [if_neg (by decide), if_pos rfl]
theorem n32g1 : explE (prvR [T32] q32 C32) (W32.take 1) r32 C32 2 1 = ([], 1) := by
  unfold explE
  rw [if_pos (by decide)]
theorem n32g2 : explE (prvR [T32] q32 C32) [intsE [54, 76], intsE [54, 76]] r32 C32 2 1 = ([], 60) := by
  unfold explE
  have hs : sumOk [intsE [54, 76], intsE [54, 76]] C32 = false := by
    cases h : sumOk [intsE [54, 76], intsE [54, 76]] C32
    · rfl
    · have h1 := (sumOk_true _ _).1 h 1 (by decide) (by decide)
      have h2 : endsE (intsE [54, 76]) = atE (intsE [54, 76]) (eb (fz 5)) := h1
      rw [at54] at h2
      exact absurd h2 (by decide +kernel)
  rw [if_neg (by decide), if_neg r32_ne, if_neg (by decide), if_neg (by rw [hs]; decide)]
theorem n32g3 : explE (prvR [T32] q32 C32) [intsE [54, 76], intsE [1, 2, 3]] r32 C32 2 1 = ([], 61) := by
  unfold explE
  rw [if_neg (by decide), if_neg r32_ne, if_pos (by decide)]
theorem simE_none (v : E) (co L : List E) (D : Nat) (fin : E) (n : Nat) (h : co.length = n + 1) (hc : clsE (simV v co L D n) (co.getD n 0) fin (tkZ L (n * D) (D - 1)) = none) : simE v co L D fin = [] := by
  unfold simE
  rw [if_neg (by omega), h, Nat.add_sub_cancel, hc]
theorem simE_some (v : E) (co L : List E) (D : Nat) (fin : E) (n : Nat) (h : co.length = n + 1) (row : List E) (hc : clsE (simV v co L D n) (co.getD n 0) fin (tkZ L (n * D) (D - 1)) = some row) : simE v co L D fin = (List.range n).map (simA v co L D) ++ [row] := by
  unfold simE
  rw [if_neg (by omega), h, Nat.add_sub_cancel, hc]
theorem n32m : simE (eb (fz 130)) C32 (intsE [76]) 1 (eb (fz 160)) = W32 := by
  have hA : simA (eb (fz 130)) C32 (intsE [76]) 1 0 = intsE [54, 76] := by decide +kernel
  have hV : simV (eb (fz 130)) C32 (intsE [76]) 1 1 = eb (fz 164) := by
    show atE (simA (eb (fz 130)) C32 (intsE [76]) 1 0) (eb (fz 5)) = _
    rw [hA, at54]
  have hc : clsE (eb (fz 164)) (eb (fz 7)) (eb (fz 160)) [] = some (intsE [76, 88]) := by
    have hs : atE (basE ([] : List E).length) (eb (fz 7)) = eb (fz 13) := by
      show atE [intE (-1), intE 1] (eb (fz 7)) = _
      rw [at2]
      decide +kernel
    have hn : eb (fz 13) ≠ 0 := by decide +kernel
    have h0 : atE [eb (fz 164), 0] (eb (fz 7)) = 0 - eb (fz 984) := by
      rw [at2]
      decide +kernel
    have hd : (eb (fz 160) - (0 - eb (fz 984))) * einv (eb (fz 13)) = eb (fz 88) := by
      rw [show eb (fz 160) - (0 - eb (fz 984)) = eb (fz 88) * eb (fz 13) by decide +kernel, E.mul_assoc, E.mul_comm (eb (fz 13)), einv_mul _ hn, E.mul_one]
    unfold clsE
    rw [hs, if_neg hn, h0, hd]
    exact congrArg some (by decide +kernel)
  rw [← hV] at hc
  rw [simE_some (eb (fz 130)) C32 (intsE [76]) 1 (eb (fz 160)) 1 rfl (intsE [76, 88]) hc]
  show [simA (eb (fz 130)) C32 (intsE [76]) 1 0, intsE [76, 88]] = _
  rw [hA]
  rfl
theorem n32o : simE 1 [hlf] [] 1 0 = [] := by
  have hs : atE (basE 0) hlf = 0 := by
    show atE [intE (-1), intE 1] hlf = _
    rw [at2, hlf_val]
    decide +kernel
  exact simE_none 1 [hlf] [] 1 0 0 rfl (if_pos hs)
end Go.Proofs.YtnddfeidggcplaaGreat
namespace Go.Proofs.YtnddfeidggcplaaGreat
open Go.RowKit

set_option maxRecDepth 100000 in
set_option maxHeartbeats 2000000 in
theorem gVerifyM (v rho tot : E) (gs : List (List E)) (cs : List E) (d : Int) (hd : -9223372036854775808 ≤ d ∧ d < 9223372036854775808) (hgl : gs.length ≤ 1000) (vr : Value) (AC : Option Addr) (capC : Nat) (lo hi lo2 hi2 : Nat) (w : World) (hg : TabS lo hi w vr gs) (hc : ExtS lo2 hi2 w (.slice AC cs.length capC) cs) :
    Calls Tryz.prog 30 #[ev v, vr, .agg #[.int .u64 (fv rho.a), .int .u64 (fv rho.b), .slice AC cs.length capC, .int .u64 (fv tot.a), .int .u64 (fv tot.b), .int .i64 d]] w (Ret (.tuple #[ev (vrfE d (v + rho * tot) gs cs).1, .int .i64 (vrfE d (v + rho * tot) gs cs).2]) w) := by
  obtain ⟨A, cap, rfl⟩ := hg.len
  have HV := Lib.hid (fun W (hW : Below w.heap.size w W) => gVerify (v + rho * tot) gs cs d hd hgl (.slice A gs.length cap) (.slice AC cs.length capC) lo hi lo2 hi2 W (hg.keep hW) (Rd.keep hc hW))
  clear hg hc
  generalize vrfE d (v + rho * tot) gs cs = f at *
  obtain ⟨f1, f2⟩ := f
  generalize gs.length = n at *
  generalize cs.length = nc at *
  obtain ⟨i1, hi1, jz0, jz1, jz2⟩ := info_parts ext_info
  unfold ev
  simp only
  go_enter Tryz.func30, Tryz.ntmps30
  go_upto_region 1 with (fail)
  refine wp_stk3 fun W hB hz b1 b2 b3 => ?_
  have hWs := hz.out
  clear hz
  have y1 := gw_blk b1
  have y2 := gw_blk b2
  refine wp_region_rg 9 [(6, Spec.val (.agg #[.int .u64 (fv (rho * tot).a), .int .u64 (fv (rho * tot).b)])), (7, Spec.val (.agg #[.int .u64 (fv (v + rho * tot).a), .int .u64 (fv (v + rho * tot).b)])), (8, Spec.rel (New 30 #[.int .u64 0, .int .u64 0]) (NewF))] (by kernel_rfl) (by kernel_rfl) (by kernel_rfl) ⟨fit_new, trivial⟩ ?_
  refine rg_det rfl rfl rfl (fun K hK => ?_)
  go_big_quiet_op
  refine hK _ ?_; clear hK K
  refine rg_det rfl rfl rfl (fun K hK => ?_)
  go_big_quiet_op
  refine hK _ ?_; clear hK K
  refine rg_det rfl rfl rfl (fun K hK => ?_)
  go_big_quiet_op
  refine hK _ ?_; clear hK K
  refine rg_det rfl rfl rfl (fun K hK => ?_)
  go_big_quiet_op
  refine hK _ ?_; clear hK K
  refine rg_det rfl rfl rfl (fun K hK => ?_)
  go_big_quiet_op
  refine hK _ ?_; clear hK K
  refine rg_det rfl rfl rfl (fun K hK => ?_)
  go_big_quiet_op
  refine hK _ ?_; clear hK K
  refine rg_val rfl rfl (fun W1 hW1 hF => step_callv en_attestor_ext_Mul (eMul rho tot W1) rfl rfl) ?_
  intro a' ha
  simp only [Act.put, List.setIfInBounds_toArray, List.set_cons_succ, List.set_cons_zero] at ha
  subst ha
  refine rg_val rfl rfl (fun W1 hW1 hF => step_callv en_attestor_ext_Add (eAdd v (rho * tot) W1) rfl rfl) ?_
  intro a' ha
  simp only [Act.put, List.setIfInBounds_toArray, List.set_cons_succ, List.set_cons_zero] at ha
  subst ha
  refine rg_rel rfl rfl (fun W1 hW1 hF => step_new hi1 jz0 rfl) ?_
  intro n8 m8 v8 hn8 hm8 hd8 hf8 a' ha
  simp only [Act.put, List.setIfInBounds_toArray, List.set_cons_succ, List.set_cons_zero] at ha
  subst ha
  obtain rfl := hf8
  refine rg_nil (fun w' hw' hF => ?_)
  obtain ⟨z, rfl⟩ := hw'
  simp only [List.drop_succ_cons, List.drop_zero]
  obtain ⟨hm8, -, hl8, b8⟩ := end_last hF
  have e1 := b8.cell
  have e2 := b8.frozen
  clear hF y1 y2
  go_upto_region 2 with (fail)
  refine set2 (M := fun W => Code.wp _ _ _ _ W) b8 fun X hX bX => ?_
  have b8' : Blk X n8 30 #[.int .u64 (fv (v + rho * tot).a), .int .u64 (fv (v + rho * tot).b)] := bX
  have b2X := hX.blk (b2.gw z) (by have := b2.lt; omega)
  have b3X := hX.blk (b3.gw z) (by have := b3.lt; omega)
  have hBX : Below w.heap.size w X := below_put (hB.trans (z.h.mono hB.size)) hX (by omega)
  clear e1 e2 bX b8
  generalize v + rho * tot = c at *
  have e1 := b8'.cell
  have e2 := b2X.cell
  go_wp2_with fail
  refine (HV.out X hBX).mono ?_
  rintro e w2 ⟨rfl, hb2⟩
  have b3w := b3X.keep hb2
  clear e1 e2
  have e3 := b3w.cell
  have e4 := b3w.frozen
  unfold ev
  go_wp2_with fail
  refine bodyPost_ret (v := .tuple #[.agg #[.int .u64 (fv f1.a), .int .u64 (fv f1.b)], .int .i64 f2]) (by simp [results, Tryz.results30, go_sem, e3]) rfl ⟨rfl, below_set2 (hBX.trans (hb2.mono hBX.size)) (by omega)⟩
end Go.Proofs.YtnddfeidggcplaaGreat
namespace Go.Proofs.YtnddfeidggcplaaGreat
open Go.RowKit

theorem zcs : ∀ zs : List Int, (zs.flatMap zc) = zs.map fun z => .int .i64 z
  | [] => rfl
  | z :: zs => by rw [List.flatMap_cons, zcs zs]; rfl
theorem ints_of_blk {W : World} {g : Nat} {t : TypeId} {zs : List Int} {n lo hi : Nat} (h : Blk W g t ((zs.map fun z => Value.int .i64 z).toArray)) (hn : zs.length = n) (hb : n ≤ 1000000) (hlo : lo ≤ g) (hhi : g < hi) (hz : ∀ z ∈ zs, -1000000 ≤ z ∧ z ≤ 1000000) : IntS lo hi W (.slice (some ⟨g, 0, none⟩) n n) zs := by
  subst hn
  refine ⟨⟨by rw [flat_length zc_len], by omega, some ⟨g, 0, none⟩, zs.length, rfl, Nat.le_refl _, fun _ => ⟨g, 0, rfl, hlo, hhi, h.lt, fun j u hu => ?_⟩⟩, fun z hz' => ?_⟩
  · rw [Nat.zero_add, h.cell, ← zcs]
    simpa using hu
  · obtain ⟨h1, h2⟩ := hz z hz'
    unfold Num
    omega
theorem tabsOne {W : World} {g lo hi : Nat} {t : TypeId} {v : Value} {xs : List E} (h : Blk W g t #[v]) (hx : ExtS lo hi W v xs) (hlo : lo ≤ g) (hhi : g < hi) : TabS lo hi W (.slice (some ⟨g, 0, none⟩) 1 1) [xs] :=
  ⟨[v], rfl, rd_blk (cs := [v]) h rfl (by decide) hlo hhi, fun k u t hu ht => by
    match k with
    | 0 => simp only [List.getElem?_cons_zero, Option.some.injEq] at hu ht; subst hu; subst ht; exact hx
    | k + 1 => simp at hu⟩
theorem tabsTwo {W : World} {g lo hi : Nat} {t : TypeId} {v u : Value} {xs ys : List E} (h : Blk W g t #[v, u]) (hx : ExtS lo hi W v xs) (hy : ExtS lo hi W u ys) (hlo : lo ≤ g) (hhi : g < hi) : TabS lo hi W (.slice (some ⟨g, 0, none⟩) 2 2) [xs, ys] :=
  ⟨[v, u], rfl, rd_blk (cs := [v, u]) h rfl (by decide) hlo hhi, fun k a t hu ht => by
    match k with
    | 0 => simp only [List.getElem?_cons_zero, Option.some.injEq] at hu ht; subst hu; subst ht; exact hx
    | 1 => simp only [List.getElem?_cons_succ, List.getElem?_cons_zero, Option.some.injEq] at hu ht; subst hu; subst ht; exact hy
    | k + 2 => simp at hu⟩
theorem idxsOne {W : World} {g lo hi : Nat} {t : TypeId} (h : Blk W g t #[.int .i64 0]) (hlo : lo ≤ g) (hhi : g < hi) : IdxS lo hi W (.slice (some ⟨g, 0, none⟩) 1 1) [0] :=
  rd_blk (cs := [.int .i64 0]) h rfl (by decide) hlo hhi
theorem trmsOne {W : World} {g lo hi : Nat} {t : TypeId} {v : Value} {c : E} {l : List Nat} (h : Blk W g t #[.int .u64 (fv c.a), .int .u64 (fv c.b), v]) (hx : IdxS lo hi W v l) (hlo : lo ≤ g) (hhi : g < hi) : TrmS lo hi W (.slice (some ⟨g, 0, none⟩) 1 1) [⟨c, l⟩] :=
  ⟨[v], rfl, rd_blk (cs := [.int .u64 (fv c.a), .int .u64 (fv c.b), v]) h rfl (by decide) hlo hhi, fun k u t hu ht => by
    match k with
    | 0 => simp only [List.getElem?_cons_zero, Option.some.injEq] at hu ht; subst hu; subst ht; exact hx
    | k + 1 => simp at hu⟩
theorem q32_ix : ∀ p ∈ q32, ∀ k ∈ p.t, k < [T32].length := by decide
theorem q32_sh : ∀ p ∈ q32, p.t.length ≤ 1000 := by decide
theorem tabCell {lo hi : Nat} {W : World} {A : Option Addr} {n cap : Nat} {tabs : List (List E)} (h : TabS lo hi W (.slice A n cap) tabs) (hn : 0 < tabs.length) : ∃ g off, A = some ⟨g, off, none⟩ ∧ g < W.heap.size ∧ ∀ k t, tabs[k]? = some t → ∃ B c, W.cell? ⟨g, off + k, none⟩ = some (.slice B t.length c) ∧ ExtS lo hi W (.slice B t.length c) t := by
  obtain ⟨us, hl, ⟨h1, h2, A', cap', h3, h4, h5⟩, h6⟩ := h
  cases h3
  obtain ⟨g, off, q1, q2, q3, q4, q5⟩ := h5 hn
  refine ⟨g, off, q1, q4, fun k t ht => ?_⟩
  have hk : k < us.length := by rw [hl]; exact (List.getElem?_eq_some_iff.1 ht).1
  have hx := h6 k _ t (List.getElem?_eq_getElem hk) ht
  obtain ⟨B, c, hB⟩ := Rd.len hx
  exact ⟨B, c, (q5 k _ (List.getElem?_eq_getElem hk)).trans (congrArg some hB), hB ▸ hx⟩
theorem TabS.up {lo hi : Nat} {w : World} {v : Value} {tabs : List (List E)} (h : TabS lo hi w v tabs) : TabS 0 w.heap.size w v tabs := h.base
/-- What a world of the fixed example holds behind its fourth statement. -/
structure S32 (w : World) (gM gS gW : Nat) (vt vp : Value) (AC : Option Addr) (cC : Nat) (X : World) : Prop where
  hM : TabS 0 X.heap.size X (.slice (some ⟨gM, 0, none⟩) 2 2) M32
  hS : SumS 0 X.heap.size X vt vp [T32] q32
  bS : Blk X gS 36 #[vt, vp]
  hC : ExtS 0 X.heap.size X (.slice AC 2 cC) C32
  bW : Blk X gW 39 #[.int .u64 (fv r32.a), .int .u64 (fv r32.b), .slice AC 2 cC]
  hw : Below w.heap.size w X
theorem S32.keep {w : World} {gM gS gW : Nat} {vt vp : Value} {AC : Option Addr} {cC : Nat} {X Y : World} (h : S32 w gM gS gW vt vp AC cC X) (hb : Below X.heap.size X Y) : S32 w gM gS gW vt vp AC cC Y :=
  ⟨(h.hM.keep hb).up, ⟨(h.hS.ht.keep hb).up, (h.hS.hp.keep hb).base, h.hS.ix, h.hS.few, h.hS.short⟩, h.bS.keep hb, ext_base (Rd.keep h.hC hb), h.bW.keep hb, h.hw.trans (hb.mono h.hw.size)⟩
theorem i64_info : (Tryz.prog.info? 2).map (fun i => (i.zero, i.size, i.bytes)) = some (some (.int .i64 0), 1, 8) := by kernel_rfl
theorem tabs_below {lo hi N : Nat} {w w' : World} {v : Value} {ts : List (List E)} (h : TabS lo hi w v ts) (hb : Below N w w') (hN : hi ≤ N) : TabS lo hi w' v ts :=
  h.other hb.size fun g _ h2 _ => hb.block g (by omega)
/-- What Explain hands back, as a value. -/
def ExpA (r : List (List E) × Int) (lo hi : Nat) (v : Value) (w : World) : Prop := ∃ u, v = .tuple #[u, .int .i64 r.2] ∧ TabS lo hi w u r.1
def TupF (k : Nat) (c : Int) (_ : Nat) (v : Value) : Prop := ∃ A cap, v = .tuple #[.slice A k cap, .int .i64 c]
theorem fit_exp {r : List (List E) × Int} : Fit (ExpA r) (TupF r.1.length r.2) :=
  ⟨fun _ _ _ _ _ ⟨u, h1, h2⟩ hb => ⟨u, h1, tabs_below h2 hb (Nat.le_refl _)⟩, fun _ => ⟨.tuple #[.slice none r.1.length 0, .int .i64 r.2], none, 0, rfl⟩, fun _ _ _ _ ⟨u, h1, h2⟩ => by
    obtain ⟨A, c, rfl⟩ := h2.len
    exact ⟨A, c, h1⟩⟩
theorem gEx32 {w : World} {gM gS gW : Nat} {AT AP AC : Option Addr} {cT cP cC : Nat} {X : World} (S : S32 w gM gS gW (.slice AT 1 cT) (.slice AP 1 cP) AC cC X) (rs : List (List E)) (rho : E) (r : List (List E) × Int) (hr : explE (prvR [T32] q32 C32) rs rho C32 2 1 = r) (hl : rs.length ≤ 1000) (vr : Value) (lo hi : Nat) (Y : World) (hb : Below X.heap.size X Y) (hrr : TabS lo hi Y vr rs) :
    Calls Tryz.prog 16 #[.agg #[.slice AT 1 cT, .slice AP 1 cP], vr, .agg #[.int .u64 (fv rho.a), .int .u64 (fv rho.b), .slice AC 2 cC]] Y (RetR (ExpA r) Y) := by
  have h := gExplain [T32] q32 rs rho C32 2 (by decide) all32 (by decide) (by decide) (by decide) hl AC cC (.slice AT 1 cT) (.slice AP 1 cP) vr _ _ _ _ _ _ Y (S.hS.keep hb) hrr (Rd.keep S.hC hb)
  rw [n32d, hr] at h
  refine Calls.mono h ?_
  rintro e w' ⟨v, rfl, h2, h3⟩
  exact ⟨_, rfl, ⟨v, rfl, h2⟩, h3⟩
/-- A literal of two rows. -/
def LitTab (xs ys : List E) (n m : Nat) (v : Value) (w : World) : Prop := v = .slice (some ⟨n, 0, none⟩) 2 2 ∧ n < m ∧ TabS 0 m w v [xs, ys]
theorem fit_litTab {xs ys : List E} : Fit (LitTab xs ys) (LitF 2) := ⟨fun _ _ _ _ _ ⟨h1, h2, h3⟩ hb => ⟨h1, h2, tabs_below h3 hb (Nat.le_refl _)⟩, fun _ => ⟨_, rfl⟩, fun _ _ _ _ h => h.1⟩
theorem litTab {W w' : World} {v a b : Value} {xs ys : List E} (h : Lit 22 2 #[a, b] W.heap.size w'.heap.size v w' ∧ Below W.heap.size W w') (hx : ExtS 0 W.heap.size W a xs) (hy : ExtS 0 W.heap.size W b ys) : LitTab xs ys W.heap.size w'.heap.size v w' ∧ Below W.heap.size W w' := by
  obtain ⟨⟨rfl, h2, h3⟩, hb⟩ := h
  exact ⟨⟨rfl, h2, tabsTwo h3 (ext_base (Rd.keep hx hb)) (ext_base (Rd.keep hy hb)) (Nat.zero_le _) h2⟩, hb⟩
theorem set5K {M : World → Prop} {w : World} {g : Nat} {t : TypeId} {cs : Array Value} {i0 i1 i2 i3 i4 : Nat} {v0 v1 v2 v3 v4 : Value} (b : Blk w g t cs) (h : ∀ X, Put w X g → Blk X g t (((((cs.setIfInBounds i0 v0).setIfInBounds i1 v1).setIfInBounds i2 v2).setIfInBounds i3 v3).setIfInBounds i4 v4) → M X) :
    M (((((w.setCell ⟨g, i0, none⟩ v0).setCell ⟨g, i1, none⟩ v1).setCell ⟨g, i2, none⟩ v2).setCell ⟨g, i3, none⟩ v3).setCell ⟨g, i4, none⟩ v4) :=
  h _ (((((Put.set w g i0 v0).trans (Put.set _ g i1 v1)).trans (Put.set _ g i2 v2)).trans (Put.set _ g i3 v3)).trans (Put.set _ g i4 v4)) (((((b.set_ i0 v0).set_ i1 v1).set_ i2 v2).set_ i3 v3).set_ i4 v4)
theorem sim_info : (Tryz.prog.info? 57).map (fun i => (i.zero, i.size, i.bytes)) = some (some (.agg #[.slice none 0 0, .int .i64 0, .slice none 0 0, .int .u64 0, .int .u64 0]), 5, 72) := by kernel_rfl
theorem en_attestor_attestorlaw32_ints : ∀ args w, (callFunc 48 args).run Tryz.prog w = .ok (.enter 48 args) w := enters_of Tryz.func48 (by kernel_rfl) rfl
theorem gTot32 {w : World} {gM gS gW : Nat} {vt vp : Value} {AC : Option Addr} {cC : Nat} {X : World} (S : S32 w gM gS gW vt vp AC cC X) (Y : World) (hb : Below X.heap.size X Y) : Calls Tryz.prog 20 #[.slice (some ⟨gM, 0, none⟩) 2 2] Y (Ret (ev (eb (fz 12))) Y) := by
  have := gTotM M32 (by decide) (by decide) _ _ _ Y (S.hM.keep hb)
  rwa [n32e] at this
theorem gTot0 (Y : World) : Calls Tryz.prog 20 #[.slice none 0 0] Y (Ret (.agg #[.int .u64 0, .int .u64 0]) Y) := by
  have := gTotM [] (by decide) (by simp) (.slice none 0 0) 0 0 Y (nil_tabs _ _ _)
  rw [n32f] at this
  exact this
theorem gEv32 {w : World} {gM gS gW : Nat} {vt vp : Value} {AC : Option Addr} {cC : Nat} {X : World} (S : S32 w gM gS gW vt vp AC cC X) (Y : World) (hb : Below X.heap.size X Y) : Calls Tryz.prog 22 #[.slice (some ⟨gM, 0, none⟩) 2 2, .slice AC 2 cC] Y (Ret (ev (eb (fz 14))) Y) := by
  have := gEvM M32 C32 (by decide) (by decide) (by decide) _ _ _ _ _ _ Y (S.hM.keep hb) (Rd.keep S.hC hb)
  rwa [n32i] at this
theorem K32_row : ∀ g ∈ K32, g.length ≤ 1000 := by
  intro g hg
  obtain ⟨k, hk⟩ := List.getElem?_of_mem hg
  have hk2 : k < 2 := by rw [← K32_len]; exact (List.getElem?_eq_some_iff.1 hk).1
  have h := expK_get (prvR [T32] q32 C32) W32 r32 C32 2 k 2 hk2
  have e := Option.some.inj (hk.symm.trans h)
  rw [e, expRow_length]
  have : k = 0 ∨ k = 1 := by omega
  rcases this with rfl | rfl <;> decide
theorem gEvK {w : World} {gM gS gW : Nat} {vt vp : Value} {AC AF : Option Addr} {cC cF lo hi : Nat} {X : World} (S : S32 w gM gS gW vt vp AC cC X) (hFo : TabS lo hi X (.slice AF 2 cF) K32) (Y : World) (hb : Below X.heap.size X Y) : Calls Tryz.prog 22 #[.slice AF 2 cF, .slice AC 2 cC] Y (Ret (ev (eb (fz 14))) Y) := by
  have := gEvM K32 C32 (by rw [K32_len]; decide) (by rw [K32_len]; decide) K32_row _ _ _ _ _ _ Y (hFo.keep hb) (Rd.keep S.hC hb)
  rwa [n32k] at this
def TabF (ts : List (List E)) (lo hi : Nat) (v : Value) (w : World) : Prop := TabS lo hi w v ts
theorem fit_tabF {ts : List (List E)} : Fit (TabF ts) (SlF ts.length) := ⟨fun _ _ _ _ _ h hb => tabs_below h hb (Nat.le_refl _), fun _ => ⟨.slice none ts.length 0, none, 0, rfl⟩, fun _ _ _ _ h => TabS.len h⟩
theorem gSimT {v : E} {co L : List E} {fin : E} {n l : Nat} {rs : List (List E)} (hr : simE v co L 1 fin = rs) (hn : co.length = n) (hl : L.length = l) (hn9 : n ≤ 1000) {AC AL : Option Addr} {capC capL lo hi lo2 hi2 : Nat} {w : World} (hc : ExtS lo hi w (.slice AC n capC) co) (hL : ExtS lo2 hi2 w (.slice AL l capL) L) :
    Calls Tryz.prog 27 #[ev v, .agg #[.slice AC n capC, .int .i64 1, .slice AL l capL, .int .u64 (fv fin.a), .int .u64 (fv fin.b)]] w (RetR (TabF rs) w) := by
  subst hl
  have := gSimulate v co L 1 fin (by decide) (by decide) n hn hn9 AC AL capC capL lo hi lo2 hi2 w hc hL
  rw [hr] at this
  exact this
theorem en_attestor_mask_Total : ∀ args w, (callFunc 20 args).run Tryz.prog w = .ok (.enter 20 args) w := enters_of Tryz.func20 (by kernel_rfl) rfl
theorem hlf_fz : einv (eb (fz 2)) = hlf := rfl
end Go.Proofs.YtnddfeidggcplaaGreat
namespace Go.Proofs.YtnddfeidggcplaaGreat
open Go.RowKit
theorem join32 {A : Prop} {M : Nat → World → Prop} (Q : Nat → World → Prop) (h : (∀ n X, Q n X → M n X) → A) (k : ∀ n X, Q n X → M n X) : A := h k
theorem unm_info : (Tryz.prog.info? 63).map (fun i => (i.zero, i.size, i.bytes)) = some (some (.agg #[.int .u64 0, .int .u64 0, .slice none 0 0, .int .u64 0, .int .u64 0, .int .i64 0]), 6, 64) := by kernel_rfl
theorem en_attestor_mask_Verify : ∀ args w, (callFunc 30 args).run Tryz.prog w = .ok (.enter 30 args) w := enters_of Tryz.func30 (by kernel_rfl) rfl
attribute [local irreducible] wpRg
set_option maxRecDepth 100000 in
set_option maxHeartbeats 4000000 in
theorem lSanity32a (w : World) : Calls Tryz.prog 12 #[] w (Ret (.bool true) w) := by
  go_enter Tryz.func12, Tryz.ntmps12
  go_wp2_with fail
  refine calls_stk1 fun W1 hB1 hz1 b1 => ?_
  refine (lInts [0, 1] _ 0 W1.heap.size W1 (ints_of_blk (zs := [0, 1]) b1 rfl (by decide) (Nat.zero_le _) b1.lt (by decide)) (by decide)).mono ?_
  rintro e w1 ⟨v1, rfl, i1, hb1⟩
  replace i1 : ExtS W1.heap.size w1.heap.size w1 v1 (intsE [0, 1]) := i1
  obtain ⟨A1, c1, hv1⟩ := Rd.len i1
  replace hv1 : v1 = .slice A1 2 c1 := hv1
  subst hv1
  replace i1 : ExtS 0 w1.heap.size w1 (.slice A1 2 c1) (intsE [0, 1]) := Rd.wide i1 (Nat.zero_le _) (Nat.le_refl _)
  have k1 := hB1.trans (hb1.mono hB1.size)
  clear b1 hz1 hB1 hb1
  go_wp2_with fail
  refine calls_stk1 fun W2 hB2 hz2 b2 => ?_
  refine (lInts [2, 3] _ 0 W2.heap.size W2 (ints_of_blk (zs := [2, 3]) b2 rfl (by decide) (Nat.zero_le _) b2.lt (by decide)) (by decide)).mono ?_
  rintro e w2 ⟨v2, rfl, i2, hb2⟩
  replace i2 : ExtS W2.heap.size w2.heap.size w2 v2 (intsE [2, 3]) := i2
  obtain ⟨A2, c2, hv2⟩ := Rd.len i2
  replace hv2 : v2 = .slice A2 2 c2 := hv2
  subst hv2
  replace i2 : ExtS 0 w2.heap.size w2 (.slice A2 2 c2) (intsE [2, 3]) := Rd.wide i2 (Nat.zero_le _) (Nat.le_refl _)
  have k2 := hB2.trans (hb2.mono hB2.size)
  clear b2 hz2 hB2 hb2
  go_upto_region 2 with (fail)
  refine wp_stk1 fun W3 hB3 hz3 b3 => ?_
  have M3 : TabS 0 W3.heap.size W3 (.slice (some ⟨w2.heap.size, 0, none⟩) 2 2) M32 := tabsTwo b3 (ext_base (Rd.keep (Rd.keep i1 k2) hB3)) (ext_base (Rd.keep i2 hB3)) (Nat.zero_le _) b3.lt
  have h3 := (k1.trans (k2.mono k1.size)).trans (hB3.mono (k1.trans (k2.mono k1.size)).size)
  clear hz3 b3 i1 i2 k1 k2 hB3
  go_wp2_with fail
  refine calls_stk1 fun W4 hB4 hz4 b4 => ?_
  refine (lInts [1, 2, 3, 4] _ 0 W4.heap.size W4 (ints_of_blk (zs := [1, 2, 3, 4]) b4 rfl (by decide) (Nat.zero_le _) b4.lt (by decide)) (by decide)).mono ?_
  rintro e w4 ⟨v4, rfl, i4, hb4⟩
  replace i4 : ExtS W4.heap.size w4.heap.size w4 v4 (intsE [1, 2, 3, 4]) := i4
  obtain ⟨A4, c4, hv4⟩ := Rd.len i4
  replace hv4 : v4 = .slice A4 4 c4 := hv4
  subst hv4
  replace i4 : ExtS 0 w4.heap.size w4 (.slice A4 4 c4) (intsE [1, 2, 3, 4]) := Rd.wide i4 (Nat.zero_le _) (Nat.le_refl _)
  have k4 := hB4.trans (hb4.mono hB4.size)
  clear b4 hz4 hB4 hb4
  go_wp2_with fail
  refine calls_stk1 fun W5 hB5 hz5 b5 => ?_
  refine (xOne W5).mono ?_
  rintro e w5 ⟨he, hb5⟩
  unfold ev at he
  subst he
  have hT5 := hB5.trans (hb5.mono hB5.size)
  go_upto_region 3 with (fail)
  refine wp_stk3 fun W6 hB6 hz6 b61 b62 b63 => ?_
  have hT6 := hT5.trans (hB6.mono hT5.size)
  have hs6 := hB6.size
  have hs5 := hb5.size
  have hz5o := hz5.out
  have hz6o := hz6.out
  have P6 : SumS 0 W6.heap.size W6 (.slice (some ⟨w4.heap.size, 0, none⟩) 1 1) (.slice (some ⟨w5.heap.size + 1, 0, none⟩) 1 1) [T32] q32 :=
    ⟨tabsOne (((b5.keep hb5).keep hB6)) (ext_base (Rd.keep i4 hT6)) (Nat.zero_le _) (by omega), trmsOne (c := eb (fz 1)) b62 (idxsOne b61 (Nat.zero_le _) (by omega)) (Nat.zero_le _) (by omega), q32_ix, by decide, q32_sh⟩
  have k6 := k4.trans (hT6.mono k4.size)
  have M6 := (M3.keep k6).up
  have h6 := h3.trans (k6.mono h3.size)
  clear i4 k4 k6 hT5 hT6 hB5 hb5 hB6 hz5 hz6 hs6 hs5 hz5o hz6o b5 b61 b62 M3 h3
  go_wp2_with fail
  refine (xFromInt 10 (by decide) (by decide) W6).mono ?_
  rintro e w6 ⟨he, hb6⟩
  unfold ev at he
  subst he
  go_wp2_with fail
  refine calls_stk1 fun W7 hB7 hz7 b7 => ?_
  refine (lInts [5, 7] _ 0 W7.heap.size W7 (ints_of_blk (zs := [5, 7]) b7 rfl (by decide) (Nat.zero_le _) b7.lt (by decide)) (by decide)).mono ?_
  rintro e w7 ⟨v7, rfl, i7, hb7⟩
  replace i7 : ExtS W7.heap.size w7.heap.size w7 v7 (intsE [5, 7]) := i7
  obtain ⟨A7, c7, hv7⟩ := Rd.len i7
  replace hv7 : v7 = .slice A7 2 c7 := hv7
  subst hv7
  replace i7 : ExtS 0 w7.heap.size w7 (.slice A7 2 c7) (intsE [5, 7]) := Rd.wide i7 (Nat.zero_le _) (Nat.le_refl _)
  have k7 := hB7.trans (hb7.mono hB7.size)
  clear b7 hz7 hB7 hb7
  go_upto_region 4 with (fail)
  refine wp_stk1 fun X hBX hzX bX => ?_
  have hT7 := hb6.trans (k7.mono hb6.size)
  have hTX := hT7.trans (hBX.mono hT7.size)
  have hS4 : S32 w w2.heap.size (w5.heap.size + 1 + 1) w7.heap.size (.slice (some ⟨w4.heap.size, 0, none⟩) 1 1) (.slice (some ⟨w5.heap.size + 1, 0, none⟩) 1 1) A7 c7 X :=
    ⟨(M6.keep hTX).up, ⟨(P6.ht.keep hTX).up, (P6.hp.keep hTX).base, P6.ix, P6.few, P6.short⟩, b63.keep hTX, ext_base (Rd.keep i7 hBX), bX, h6.trans (hTX.mono h6.size)⟩
  clear M6 P6 b63 i7 bX h6 hTX hT7 hBX hzX hb6 k7
  have e1 := hS4.bS.cell
  have e2 := hS4.bW.cell
  go_wp2_with fail
  refine (gProveM [T32] q32 M32 r32 C32 2 rfl (by decide) all32 (by decide) (by decide) rfl (by decide) (by decide) A7 c7 _ _ _ _ _ _ _ _ _ X hS4.hS hS4.hM hS4.hC).mono ?_
  rintro e Y ⟨v1, v2, rfl, hR, hV, hbY⟩
  rw [n32a] at hR
  rw [n32b] at hV
  obtain ⟨AR, cR, hv⟩ := hR.len
  replace hv : v1 = .slice AR 2 cR := hv
  subst hv
  obtain ⟨AV, cV, hv⟩ := Rd.len hV
  replace hv : v2 = .slice AV 1 cV := hv
  subst hv
  have S4 := hS4.keep hbY
  replace hR := hR.up
  replace hV := ext_base hV
  clear hS4 e1 e2 hbY
  go_upto_region 5 with (fail)
  obtain ⟨i0, hi0, iz0, iz1, iz2⟩ := info_parts unm_info
  obtain ⟨i1, hi1, jz0, jz1, jz2⟩ := info_parts ext_info
  have yW := gw_blk S4.bW
  refine wp_region_rg 4 [(1, Spec.val (.agg #[.int .u64 (fv (eb (fz 12)).a), .int .u64 (fv (eb (fz 12)).b)])), (3, Spec.rel (New 63 #[.int .u64 0, .int .u64 0, .slice none 0 0, .int .u64 0, .int .u64 0, .int .i64 0]) (NewF))] (by kernel_rfl) (by kernel_rfl) (by kernel_rfl) ⟨fit_new, trivial⟩ ?_
  refine rg_det rfl rfl rfl (fun K hK => ?_)
  go_big_quiet_op
  refine hK _ ?_; clear hK K
  refine rg_val rfl rfl (fun W1 hW1 hF => step_callv en_attestor_attestorref02_FromInt (xFromInt 12 (by decide) (by decide) W1) rfl rfl) ?_
  intro a' ha
  simp only [Act.put, List.setIfInBounds_toArray, List.set_cons_succ, List.set_cons_zero] at ha
  subst ha
  refine rg_det rfl rfl rfl (fun K hK => ?_)
  go_big_quiet_op
  refine hK _ ?_; clear hK K
  refine rg_rel rfl rfl (fun W1 hW1 hF => step_new hi0 iz0 rfl) ?_
  intro nf3 mf3 vf3 hnf3 hmf3 hdf3 hff3 a' ha
  simp only [Act.put, List.setIfInBounds_toArray, List.set_cons_succ, List.set_cons_zero] at ha
  subst ha
  obtain rfl := hff3
  refine rg_nil (fun w' hw' hF => ?_)
  obtain ⟨z5, rfl⟩ := hw'
  simp only [List.drop_succ_cons, List.drop_zero]
  obtain ⟨hmu, hnu, hlu, bU⟩ := end_last hF
  have e1 := bU.cell
  have e2 := bU.frozen
  clear hF yW
  go_upto_region 6 with (fail)
  refine set6 (M := fun W => Code.wp _ _ _ _ W) bU fun X5 pU5 bU5 => ?_
  have hB5 := below_put z5.h pU5 hnf3
  replace bU : Blk X5 nf3 63 #[.int .u64 (fv r32.a), .int .u64 (fv r32.b), .slice A7 2 c7, .int .u64 (fv (eb (fz 12)).a), .int .u64 (fv (eb (fz 12)).b), .int .i64 1] := bU5
  have S5 := S4.keep hB5
  replace hR := (hR.keep hB5).up
  replace hV := ext_base (Rd.keep hV hB5)
  clear e1 e2 S4 hmu hlu hnf3 hmf3 hdf3 pU5 bU5 hB5 z5
  have XV := Lib.hid (show ∀ W1, Below X5.heap.size X5 W1 → Calls Tryz.prog 30 #[.agg #[.int .u64 (fv (eb (fz 10)).a), .int .u64 (fv (eb (fz 10)).b)], .slice AR 2 cR, .agg #[.int .u64 (fv r32.a), .int .u64 (fv r32.b), .slice A7 2 c7, .int .u64 (fv (eb (fz 12)).a), .int .u64 (fv (eb (fz 12)).b), .int .i64 1]] W1 (Ret (.tuple #[.agg #[.int .u64 (fv (eb (fz 160)).a), .int .u64 (fv (eb (fz 160)).b)], .int .i64 0]) W1) from fun W1 h => by
    have := gVerifyM (eb (fz 10)) r32 (eb (fz 12)) W32 C32 1 (by decide) (by decide) _ A7 c7 _ _ _ _ W1 (hR.keep h) (Rd.keep S5.hC h)
    rw [n32c] at this
    exact this)
  apply join32 (Q := fun n X => Below X5.heap.size X5 X ∧ Blk X n 30 #[.int .u64 (fv (eb (fz 160)).a), .int .u64 (fv (eb (fz 160)).b)])
  case h =>
    intro kk
    have KK := Lib.hid kk
    clear kk
    have yU := gw_blk bU
    refine wp_region_swap 8 6 undef [(0, Spec.val (.agg #[.int .u64 (fv (eb (fz 10)).a), .int .u64 (fv (eb (fz 10)).b)])), (3, Spec.val (.tuple #[.agg #[.int .u64 (fv (eb (fz 160)).a), .int .u64 (fv (eb (fz 160)).b)], .int .i64 0])), (7, Spec.rel (New 30 #[.int .u64 0, .int .u64 0]) (NewF))] (by kernel_rfl) (by kernel_rfl) (by kernel_rfl) rfl rfl rfl rfl ⟨fit_new, trivial⟩ ?_ ?_
    refine rg_val rfl rfl (fun W1 hW1 hF => step_callv en_attestor_attestorref02_FromInt (xFromInt 10 (by decide) (by decide) W1) rfl rfl) ?_
    intro a' ha
    simp only [Act.put, List.setIfInBounds_toArray, List.set_cons_succ, List.set_cons_zero] at ha
    subst ha
    refine rg_det rfl rfl rfl (fun K hK => ?_)
    go_big_quiet_op
    refine hK _ ?_; clear hK K
    refine rg_det rfl rfl rfl (fun K hK => ?_)
    go_big_quiet_op
    refine hK _ ?_; clear hK K
    refine rg_val rfl rfl (fun W1 hW1 hF => step_callv en_attestor_mask_Verify (XV.out W1 (grw_below hW1)) rfl rfl) ?_
    intro a' ha
    simp only [Act.put, List.setIfInBounds_toArray, List.set_cons_succ, List.set_cons_zero] at ha
    subst ha
    refine rg_det rfl rfl rfl (fun K hK => ?_)
    go_big_quiet_op
    refine hK _ ?_; clear hK K
    refine rg_det rfl rfl rfl (fun K hK => ?_)
    go_big_quiet_op
    refine hK _ ?_; clear hK K
    refine rg_det rfl rfl rfl (fun K hK => ?_)
    go_big_quiet_op
    refine hK _ ?_; clear hK K
    refine rg_rel rfl rfl (fun W1 hW1 hF => step_new hi1 jz0 rfl) ?_
    intro n7 m7 v7 hn7 hm7 hd7 hf7 a' ha
    simp only [Act.put, List.setIfInBounds_toArray, List.set_cons_succ, List.set_cons_zero] at ha
    subst ha
    obtain rfl := hf7
    refine rg_nil (fun w' hw' hF => ?_)
    obtain ⟨z, rfl⟩ := hw'
    simp only [List.drop_succ_cons, List.drop_zero]
    rotate_left 1
    refine rg_val rfl rfl (fun W1 hW1 hF => step_callv en_attestor_attestorref02_FromInt (xFromInt 10 (by decide) (by decide) W1) rfl rfl) ?_
    intro a' ha
    simp only [Act.put, List.setIfInBounds_toArray, List.set_cons_succ, List.set_cons_zero] at ha
    subst ha
    refine rg_det rfl rfl rfl (fun K hK => ?_)
    go_big_quiet_op
    refine hK _ ?_; clear hK K
    refine rg_det rfl rfl rfl (fun K hK => ?_)
    go_big_quiet_op
    refine hK _ ?_; clear hK K
    refine rg_val rfl rfl (fun W1 hW1 hF => step_callv en_attestor_mask_Verify (XV.out W1 (grw_below hW1)) rfl rfl) ?_
    intro a' ha
    simp only [Act.put, List.setIfInBounds_toArray, List.set_cons_succ, List.set_cons_zero] at ha
    subst ha
    refine rg_det rfl rfl rfl (fun K hK => ?_)
    go_big_quiet_op
    refine hK _ ?_; clear hK K
    refine rg_det rfl rfl rfl (fun K hK => ?_)
    go_big_quiet_op
    refine hK _ ?_; clear hK K
    refine rg_pass rfl rfl ?_
    intro a' ha
    simp only [Act.put, List.setIfInBounds_toArray, List.set_cons_succ, List.set_cons_zero] at ha
    subst ha
    refine rg_rel rfl rfl (fun W1 hW1 hF => step_new hi1 jz0 rfl) ?_
    intro n7 m7 v7 hn7 hm7 hd7 hf7 a' ha
    simp only [Act.put, List.setIfInBounds_toArray, List.set_cons_succ, List.set_cons_zero] at ha
    subst ha
    obtain rfl := hf7
    refine rg_nil (fun w' hw' hF => ?_)
    obtain ⟨z, rfl⟩ := hw'
    simp only [List.drop_succ_cons, List.drop_zero]
    refine wpList_putS ?_
    intro a' ha
    simp only [Act.put, List.setIfInBounds_toArray, List.set_cons_succ, List.set_cons_zero] at ha
    subst ha
    rotate_right 1
    all_goals
      obtain ⟨hm7, -, hl7, b7⟩ := end_last hF
      have e1 := b7.cell
      have e2 := b7.frozen
      clear hF yU
      go_upto_region 7 with (fail)
      rename_i K hK
      refine set2 (M := fun W => Code.wp _ _ _ _ W) b7 fun X1 hX1 bX1 => ?_
      revert K
      exact KK.out n7 X1 ⟨below_put z.h hX1 hn7, bX1⟩
  intro gv X6 ⟨hB6, bv⟩ K6 hK6
  clear XV
  have S6 := S5.keep hB6
  replace hR := (hR.keep hB6).up
  replace hV := ext_base (Rd.keep hV hB6)
  replace bU := bU.keep hB6
  clear S5 hB6
  have XV := Lib.hid (show ∀ W1, Below X6.heap.size X6 W1 → Calls Tryz.prog 30 #[.agg #[.int .u64 (fv (eb (fz 11)).a), .int .u64 (fv (eb (fz 11)).b)], .slice AR 2 cR, .agg #[.int .u64 (fv r32.a), .int .u64 (fv r32.b), .slice A7 2 c7, .int .u64 (fv (eb (fz 12)).a), .int .u64 (fv (eb (fz 12)).b), .int .i64 1]] W1 (Ret (.tuple #[.agg #[.int .u64 (fv ((0 : E)).a), .int .u64 (fv ((0 : E)).b)], .int .i64 60]) W1) from fun W1 h => by
    have := gVerifyM (eb (fz 11)) r32 (eb (fz 12)) W32 C32 1 (by decide) (by decide) _ A7 c7 _ _ _ _ W1 (hR.keep h) (Rd.keep S6.hC h)
    rw [n32v] at this
    exact this)
  apply join32 (Q := fun n X => Below X6.heap.size X6 X ∧ Blk X n 30 #[.int .u64 (fv ((0 : E)).a), .int .u64 (fv ((0 : E)).b)])
  case h =>
    intro kk
    have KK := Lib.hid kk
    clear kk
    have yU := gw_blk bU
    refine wp_region_swap 8 6 undef [(0, Spec.val (.agg #[.int .u64 (fv (eb (fz 11)).a), .int .u64 (fv (eb (fz 11)).b)])), (3, Spec.val (.tuple #[.agg #[.int .u64 (fv ((0 : E)).a), .int .u64 (fv ((0 : E)).b)], .int .i64 60])), (7, Spec.rel (New 30 #[.int .u64 0, .int .u64 0]) (NewF))] (by kernel_rfl) (by kernel_rfl) (by kernel_rfl) rfl rfl rfl rfl ⟨fit_new, trivial⟩ ?_ ?_
    refine rg_val rfl rfl (fun W1 hW1 hF => step_callv en_attestor_attestorref02_FromInt (xFromInt 11 (by decide) (by decide) W1) rfl rfl) ?_
    intro a' ha
    simp only [Act.put, List.setIfInBounds_toArray, List.set_cons_succ, List.set_cons_zero] at ha
    subst ha
    refine rg_det rfl rfl rfl (fun K hK => ?_)
    go_big_quiet_op
    refine hK _ ?_; clear hK K
    refine rg_det rfl rfl rfl (fun K hK => ?_)
    go_big_quiet_op
    refine hK _ ?_; clear hK K
    refine rg_val rfl rfl (fun W1 hW1 hF => step_callv en_attestor_mask_Verify (XV.out W1 (grw_below hW1)) rfl rfl) ?_
    intro a' ha
    simp only [Act.put, List.setIfInBounds_toArray, List.set_cons_succ, List.set_cons_zero] at ha
    subst ha
    refine rg_det rfl rfl rfl (fun K hK => ?_)
    go_big_quiet_op
    refine hK _ ?_; clear hK K
    refine rg_det rfl rfl rfl (fun K hK => ?_)
    go_big_quiet_op
    refine hK _ ?_; clear hK K
    refine rg_det rfl rfl rfl (fun K hK => ?_)
    go_big_quiet_op
    refine hK _ ?_; clear hK K
    refine rg_rel rfl rfl (fun W1 hW1 hF => step_new hi1 jz0 rfl) ?_
    intro n7 m7 v7 hn7 hm7 hd7 hf7 a' ha
    simp only [Act.put, List.setIfInBounds_toArray, List.set_cons_succ, List.set_cons_zero] at ha
    subst ha
    obtain rfl := hf7
    refine rg_nil (fun w' hw' hF => ?_)
    obtain ⟨z, rfl⟩ := hw'
    simp only [List.drop_succ_cons, List.drop_zero]
    rotate_left 1
    refine rg_val rfl rfl (fun W1 hW1 hF => step_callv en_attestor_attestorref02_FromInt (xFromInt 11 (by decide) (by decide) W1) rfl rfl) ?_
    intro a' ha
    simp only [Act.put, List.setIfInBounds_toArray, List.set_cons_succ, List.set_cons_zero] at ha
    subst ha
    refine rg_det rfl rfl rfl (fun K hK => ?_)
    go_big_quiet_op
    refine hK _ ?_; clear hK K
    refine rg_det rfl rfl rfl (fun K hK => ?_)
    go_big_quiet_op
    refine hK _ ?_; clear hK K
    refine rg_val rfl rfl (fun W1 hW1 hF => step_callv en_attestor_mask_Verify (XV.out W1 (grw_below hW1)) rfl rfl) ?_
    intro a' ha
    simp only [Act.put, List.setIfInBounds_toArray, List.set_cons_succ, List.set_cons_zero] at ha
    subst ha
    refine rg_det rfl rfl rfl (fun K hK => ?_)
    go_big_quiet_op
    refine hK _ ?_; clear hK K
    refine rg_det rfl rfl rfl (fun K hK => ?_)
    go_big_quiet_op
    refine hK _ ?_; clear hK K
    refine rg_pass rfl rfl ?_
    intro a' ha
    simp only [Act.put, List.setIfInBounds_toArray, List.set_cons_succ, List.set_cons_zero] at ha
    subst ha
    refine rg_rel rfl rfl (fun W1 hW1 hF => step_new hi1 jz0 rfl) ?_
    intro n7 m7 v7 hn7 hm7 hd7 hf7 a' ha
    simp only [Act.put, List.setIfInBounds_toArray, List.set_cons_succ, List.set_cons_zero] at ha
    subst ha
    obtain rfl := hf7
    refine rg_nil (fun w' hw' hF => ?_)
    obtain ⟨z, rfl⟩ := hw'
    simp only [List.drop_succ_cons, List.drop_zero]
    refine wpList_putS ?_
    intro a' ha
    simp only [Act.put, List.setIfInBounds_toArray, List.set_cons_succ, List.set_cons_zero] at ha
    subst ha
    rotate_right 1
    all_goals
      obtain ⟨hm7, -, hl7, b7⟩ := end_last hF
      have e1 := b7.cell
      have e2 := b7.frozen
      clear hF yU
      go_upto_region 8 with (fail)
      rename_i K hK
      refine set2 (M := fun W => Code.wp _ _ _ _ W) b7 fun X1 hX1 bX1 => ?_
      revert K
      exact KK.out n7 X1 ⟨below_put z.h hX1 hn7, bX1⟩
  intro gw X7 ⟨hB7, _⟩ K7 hK7
  clear XV
  have S7 := S6.keep hB7
  replace hR := (hR.keep hB7).up
  replace hV := ext_base (Rd.keep hV hB7)
  replace bv := bv.keep hB7
  clear S6 hB7 bU
  go_wp2_with fail
  refine calls_stk1 fun W8 hB8 hz8 b8 => ?_
  refine (lInts [54, 76] _ 0 W8.heap.size W8 (ints_of_blk (zs := [54, 76]) b8 rfl (by decide) (Nat.zero_le _) b8.lt (by decide)) (by decide)).mono ?_
  rintro e w8 ⟨v8, rfl, i8, hb8⟩
  replace i8 : ExtS W8.heap.size w8.heap.size w8 v8 (intsE [54, 76]) := i8
  obtain ⟨A8, c8, hv8⟩ := Rd.len i8
  replace hv8 : v8 = .slice A8 2 c8 := hv8
  subst hv8
  replace i8 : ExtS 0 w8.heap.size w8 (.slice A8 2 c8) (intsE [54, 76]) := Rd.wide i8 (Nat.zero_le _) (Nat.le_refl _)
  have k8 := hB8.trans (hb8.mono hB8.size)
  clear b8 hz8 hB8 hb8
  go_wp2_with fail
  refine calls_stk1 fun W9 hB9 hz9 b9 => ?_
  refine (lInts [76, 88] _ 0 W9.heap.size W9 (ints_of_blk (zs := [76, 88]) b9 rfl (by decide) (Nat.zero_le _) b9.lt (by decide)) (by decide)).mono ?_
  rintro e w9 ⟨v9, rfl, i9, hb9⟩
  replace i9 : ExtS W9.heap.size w9.heap.size w9 v9 (intsE [76, 88]) := i9
  obtain ⟨A9, c9, hv9⟩ := Rd.len i9
  replace hv9 : v9 = .slice A9 2 c9 := hv9
  subst hv9
  replace i9 : ExtS 0 w9.heap.size w9 (.slice A9 2 c9) (intsE [76, 88]) := Rd.wide i9 (Nat.zero_le _) (Nat.le_refl _)
  have k9 := hB9.trans (hb9.mono hB9.size)
  clear b9 hz9 hB9 hb9
  go_upto_region 9 with (fail)
  refine wp_stk1 fun X9 hX9 hz9 b9 => ?_
  have hT9 := k8.trans (k9.mono k8.size)
  have hU9 := hT9.trans (hX9.mono hT9.size)
  have hWt : TabS 0 X9.heap.size X9 (.slice (some ⟨w9.heap.size, 0, none⟩) 2 2) W32 := tabsTwo b9 (ext_base (Rd.keep (Rd.keep i8 k9) hX9)) (ext_base (Rd.keep i9 hX9)) (Nat.zero_le _) b9.lt
  have S9 := S7.keep hU9
  replace hR := (hR.keep hU9).up
  replace hV := ext_base (Rd.keep hV hU9)
  replace bv := bv.keep hU9
  clear S7 hU9 hT9 hX9 hz9 b9 i8 i9 k8 k9
  have e1 := S9.bS.cell
  have e2 := S9.bW.cell
  go_wp2_with fail
  refine (gEx32 S9 W32 r32 (K32, 0) n32h (by decide) _ _ _ X9 (Below.refl _ _) hWt).mono ?_
  rintro e Z ⟨_, rfl, ⟨vf, rfl, hFo⟩, hbZ⟩
  obtain ⟨AF, cF, hv⟩ := hFo.len
  replace hv : vf = .slice AF 2 cF := by rw [hv, K32_len]
  subst hv
  replace hFo : TabS 0 Z.heap.size Z (.slice AF 2 cF) K32 := TabS.base hFo
  have S10 := S9.keep hbZ
  replace hR := (hR.keep hbZ).up
  replace hV := ext_base (Rd.keep hV hbZ)
  replace bv := bv.keep hbZ
  replace hWt := (hWt.keep hbZ).up
  clear e1 e2 S9 hbZ
  have e1 := S10.bS.cell
  have e2 := S10.bW.cell
  go_wp2_with fail
  refine (gEx32 S10 W32 0 ([], 3) n32g0 (by decide) _ _ _ Z (Below.refl _ _) hWt).mono ?_
  rintro e Z2 ⟨_, rfl, ⟨vf2, rfl, hG⟩, hbZ⟩
  obtain ⟨AG, cG, hv⟩ := hG.len
  replace hv : vf2 = .slice AG 0 cG := hv
  subst hv
  have S11 := S10.keep hbZ
  replace hR := (hR.keep hbZ).up
  replace hV := ext_base (Rd.keep hV hbZ)
  replace bv := bv.keep hbZ
  replace hWt := (hWt.keep hbZ).up
  replace hFo := (hFo.keep hbZ).up
  clear e1 e2 S10 hbZ hG
  go_upto_region 11 with (fail)
  have yS := gw_blk S11.bS
  have yW := gw_blk S11.bW
  refine wp_region_rg 9 [(4, Spec.rel (ExpA ([], 1)) (TupF 0 1))] (by kernel_rfl) (by kernel_rfl) (by kernel_rfl) ⟨fit_exp, trivial⟩ ?_
  refine rg_det rfl rfl rfl (fun K hK => ?_)
  go_big_quiet_op
  refine hK _ ?_; clear hK K
  refine rg_det rfl rfl rfl (fun K hK => ?_)
  go_big_quiet_op
  refine hK _ ?_; clear hK K
  refine rg_det rfl rfl rfl (fun K hK => ?_)
  go_big_quiet_op
  refine hK _ ?_; clear hK K
  refine rg_det rfl rfl rfl (fun K hK => ?_)
  go_big_quiet_op
  refine hK _ ?_; clear hK K
  refine rg_rel rfl rfl (fun W1 hW1 hF => step_callr en_attestor_mask_Explain ((gEx32 S11 (W32.take 1) r32 ([], 1) n32g1 (by decide) _ _ _ W1 (grw_below hW1) ((tabs_take hWt (by decide)).keep (grw_below hW1)))) rfl rfl) ?_
  intro ng4 mg4 vg4 hng4 hmg4 hdg4 hfg4 a' ha
  simp only [Act.put, List.setIfInBounds_toArray, List.set_cons_succ, List.set_cons_zero] at ha
  subst ha
  obtain ⟨Ag4, capg4, rfl⟩ := hfg4
  refine rg_det rfl rfl rfl (fun K hK => ?_)
  go_big_quiet_op
  refine hK _ ?_; clear hK K
  refine rg_det rfl rfl rfl (fun K hK => ?_)
  go_big_quiet_op
  refine hK _ ?_; clear hK K
  refine rg_det rfl rfl rfl (fun K hK => ?_)
  go_big_quiet_op
  refine hK _ ?_; clear hK K
  refine rg_det rfl rfl rfl (fun K hK => ?_)
  go_big_quiet_op
  refine hK _ ?_; clear hK K
  refine rg_nil (fun w' hw' hF => ?_)
  obtain ⟨zA, rfl⟩ := hw'
  simp only [List.drop_succ_cons, List.drop_zero]
  clear hF yS yW
  go_upto_region 12 with (fail)
  have S12 := S11.keep zA.h
  replace hR := (hR.keep zA.h).up
  replace hV := ext_base (Rd.keep hV zA.h)
  replace bv := bv.keep zA.h
  replace hWt := (hWt.keep zA.h).up
  replace hFo := (hFo.keep zA.h).up
  clear S11
  obtain ⟨s0, hs0, hsz0, hsz1, hsz2⟩ := info_parts sl_info
  obtain ⟨gWt, oWt, hgA, lW, qW⟩ := tabCell hWt (by decide)
  cases hgA
  obtain ⟨B0, k0, z0, t0⟩ := qW 0 _ rfl
  replace z0 : zA.w.cell? ⟨w9.heap.size, 0, none⟩ = some (.slice B0 2 k0) := z0
  have y0 := gw_cell lW z0
  have yS := gw_blk S12.bS
  have yW := gw_blk S12.bW
  clear qW
  refine wp_region_rg 14 [(7, Spec.rel (LitTab (intsE [54, 76]) (intsE [54, 76])) (LitF 2)), (9, Spec.rel (ExpA ([], 60)) (TupF 0 60))] (by kernel_rfl) (by kernel_rfl) (by kernel_rfl) ⟨fit_litTab, fit_exp, trivial⟩ ?_
  refine rg_det rfl rfl rfl (fun K hK => ?_)
  go_big_quiet_op
  refine hK _ ?_; clear hK K
  refine rg_det rfl rfl rfl (fun K hK => ?_)
  go_big_quiet_op
  refine hK _ ?_; clear hK K
  refine rg_det rfl rfl rfl (fun K hK => ?_)
  go_big_quiet_op
  refine hK _ ?_; clear hK K
  refine rg_det rfl rfl rfl (fun K hK => ?_)
  go_big_quiet_op
  refine hK _ ?_; clear hK K
  refine rg_det rfl rfl rfl (fun K hK => ?_)
  go_big_quiet_op
  refine hK _ ?_; clear hK K
  refine rg_det rfl rfl rfl (fun K hK => ?_)
  go_big_quiet_op
  refine hK _ ?_; clear hK K
  refine rg_det rfl rfl rfl (fun K hK => ?_)
  go_big_quiet_op
  refine hK _ ?_; clear hK K
  refine rg_rel rfl rfl (fun W1 hW1 hF => (stepAt_mono (fun v w' h => litTab h (ext_base (Rd.keep t0 (grw_below hW1))) (ext_base (Rd.keep t0 (grw_below hW1)))) (step_litF (parts := [(0, Operand.tmp 100), (1, Operand.tmp 103)]) (vs := [.slice B0 2 k0, .slice B0 2 k0]) Tryz.underlying37 hs0 hsz0 hsz1 rfl (by decide) (by decide) rfl rfl (by simp [Value.cells])))) ?_
  intro nh7 mh7 vh7 hnh7 hmh7 hdh7 hfh7 a' ha
  simp only [Act.put, List.setIfInBounds_toArray, List.set_cons_succ, List.set_cons_zero] at ha
  subst ha
  obtain rfl := hfh7
  refine rg_det rfl rfl rfl (fun K hK => ?_)
  go_big_quiet_op
  refine hK _ ?_; clear hK K
  refine rg_rel rfl rfl (fun W1 hW1 hF => step_callr en_attestor_mask_Explain ((gEx32 S12 [intsE [54, 76], intsE [54, 76]] r32 ([], 60) n32g2 (by decide) _ _ _ W1 (grw_below hW1) (pick_last hF (by kernel_rfl)).2.2.2)) rfl rfl) ?_
  intro nh9 mh9 vh9 hnh9 hmh9 hdh9 hfh9 a' ha
  simp only [Act.put, List.setIfInBounds_toArray, List.set_cons_succ, List.set_cons_zero] at ha
  subst ha
  obtain ⟨Ah9, caph9, rfl⟩ := hfh9
  refine rg_det rfl rfl rfl (fun K hK => ?_)
  go_big_quiet_op
  refine hK _ ?_; clear hK K
  refine rg_det rfl rfl rfl (fun K hK => ?_)
  go_big_quiet_op
  refine hK _ ?_; clear hK K
  refine rg_det rfl rfl rfl (fun K hK => ?_)
  go_big_quiet_op
  refine hK _ ?_; clear hK K
  refine rg_det rfl rfl rfl (fun K hK => ?_)
  go_big_quiet_op
  refine hK _ ?_; clear hK K
  refine rg_nil (fun w' hw' hF => ?_)
  obtain ⟨zB, rfl⟩ := hw'
  simp only [List.drop_succ_cons, List.drop_zero]
  clear hF yS yW y0
  go_upto_region 13 with (fail)
  have S13 := S12.keep zB.h
  replace hR := (hR.keep zB.h).up
  replace hV := ext_base (Rd.keep hV zB.h)
  replace bv := bv.keep zB.h
  replace hWt := (hWt.keep zB.h).up
  replace hFo := (hFo.keep zB.h).up
  replace t0 := ext_base (Rd.keep t0 zB.h)
  replace z0 := (zB.h.cell (p := ⟨w9.heap.size, 0, none⟩) lW).trans z0
  replace lW := Nat.lt_of_lt_of_le lW zB.h.size
  clear S12 hnh7 hmh7 hdh7 hnh9 hmh9 hdh9 hng4 hmg4 hdg4
  obtain ⟨j0, hj0, hjz0, hjz1, hjz2⟩ := info_parts i64_info
  have y0 := gw_cell lW z0
  have yS := gw_blk S13.bS
  have yW := gw_blk S13.bW
  refine wp_region_rg 13 [(4, Spec.rel (Lit 2 3 #[.int .i64 1, .int .i64 2, .int .i64 3]) (LitF 3)), (5, Spec.rel (ExtA (intsE [1, 2, 3])) (SlF 3)), (6, Spec.rel (LitTab (intsE [54, 76]) (intsE [1, 2, 3])) (LitF 2)), (8, Spec.rel (ExpA ([], 61)) (TupF 0 61))] (by kernel_rfl) (by kernel_rfl) (by kernel_rfl) ⟨fit_lit, fit_ext, fit_litTab, fit_exp, trivial⟩ ?_
  refine rg_det rfl rfl rfl (fun K hK => ?_)
  go_big_quiet_op
  refine hK _ ?_; clear hK K
  refine rg_det rfl rfl rfl (fun K hK => ?_)
  go_big_quiet_op
  refine hK _ ?_; clear hK K
  refine rg_det rfl rfl rfl (fun K hK => ?_)
  go_big_quiet_op
  refine hK _ ?_; clear hK K
  refine rg_det rfl rfl rfl (fun K hK => ?_)
  go_big_quiet_op
  refine hK _ ?_; clear hK K
  refine rg_rel rfl rfl (fun W1 hW1 hF => step_litF (parts := [(0, Operand.const (.int .i64 1)), (1, Operand.const (.int .i64 2)), (2, Operand.const (.int .i64 3))]) (vs := [.int .i64 1, .int .i64 2, .int .i64 3]) Tryz.underlying91 hj0 hjz0 hjz1 rfl (by decide) (by decide) rfl rfl (by simp [Value.cells])) ?_
  intro nk4 mk4 vk4 hnk4 hmk4 hdk4 hfk4 a' ha
  simp only [Act.put, List.setIfInBounds_toArray, List.set_cons_succ, List.set_cons_zero] at ha
  subst ha
  obtain rfl := hfk4
  refine rg_rel rfl rfl (fun W1 hW1 hF => step_callr en_attestor_attestorlaw32_ints (lInts [1, 2, 3] _ 0 W1.heap.size W1 (ints_of_blk (zs := [1, 2, 3]) (pick_last hF (by kernel_rfl)).2.2.2 rfl (by decide) (Nat.zero_le _) (pick_last hF (by kernel_rfl)).2.2.2.lt (by decide)) (by decide)) rfl rfl) ?_
  intro nk5 mk5 vk5 hnk5 hmk5 hdk5 hfk5 a' ha
  simp only [Act.put, List.setIfInBounds_toArray, List.set_cons_succ, List.set_cons_zero] at ha
  subst ha
  obtain ⟨Ak5, capk5, rfl⟩ := hfk5
  refine rg_rel rfl rfl (fun W1 hW1 hF => (stepAt_mono (fun v w' h => litTab h (ext_base (Rd.keep t0 (grw_below hW1))) (ext_base (pick_last hF (by kernel_rfl)).2)) (step_litF (parts := [(0, Operand.tmp 113), (1, Operand.tmp 115)]) (vs := [.slice B0 2 k0, .slice Ak5 3 capk5]) Tryz.underlying37 hs0 hsz0 hsz1 rfl (by decide) (by decide) rfl rfl (by simp [Value.cells])))) ?_
  intro nk6 mk6 vk6 hnk6 hmk6 hdk6 hfk6 a' ha
  simp only [Act.put, List.setIfInBounds_toArray, List.set_cons_succ, List.set_cons_zero] at ha
  subst ha
  obtain rfl := hfk6
  refine rg_det rfl rfl rfl (fun K hK => ?_)
  go_big_quiet_op
  refine hK _ ?_; clear hK K
  refine rg_rel rfl rfl (fun W1 hW1 hF => step_callr en_attestor_mask_Explain ((gEx32 S13 [intsE [54, 76], intsE [1, 2, 3]] r32 ([], 61) n32g3 (by decide) _ _ _ W1 (grw_below hW1) (pick_last hF (by kernel_rfl)).2.2.2)) rfl rfl) ?_
  intro nk8 mk8 vk8 hnk8 hmk8 hdk8 hfk8 a' ha
  simp only [Act.put, List.setIfInBounds_toArray, List.set_cons_succ, List.set_cons_zero] at ha
  subst ha
  obtain ⟨Ak8, capk8, rfl⟩ := hfk8
  refine rg_det rfl rfl rfl (fun K hK => ?_)
  go_big_quiet_op
  refine hK _ ?_; clear hK K
  refine rg_det rfl rfl rfl (fun K hK => ?_)
  go_big_quiet_op
  refine hK _ ?_; clear hK K
  refine rg_det rfl rfl rfl (fun K hK => ?_)
  go_big_quiet_op
  refine hK _ ?_; clear hK K
  refine rg_det rfl rfl rfl (fun K hK => ?_)
  go_big_quiet_op
  refine hK _ ?_; clear hK K
  refine rg_nil (fun w' hw' hF => ?_)
  obtain ⟨zC, rfl⟩ := hw'
  simp only [List.drop_succ_cons, List.drop_zero]
  clear hF yS yW y0
  go_upto_region 14 with (fail)
  have S14 := S13.keep zC.h
  replace hR := (hR.keep zC.h).up
  replace hV := ext_base (Rd.keep hV zC.h)
  replace bv := bv.keep zC.h
  replace hWt := (hWt.keep zC.h).up
  replace hFo := (hFo.keep zC.h).up
  clear S13 t0 z0 lW hnk4 hmk4 hdk4 hnk5 hmk5 hdk5 hnk6 hmk6 hdk6 hnk8 hmk8 hdk8
  obtain ⟨x0, hx0, xz0, xz1, xz2⟩ := info_parts sim_info
  have yW := gw_blk S14.bW
  refine wp_region_rg 7 [(2, Spec.rel (Lit 2 1 #[.int .i64 76]) (LitF 1)), (3, Spec.rel (ExtA (intsE [76])) (SlF 1)), (4, Spec.val (.agg #[.int .u64 (fv (eb (fz 160)).a), .int .u64 (fv (eb (fz 160)).b)])), (6, Spec.rel (New 57 #[.slice none 0 0, .int .i64 0, .slice none 0 0, .int .u64 0, .int .u64 0]) (NewF))] (by kernel_rfl) (by kernel_rfl) (by kernel_rfl) ⟨fit_lit, fit_ext, fit_new, trivial⟩ ?_
  refine rg_det rfl rfl rfl (fun K hK => ?_)
  go_big_quiet_op
  refine hK _ ?_; clear hK K
  refine rg_det rfl rfl rfl (fun K hK => ?_)
  go_big_quiet_op
  refine hK _ ?_; clear hK K
  refine rg_rel rfl rfl (fun W1 hW1 hF => step_litF (parts := [(0, Operand.const (.int .i64 76))]) (vs := [.int .i64 76]) Tryz.underlying91 hj0 hjz0 hjz1 rfl (by decide) (by decide) rfl rfl (by simp [Value.cells])) ?_
  intro nl2 ml2 vl2 hnl2 hml2 hdl2 hfl2 a' ha
  simp only [Act.put, List.setIfInBounds_toArray, List.set_cons_succ, List.set_cons_zero] at ha
  subst ha
  obtain rfl := hfl2
  refine rg_rel rfl rfl (fun W1 hW1 hF => step_callr en_attestor_attestorlaw32_ints (lInts [76] _ 0 W1.heap.size W1 (ints_of_blk (zs := [76]) (pick_last hF (by kernel_rfl)).2.2.2 rfl (by decide) (Nat.zero_le _) (pick_last hF (by kernel_rfl)).2.2.2.lt (by decide)) (by decide)) rfl rfl) ?_
  intro nl3 ml3 vl3 hnl3 hml3 hdl3 hfl3 a' ha
  simp only [Act.put, List.setIfInBounds_toArray, List.set_cons_succ, List.set_cons_zero] at ha
  subst ha
  obtain ⟨Al3, capl3, rfl⟩ := hfl3
  refine rg_val rfl rfl (fun W1 hW1 hF => step_callv en_attestor_attestorref02_FromInt (xFromInt 160 (by decide) (by decide) W1) rfl rfl) ?_
  intro a' ha
  simp only [Act.put, List.setIfInBounds_toArray, List.set_cons_succ, List.set_cons_zero] at ha
  subst ha
  refine rg_det rfl rfl rfl (fun K hK => ?_)
  go_big_quiet_op
  refine hK _ ?_; clear hK K
  refine rg_rel rfl rfl (fun W1 hW1 hF => step_new hx0 xz0 rfl) ?_
  intro nl6 ml6 vl6 hnl6 hml6 hdl6 hfl6 a' ha
  simp only [Act.put, List.setIfInBounds_toArray, List.set_cons_succ, List.set_cons_zero] at ha
  subst ha
  obtain rfl := hfl6
  refine rg_nil (fun w' hw' hF => ?_)
  obtain ⟨zD, rfl⟩ := hw'
  simp only [List.drop_succ_cons, List.drop_zero]
  obtain ⟨hml3', hx3⟩ := end_last (end_init hF)
  obtain ⟨hmx, hnx, hlx, bX⟩ := end_last hF
  have e1 := bX.cell
  have e2 := bX.frozen
  clear hF yW
  go_upto_region 15 with (fail)
  refine set5K (M := fun W => Code.wp _ _ _ _ W) bX fun X14 pX bX14 => ?_
  have hB14 := below_put zD.h pX hnl6
  replace bX : Blk X14 nl6 57 #[.slice A7 2 c7, .int .i64 1, .slice Al3 1 capl3, .int .u64 (fv (eb (fz 160)).a), .int .u64 (fv (eb (fz 160)).b)] := bX14
  have hX76 : ExtS 0 X14.heap.size X14 (.slice Al3 1 capl3) (intsE [76]) := by
    have := pX.rd hx3 (by have := hdl6 (nl3, ml3) (by simp); simp only at this; omega)
    exact ext_base this
  have S15 := S14.keep hB14
  replace hR := (hR.keep hB14).up
  replace hV := ext_base (Rd.keep hV hB14)
  replace bv := bv.keep hB14
  replace hWt := (hWt.keep hB14).up
  replace hFo := (hFo.keep hB14).up
  clear S14 e1 e2 bX14 pX hx3 hml3' hmx hlx hnl2 hml2 hdl2 hnl3 hml3 hdl3 hnl6 hml6 hdl6 hB14
  go_wp2_with fail
  refine (xFromInt 2 (by decide) (by decide) X14).mono ?_
  rintro e w15 ⟨he, hb15⟩
  unfold ev at he
  subst he
  go_wp2_with fail
  refine (xInv (eb (fz 2)) (by decide +kernel) w15).mono ?_
  rintro e w16 ⟨he, hb16⟩
  rw [hlf_fz] at he
  subst he
  unfold ev
  go_upto_region 16 with (fail)
  refine wp_stk1 fun X15 hX15 hz15 bH => ?_
  have hT15 := hb15.trans ((hb16.trans (hX15.mono hb16.size)).mono hb15.size)
  have S16 := S15.keep hT15
  replace hR := (hR.keep hT15).up
  replace hV := ext_base (Rd.keep hV hT15)
  replace bv := bv.keep hT15
  replace hWt := (hWt.keep hT15).up
  replace hFo := (hFo.keep hT15).up
  replace bX := bX.keep hT15
  replace hX76 := ext_base (Rd.keep hX76 hT15)
  clear S15 hT15 hX15 hz15 hb15 hb16
  have e1 := bH.cell
  go_upto_region 17 with (fail)
  refine wp_stk2 fun X16 hX16 hz16 bHs bY => ?_
  have S17 := S16.keep hX16
  replace hR := (hR.keep hX16).up
  replace hV := ext_base (Rd.keep hV hX16)
  replace bv := bv.keep hX16
  replace hWt := (hWt.keep hX16).up
  replace hFo := (hFo.keep hX16).up
  replace bX := bX.keep hX16
  replace hX76 := ext_base (Rd.keep hX76 hX16)
  have hHs : ExtS 0 X16.heap.size X16 (.slice (some ⟨X15.heap.size, 0, none⟩) 1 1) [hlf] := exts_blk (L := [hlf]) bHs rfl (by decide) (Nat.zero_le _) bHs.lt
  have h0 := Below.refl X16.heap.size X16
  clear S16 hX16 hz16 e1 bHs bH
  clear h0
  obtain ⟨e12, h12⟩ : ∃ e, eb (fz 12) = e := ⟨_, rfl⟩
  obtain ⟨e14, h14⟩ : ∃ e, eb (fz 14) = e := ⟨_, rfl⟩
  obtain ⟨e160, h160⟩ : ∃ e, eb (fz 160) = e := ⟨_, rfl⟩
  have F12 := Lib.hid (show ∀ W1, Calls Tryz.prog 38 #[.int .i64 12] W1 (Ret (ev e12) W1) from fun W1 => h12 ▸ xFromInt 12 (by decide) (by decide) W1)
  have F14 := Lib.hid (show ∀ W1, Calls Tryz.prog 38 #[.int .i64 14] W1 (Ret (ev e14) W1) from fun W1 => h14 ▸ xFromInt 14 (by decide) (by decide) W1)
  have F160 := Lib.hid (show ∀ W1, Calls Tryz.prog 38 #[.int .i64 160] W1 (Ret (ev e160) W1) from fun W1 => h160 ▸ xFromInt 160 (by decide) (by decide) W1)
  have T12 := Lib.hid (fun W1 (h : Below X16.heap.size X16 W1) => h12 ▸ gTot32 S17 W1 h)
  have E14 := Lib.hid (fun W1 (h : Below X16.heap.size X16 W1) => h14 ▸ gEv32 S17 W1 h)
  have K14 := Lib.hid (fun W1 (h : Below X16.heap.size X16 W1) => h14 ▸ gEvK S17 hFo W1 h)
  have SR := Lib.hid (fun W1 (h : Below X16.heap.size X16 W1) => rSameR W32 _ _ _ _ _ _ W1 (hR.keep h) (hWt.keep h))
  have SV := Lib.hid (fun W1 (h : Below X16.heap.size X16 W1) v2 lo2 hi2 (h2 : ExtS lo2 hi2 W1 v2 (intsE [20])) => xSame (intsE [20]) _ v2 _ _ lo2 hi2 W1 (Rd.keep hV h) h2)
  have SW := Lib.hid (fun W1 (h : Below X16.heap.size X16 W1) v2 lo2 hi2 (h2 : TabS lo2 hi2 W1 v2 W32) => rSameR W32 v2 _ lo2 hi2 _ _ W1 h2 (hWt.keep h))
  have M1 := Lib.hid (fun W1 (h : Below X16.heap.size X16 W1) => gSimT (w := W1) n32m rfl rfl (by decide) (Rd.keep S17.hC h) (Rd.keep hX76 h))
  have M2 := Lib.hid (fun W1 (h : Below X16.heap.size X16 W1) => gSimT (w := W1) (AL := none) (capL := 0) (lo2 := 0) (hi2 := 0) n32o rfl rfl (by decide) (Rd.keep hHs h) (rd_nil _ _ _ _ _ _))
  have hw17 := S17.hw
  have yW := gw_blk S17.bW
  rw [h160] at bv
  have yv := gw_blk bv
  have yX := gw_blk bX
  have yY := gw_blk bY
  clear S17 hR hWt hV hFo hX76 hHs bv bX bY h12 h14 h160
  refine wp_region_rg 88 [(1, Spec.val (.agg #[.int .u64 (fv (e12).a), .int .u64 (fv (e12).b)])), (2, Spec.val (.agg #[.int .u64 (fv (e12).a), .int .u64 (fv (e12).b)])), (5, Spec.val (.agg #[.int .u64 0, .int .u64 0])), (13, Spec.val (.agg #[.int .u64 (fv (e14).a), .int .u64 (fv (e14).b)])), (14, Spec.val (.agg #[.int .u64 (fv (e14).a), .int .u64 (fv (e14).b)])), (20, Spec.val (.bool true)), (24, Spec.rel (Lit 2 1 #[.int .i64 20]) (LitF 1)), (25, Spec.rel (ExtA (intsE [20])) (SlF 1)), (26, Spec.val (.bool true)), (34, Spec.val (.agg #[.int .u64 (fv (e160).a), .int .u64 (fv (e160).b)])), (54, Spec.val (.agg #[.int .u64 (fv (e14).a), .int .u64 (fv (e14).b)])), (55, Spec.val (.agg #[.int .u64 (fv (e14).a), .int .u64 (fv (e14).b)])), (75, Spec.val (.agg #[.int .u64 (fv (eb (fz 130)).a), .int .u64 (fv (eb (fz 130)).b)])), (77, Spec.rel (TabF W32) (SlF 2)), (79, Spec.val (.bool true)), (82, Spec.val (.agg #[.int .u64 (fv ((1 : E)).a), .int .u64 (fv ((1 : E)).b)])), (84, Spec.rel (TabF []) (SlF 0))] (by kernel_rfl) (by kernel_rfl) (by kernel_rfl) ⟨fit_lit, fit_ext, fit_tabF, fit_tabF, trivial⟩ ?_
  refine rg_det rfl rfl rfl (fun K hK => ?_)
  go_big_quiet_op
  refine hK _ ?_; clear hK K
  refine rg_val rfl rfl (fun W1 hW1 hF => step_callv en_attestor_mask_Total (T12.out W1 (grw_below hW1)) rfl rfl) ?_
  intro a' ha
  simp only [Act.put, List.setIfInBounds_toArray, List.set_cons_succ, List.set_cons_zero] at ha
  subst ha
  refine rg_val rfl rfl (fun W1 hW1 hF => step_callv en_attestor_attestorref02_FromInt (F12.out W1) rfl rfl) ?_
  intro a' ha
  simp only [Act.put, List.setIfInBounds_toArray, List.set_cons_succ, List.set_cons_zero] at ha
  subst ha
  refine rg_det rfl rfl rfl (fun K hK => ?_)
  go_big_quiet_op
  refine hK _ ?_; clear hK K
  refine rg_det rfl rfl rfl (fun K hK => ?_)
  go_big_quiet_op
  refine hK _ ?_; clear hK K
  refine rg_val rfl rfl (fun W1 hW1 hF => step_callv en_attestor_mask_Total (gTot0 W1) rfl rfl) ?_
  intro a' ha
  simp only [Act.put, List.setIfInBounds_toArray, List.set_cons_succ, List.set_cons_zero] at ha
  subst ha
  refine rg_det rfl rfl rfl (fun K hK => ?_)
  go_big_quiet_op
  refine hK _ ?_; clear hK K
  refine rg_det rfl rfl rfl (fun K hK => ?_)
  go_big_quiet_op
  refine hK _ ?_; clear hK K
  refine rg_det rfl rfl rfl (fun K hK => ?_)
  go_big_quiet_op
  refine hK _ ?_; clear hK K
  refine rg_det rfl rfl rfl (fun K hK => ?_)
  go_big_quiet_op
  refine hK _ ?_; clear hK K
  refine rg_det rfl rfl rfl (fun K hK => ?_)
  go_big_quiet_op
  refine hK _ ?_; clear hK K
  refine rg_det rfl rfl rfl (fun K hK => ?_)
  go_big_quiet_op
  refine hK _ ?_; clear hK K
  refine rg_det rfl rfl rfl (fun K hK => ?_)
  go_big_quiet_op
  refine hK _ ?_; clear hK K
  refine rg_val rfl rfl (fun W1 hW1 hF => step_callv en_attestor_mask_Eval (E14.out W1 (grw_below hW1)) rfl rfl) ?_
  intro a' ha
  simp only [Act.put, List.setIfInBounds_toArray, List.set_cons_succ, List.set_cons_zero] at ha
  subst ha
  refine rg_val rfl rfl (fun W1 hW1 hF => step_callv en_attestor_attestorref02_FromInt (F14.out W1) rfl rfl) ?_
  intro a' ha
  simp only [Act.put, List.setIfInBounds_toArray, List.set_cons_succ, List.set_cons_zero] at ha
  subst ha
  refine rg_det rfl rfl rfl (fun K hK => ?_)
  go_big_quiet_op
  refine hK _ ?_; clear hK K
  refine rg_det rfl rfl rfl (fun K hK => ?_)
  go_big_quiet_op
  refine hK _ ?_; clear hK K
  refine rg_det rfl rfl rfl (fun K hK => ?_)
  go_big_quiet_op
  refine hK _ ?_; clear hK K
  refine rg_det rfl rfl rfl (fun K hK => ?_)
  go_big_quiet_op
  refine hK _ ?_; clear hK K
  refine rg_det rfl rfl rfl (fun K hK => ?_)
  go_big_quiet_op
  refine hK _ ?_; clear hK K
  refine rg_val rfl rfl (fun W1 hW1 hF => step_callv en_attestor_attestorref06_SameRounds (SR.out W1 (grw_below hW1)) rfl rfl) ?_
  intro a' ha
  simp only [Act.put, List.setIfInBounds_toArray, List.set_cons_succ, List.set_cons_zero] at ha
  subst ha
  refine rg_det rfl rfl rfl (fun K hK => ?_)
  go_big_quiet_op
  refine hK _ ?_; clear hK K
  refine rg_det rfl rfl rfl (fun K hK => ?_)
  go_big_quiet_op
  refine hK _ ?_; clear hK K
  refine rg_det rfl rfl rfl (fun K hK => ?_)
  go_big_quiet_op
  refine hK _ ?_; clear hK K
  refine rg_rel rfl rfl (fun W1 hW1 hF => step_litF (parts := [(0, Operand.const (.int .i64 20))]) (vs := [.int .i64 20]) Tryz.underlying91 hj0 hjz0 hjz1 rfl (by decide) (by decide) rfl rfl (by simp [Value.cells])) ?_
  intro nq24 mq24 vq24 hnq24 hmq24 hdq24 hfq24 a' ha
  simp only [Act.put, List.setIfInBounds_toArray, List.set_cons_succ, List.set_cons_zero] at ha
  subst ha
  obtain rfl := hfq24
  refine rg_rel rfl rfl (fun W1 hW1 hF => step_callr en_attestor_attestorlaw32_ints (lInts [20] _ 0 W1.heap.size W1 (ints_of_blk (zs := [20]) (pick_last hF (by kernel_rfl)).2.2.2 rfl (by decide) (Nat.zero_le _) (pick_last hF (by kernel_rfl)).2.2.2.lt (by decide)) (by decide)) rfl rfl) ?_
  intro nq25 mq25 vq25 hnq25 hmq25 hdq25 hfq25 a' ha
  simp only [Act.put, List.setIfInBounds_toArray, List.set_cons_succ, List.set_cons_zero] at ha
  subst ha
  obtain ⟨Aq25, capq25, rfl⟩ := hfq25
  refine rg_val rfl rfl (fun W1 hW1 hF => step_callv en_attestor_attestorref02_Same (SV.out W1 (grw_below hW1) _ _ _ (pick_last hF (by kernel_rfl)).2) rfl rfl) ?_
  intro a' ha
  simp only [Act.put, List.setIfInBounds_toArray, List.set_cons_succ, List.set_cons_zero] at ha
  subst ha
  refine rg_det rfl rfl rfl (fun K hK => ?_)
  go_big_quiet_op
  refine hK _ ?_; clear hK K
  refine rg_det rfl rfl rfl (fun K hK => ?_)
  go_big_quiet_op
  refine hK _ ?_; clear hK K
  refine rg_det rfl rfl rfl (fun K hK => ?_)
  go_big_quiet_op
  refine hK _ ?_; clear hK K
  refine rg_det rfl rfl rfl (fun K hK => ?_)
  go_big_quiet_op
  refine hK _ ?_; clear hK K
  refine rg_det rfl rfl rfl (fun K hK => ?_)
  go_big_quiet_op
  refine hK _ ?_; clear hK K
  refine rg_det rfl rfl rfl (fun K hK => ?_)
  go_big_quiet_op
  refine hK _ ?_; clear hK K
  refine rg_det rfl rfl rfl (fun K hK => ?_)
  go_big_quiet_op
  refine hK _ ?_; clear hK K
  refine rg_val rfl rfl (fun W1 hW1 hF => step_callv en_attestor_attestorref02_FromInt (F160.out W1) rfl rfl) ?_
  intro a' ha
  simp only [Act.put, List.setIfInBounds_toArray, List.set_cons_succ, List.set_cons_zero] at ha
  subst ha
  refine rg_det rfl rfl rfl (fun K hK => ?_)
  go_big_quiet_op
  refine hK _ ?_; clear hK K
  refine rg_det rfl rfl rfl (fun K hK => ?_)
  go_big_quiet_op
  refine hK _ ?_; clear hK K
  refine rg_det rfl rfl rfl (fun K hK => ?_)
  go_big_quiet_op
  refine hK _ ?_; clear hK K
  refine rg_det rfl rfl rfl (fun K hK => ?_)
  go_big_quiet_op
  refine hK _ ?_; clear hK K
  refine rg_det rfl rfl rfl (fun K hK => ?_)
  go_big_quiet_op
  refine hK _ ?_; clear hK K
  refine rg_det rfl rfl rfl (fun K hK => ?_)
  go_big_quiet_op
  refine hK _ ?_; clear hK K
  refine rg_det rfl rfl rfl (fun K hK => ?_)
  go_big_quiet_op
  refine hK _ ?_; clear hK K
  refine rg_det rfl rfl rfl (fun K hK => ?_)
  go_big_quiet_op
  refine hK _ ?_; clear hK K
  refine rg_det rfl rfl rfl (fun K hK => ?_)
  go_big_quiet_op
  refine hK _ ?_; clear hK K
  refine rg_det rfl rfl rfl (fun K hK => ?_)
  go_big_quiet_op
  refine hK _ ?_; clear hK K
  refine rg_det rfl rfl rfl (fun K hK => ?_)
  go_big_quiet_op
  refine hK _ ?_; clear hK K
  refine rg_det rfl rfl rfl (fun K hK => ?_)
  go_big_quiet_op
  refine hK _ ?_; clear hK K
  refine rg_det rfl rfl rfl (fun K hK => ?_)
  go_big_quiet_op
  refine hK _ ?_; clear hK K
  refine rg_det rfl rfl rfl (fun K hK => ?_)
  go_big_quiet_op
  refine hK _ ?_; clear hK K
  refine rg_det rfl rfl rfl (fun K hK => ?_)
  go_big_quiet_op
  refine hK _ ?_; clear hK K
  refine rg_det rfl rfl rfl (fun K hK => ?_)
  go_big_quiet_op
  refine hK _ ?_; clear hK K
  refine rg_det rfl rfl rfl (fun K hK => ?_)
  go_big_quiet_op
  refine hK _ ?_; clear hK K
  refine rg_det rfl rfl rfl (fun K hK => ?_)
  go_big_quiet_op
  refine hK _ ?_; clear hK K
  refine rg_det rfl rfl rfl (fun K hK => ?_)
  go_big_quiet_op
  refine hK _ ?_; clear hK K
  refine rg_val rfl rfl (fun W1 hW1 hF => step_callv en_attestor_mask_Eval (K14.out W1 (grw_below hW1)) rfl rfl) ?_
  intro a' ha
  simp only [Act.put, List.setIfInBounds_toArray, List.set_cons_succ, List.set_cons_zero] at ha
  subst ha
  refine rg_val rfl rfl (fun W1 hW1 hF => step_callv en_attestor_attestorref02_FromInt (F14.out W1) rfl rfl) ?_
  intro a' ha
  simp only [Act.put, List.setIfInBounds_toArray, List.set_cons_succ, List.set_cons_zero] at ha
  subst ha
  refine rg_det rfl rfl rfl (fun K hK => ?_)
  go_big_quiet_op
  refine hK _ ?_; clear hK K
  refine rg_det rfl rfl rfl (fun K hK => ?_)
  go_big_quiet_op
  refine hK _ ?_; clear hK K
  refine rg_det rfl rfl rfl (fun K hK => ?_)
  go_big_quiet_op
  refine hK _ ?_; clear hK K
  refine rg_det rfl rfl rfl (fun K hK => ?_)
  go_big_quiet_op
  refine hK _ ?_; clear hK K
  refine rg_det rfl rfl rfl (fun K hK => ?_)
  go_big_quiet_op
  refine hK _ ?_; clear hK K
  refine rg_det rfl rfl rfl (fun K hK => ?_)
  go_big_quiet_op
  refine hK _ ?_; clear hK K
  refine rg_det rfl rfl rfl (fun K hK => ?_)
  go_big_quiet_op
  refine hK _ ?_; clear hK K
  refine rg_det rfl rfl rfl (fun K hK => ?_)
  go_big_quiet_op
  refine hK _ ?_; clear hK K
  refine rg_det rfl rfl rfl (fun K hK => ?_)
  go_big_quiet_op
  refine hK _ ?_; clear hK K
  refine rg_det rfl rfl rfl (fun K hK => ?_)
  go_big_quiet_op
  refine hK _ ?_; clear hK K
  refine rg_det rfl rfl rfl (fun K hK => ?_)
  go_big_quiet_op
  refine hK _ ?_; clear hK K
  refine rg_det rfl rfl rfl (fun K hK => ?_)
  go_big_quiet_op
  refine hK _ ?_; clear hK K
  refine rg_det rfl rfl rfl (fun K hK => ?_)
  go_big_quiet_op
  refine hK _ ?_; clear hK K
  refine rg_det rfl rfl rfl (fun K hK => ?_)
  go_big_quiet_op
  refine hK _ ?_; clear hK K
  refine rg_det rfl rfl rfl (fun K hK => ?_)
  go_big_quiet_op
  refine hK _ ?_; clear hK K
  refine rg_det rfl rfl rfl (fun K hK => ?_)
  go_big_quiet_op
  refine hK _ ?_; clear hK K
  refine rg_det rfl rfl rfl (fun K hK => ?_)
  go_big_quiet_op
  refine hK _ ?_; clear hK K
  refine rg_det rfl rfl rfl (fun K hK => ?_)
  go_big_quiet_op
  refine hK _ ?_; clear hK K
  refine rg_det rfl rfl rfl (fun K hK => ?_)
  go_big_quiet_op
  refine hK _ ?_; clear hK K
  refine rg_val rfl rfl (fun W1 hW1 hF => step_callv en_attestor_attestorref02_FromInt (xFromInt 130 (by decide) (by decide) W1) rfl rfl) ?_
  intro a' ha
  simp only [Act.put, List.setIfInBounds_toArray, List.set_cons_succ, List.set_cons_zero] at ha
  subst ha
  refine rg_det rfl rfl rfl (fun K hK => ?_)
  go_big_quiet_op
  refine hK _ ?_; clear hK K
  refine rg_rel rfl rfl (fun W1 hW1 hF => step_callr en_attestor_mask_Simulate (M1.out W1 (grw_below hW1)) rfl rfl) ?_
  intro nq77 mq77 vq77 hnq77 hmq77 hdq77 hfq77 a' ha
  simp only [Act.put, List.setIfInBounds_toArray, List.set_cons_succ, List.set_cons_zero] at ha
  subst ha
  obtain ⟨Aq77, capq77, rfl⟩ := hfq77
  refine rg_det rfl rfl rfl (fun K hK => ?_)
  go_big_quiet_op
  refine hK _ ?_; clear hK K
  refine rg_val rfl rfl (fun W1 hW1 hF => step_callv en_attestor_attestorref06_SameRounds (SW.out W1 (grw_below hW1) _ _ _ (pick_last hF (by kernel_rfl)).2) rfl rfl) ?_
  intro a' ha
  simp only [Act.put, List.setIfInBounds_toArray, List.set_cons_succ, List.set_cons_zero] at ha
  subst ha
  refine rg_det rfl rfl rfl (fun K hK => ?_)
  go_big_quiet_op
  refine hK _ ?_; clear hK K
  refine rg_det rfl rfl rfl (fun K hK => ?_)
  go_big_quiet_op
  refine hK _ ?_; clear hK K
  refine rg_val rfl rfl (fun W1 hW1 hF => step_callv en_attestor_attestorref02_One (xOne W1) rfl rfl) ?_
  intro a' ha
  simp only [Act.put, List.setIfInBounds_toArray, List.set_cons_succ, List.set_cons_zero] at ha
  subst ha
  refine rg_det rfl rfl rfl (fun K hK => ?_)
  go_big_quiet_op
  refine hK _ ?_; clear hK K
  refine rg_rel rfl rfl (fun W1 hW1 hF => step_callr en_attestor_mask_Simulate (M2.out W1 (grw_below hW1)) rfl rfl) ?_
  intro nq84 mq84 vq84 hnq84 hmq84 hdq84 hfq84 a' ha
  simp only [Act.put, List.setIfInBounds_toArray, List.set_cons_succ, List.set_cons_zero] at ha
  subst ha
  obtain ⟨Aq84, capq84, rfl⟩ := hfq84
  refine rg_det rfl rfl rfl (fun K hK => ?_)
  go_big_quiet_op
  refine hK _ ?_; clear hK K
  refine rg_det rfl rfl rfl (fun K hK => ?_)
  go_big_quiet_op
  refine hK _ ?_; clear hK K
  refine rg_det rfl rfl rfl (fun K hK => ?_)
  go_big_quiet_op
  refine hK _ ?_; clear hK K
  refine rg_nil (fun w' hw' hF => ?_)
  obtain ⟨z9, rfl⟩ := hw'
  simp only [List.append_eq, List.cons_append, List.nil_append, List.drop_succ_cons, List.drop_zero]
  have hBz := hw17.trans (z9.h.mono hw17.size)
  clear hF
  go_wp2_with fail
  go_ret
  exact ⟨rfl, hBz⟩
end Go.Proofs.YtnddfeidggcplaaGreat
namespace Go.Proofs.YtnddfeidggcplaaGreat
open Go.RowKit

theorem Q32S.keep {hi : Nat} {w X : World} {q : Q32} {A : Nat → Option Addr} {cc : Nat → Nat} {AL : Option Addr} {cL : Nat} {vM vC : Value} (h : Q32S hi w q A cc AL cL vM vC) (hb : Below w.heap.size w X) (hh : hi ≤ X.heap.size) : Q32S X.heap.size X q A cc AL cL vM vC :=
  ⟨fun k hk => ⟨((h.T k hk).1.keep hb).wide (Nat.le_refl _) hh, (h.T k hk).2⟩, ⟨(Rd.keep h.L.1 hb).wide (Nat.le_refl _) hh, h.L.2⟩, h.N, by
    obtain ⟨us, h1, h2, h3⟩ := h.M.keep hb
    exact ⟨us, h1, h2.wide (Nat.le_refl _) hh, fun k u t hu ht => ⟨(h3 k u t hu ht).1.wide (Nat.le_refl _) hh, (h3 k u t hu ht).2⟩⟩, ⟨(h.C.1.keep hb).wide (Nat.le_refl _) hh, h.C.2⟩, h.r1, h.r2⟩
theorem Q32.co_len (q : Q32) : q.co.length = q.n := madeAll_length _ _
theorem Q32.m_row (q : Q32) : ∀ g ∈ q.m, g.length = degE q.ps + 1 := by
  intro g hg
  obtain ⟨k, hk, rfl⟩ := List.mem_map.1 hg
  exact madeAll_length _ _
structure Z32 (w : World) (q : Q32) (gS gW : Nat) (AT AP AM AC : Option Addr) (cT cP cM cC : Nat) (X : World) : Prop where
  hS : SumS 0 X.heap.size X (.slice AT 3 cT) (.slice AP q.ps.length cP) q.tabs q.ps
  hM : TabS 0 X.heap.size X (.slice AM q.n cM) q.m
  hC : ExtS 0 X.heap.size X (.slice AC q.n cC) q.co
  bS : Blk X gS 36 #[.slice AT 3 cT, .slice AP q.ps.length cP]
  bW : Blk X gW 39 #[.int .u64 (fv q.rho.a), .int .u64 (fv q.rho.b), .slice AC q.n cC]
  hw : Below w.heap.size w X
section
variable {w : World} {q : Q32} {gS gW : Nat} {AT AP AM AC : Option Addr} {cT cP cM cC : Nat} {X Y : World}
theorem Z32.keep (h : Z32 w q gS gW AT AP AM AC cT cP cM cC X) (hb : Below X.heap.size X Y) : Z32 w q gS gW AT AP AM AC cT cP cM cC Y :=
  ⟨⟨(h.hS.ht.keep hb).base, (h.hS.hp.keep hb).base, h.hS.ix, h.hS.few, h.hS.short⟩, (h.hM.keep hb).base, ext_base (Rd.keep h.hC hb), h.bS.keep hb, h.bW.keep hb, h.hw.trans (hb.mono h.hw.size)⟩
theorem Z32.prove (h : Z32 w q gS gW AT AP AM AC cT cP cM cC X) (hb : Below X.heap.size X Y) : Calls Tryz.prog 14 #[.agg #[.slice AT 3 cT, .slice AP q.ps.length cP], .slice AM q.n cM, .agg #[.int .u64 (fv q.rho.a), .int .u64 (fv q.rho.b), .slice AC q.n cC]] Y (PrvM Y (prvM (prvR q.tabs q.ps q.co) q.m q.rho q.co) (prvV q.tabs q.co) · ·) := by
  have k := h.keep hb
  have := gProveM q.tabs q.ps q.m q.rho q.co q.n q.co_len (Nat.le_trans q.n_le (by decide)) q.all (by rw [q.tabs_len]; decide) (by rw [q.tabs_len]; decide) q.m_len q.m_row (Nat.le_trans q.deg (by decide)) AC cC (.slice AT 3 cT) (.slice AP q.ps.length cP) (.slice AM q.n cM) _ _ _ _ 0 Y.heap.size Y k.hS k.hM (by rw [q.co_len]; exact k.hC)
  rw [q.co_len] at this
  exact this
theorem Z32.plain (h : Z32 w q gS gW AT AP AM AC cT cP cM cC X) (hb : Below X.heap.size X Y) : Calls Tryz.prog 36 #[.agg #[.slice AT 3 cT, .slice AP q.ps.length cP], .slice AC q.n cC] Y (PrvR Y (prvR q.tabs q.ps q.co) (prvV q.tabs q.co) · ·) := by
  have k := h.keep hb
  exact gProve q.tabs q.ps q.co q.n q.co_len (Nat.le_trans q.n_le (by decide)) q.all (by rw [q.tabs_len]; decide) (by rw [q.tabs_len]; decide) (.slice AT 3 cT) (.slice AP q.ps.length cP) (.slice AC q.n cC) _ _ _ _ Y k.hS k.hC
theorem Z32.total (h : Z32 w q gS gW AT AP AM AC cT cP cM cC X) (hb : Below X.heap.size X Y) : Calls Tryz.prog 46 #[.agg #[.slice AT 3 cT, .slice AP q.ps.length cP]] Y (Ret (ev (totE q.tabs q.ps)) Y) :=
  gTotal q.tabs (2 ^ q.n) (.slice AT 3 cT) (.slice AP q.ps.length cP) q.ps _ _ Y (h.keep hb).hS (by rw [q.tabs_len]; decide) q.all (Nat.le_trans (Nat.pow_le_pow_right (by decide) q.n_le) (by decide))
theorem Z32.degree (h : Z32 w q gS gW AT AP AM AC cT cP cM cC X) (hb : Below X.heap.size X Y) : Calls Tryz.prog 43 #[.agg #[.slice AT 3 cT, .slice AP q.ps.length cP]] Y (Ret (.int .i64 (degE q.ps : Nat)) Y) :=
  gDegree (.slice AT 3 cT) (.slice AP q.ps.length cP) q.ps _ _ Y (h.keep hb).hS.hp h.hS.short
theorem Z32.totM (h : Z32 w q gS gW AT AP AM AC cT cP cM cC X) (hb : Below X.heap.size X Y) : Calls Tryz.prog 20 #[.slice AM q.n cM] Y (Ret (ev (Go.Proofs.YtnddfeidggcplaaGreat.totM q.m)) Y) :=
  gTotM q.m (by rw [q.m_len]; exact Nat.le_trans q.n_le (by decide)) (fun g hg => by rw [q.m_row g hg]; have := degE_pos q.ps; omega) (.slice AM q.n cM) _ _ Y (h.keep hb).hM
theorem Z32.evM (h : Z32 w q gS gW AT AP AM AC cT cP cM cC X) (hb : Below X.heap.size X Y) : Calls Tryz.prog 22 #[.slice AM q.n cM, .slice AC q.n cC] Y (Ret (ev (Go.Proofs.YtnddfeidggcplaaGreat.evM q.m q.co)) Y) :=
  gEvM q.m q.co (by rw [q.m_len, q.co_len]; exact Nat.le_refl _) (by rw [q.m_len]; exact Nat.le_trans q.n_le (by decide)) (fun g hg => by rw [q.m_row g hg]; have := q.deg; omega) (.slice AM q.n cM) (.slice AC q.n cC) _ _ _ _ Y (h.keep hb).hM (h.keep hb).hC
end
end Go.Proofs.YtnddfeidggcplaaGreat
