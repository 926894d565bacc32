/-
  Plain mathematics, no program: sums of products of tables, their round polynomials, the sum-check protocol.
  Plain mathematics, no program: the polynomial through values at 0, 1, .. , as the program and as the reference reckon it.
  The inverses: of a field element by Euclid's algorithm, and of an element of the extension, by contract.
  The iterator over weighted gates; the functions that yield the two iterators.
  A range over an iterator whose rounds all go on: the law of the kit, cut to what the program's loops need; the loop variables lie in blocks of their own.
  A block that is written, and what stays: stores of whole values, in the walk's steps.
  The table of weights: what it is, and how it is made coordinate by coordinate.
  The table of weights: the walk.
  The sums of the wiring polynomials: a gate added.
  Worlds that have grown but for one row; append onto a slice of one's own, with what its new row is not; an empty slice literal in a region.
-/
import Derived.Test.YtficeebbbkmhcaaGreatDoorRgL
import Derived.Test.YtficeebbbkmhcaaGreatDoorQy
import Derived.WalkMore
import Derived.Deep.Upon
import Derived.Deep.AppendSrc
namespace Go.Proofs.YtficeebbbkmhcaaGreatDoor

structure Trm where
  c : E
  t : List Nat
def trmK (val : Nat → E) (p : Trm) (j : Nat) : E := (p.t.take j).foldl (fun v k => v * val k) p.c
def trmE (val : Nat → E) (p : Trm) : E := p.t.foldl (fun v k => v * val k) p.c
theorem trmK_zero (val : Nat → E) (p : Trm) : trmK val p 0 = p.c := rfl
theorem trmK_succ (val : Nat → E) (p : Trm) (j k : Nat) (h : p.t[j]? = some k) : trmK val p (j + 1) = trmK val p j * val k := by
  unfold trmK; rw [List.take_add_one, h, List.foldl_append]; rfl
theorem trmK_all (val : Nat → E) (p : Trm) : trmK val p p.t.length = trmE val p := by unfold trmK trmE; rw [List.take_length]
def finK (val : Nat → E) (ps : List Trm) (j : Nat) : E := esum ((ps.take j).map (trmE val))
def finE (val : Nat → E) (ps : List Trm) : E := esum (ps.map (trmE val))
theorem esum_nil : esum [] = 0 := rfl
theorem esum_cons (x : E) (l : List E) : esum (x :: l) = x + esum l := rfl
theorem esum_snoc1 (l : List E) (x : E) : esum (l ++ [x]) = esum l + x := by rw [esum_append, esum_cons, esum_nil, E.add_zero]
theorem finK_succ (val : Nat → E) (ps : List Trm) (j : Nat) (p : Trm) (h : ps[j]? = some p) : finK val ps (j + 1) = finK val ps j + trmE val p := by
  unfold finK; rw [List.take_add_one, h, List.map_append]; exact esum_snoc1 _ _
theorem finK_all (val : Nat → E) (ps : List Trm) : finK val ps ps.length = finE val ps := by unfold finK finE; rw [List.take_length]
theorem finE_congr (f g : Nat → E) (ps : List Trm) (n : Nat) (hp : ∀ p ∈ ps, ∀ k ∈ p.t, k < n) (h : ∀ k, k < n → f k = g k) : finE f ps = finE g ps := by
  unfold finE
  congr 1
  apply List.map_congr_left
  intro p hpm
  unfold trmE
  have key : ∀ (l : List Nat) (c : E), (∀ k ∈ l, k < n) → l.foldl (fun v k => v * f k) c = l.foldl (fun v k => v * g k) c := by
    intro l
    induction l with
    | nil => intros; rfl
    | cons k l ih => intro c hk; rw [List.foldl_cons, List.foldl_cons, h k (hk k (List.mem_cons_self ..))]; exact ih _ fun j hj => hk j (List.mem_cons_of_mem _ hj)
  exact key _ _ (hp p hpm)
def valL (l : List E) (k : Nat) : E := l.getD k 0
def valT (tabs : List (List E)) (i k : Nat) : E := (tabs.getD k []).getD i 0
def totK (tabs : List (List E)) (ps : List Trm) (j : Nat) : E := esum ((List.range j).map fun i => finE (valT tabs i) ps)
def lenT (tabs : List (List E)) : Nat := (tabs.getD 0 []).length
def totE (tabs : List (List E)) (ps : List Trm) : E := totK tabs ps (lenT tabs)
theorem esum_range (f : Nat → E) (n : Nat) : esum ((List.range (n + 1)).map f) = esum ((List.range n).map f) + f n := by
  rw [List.range_succ, List.map_append]; exact esum_snoc1 _ _
theorem totK_succ (tabs : List (List E)) (ps : List Trm) (j : Nat) : totK tabs ps (j + 1) = totK tabs ps j + finE (valT tabs j) ps := esum_range _ j
def degK (ps : List Trm) (j : Nat) : Nat := (ps.take j).foldl (fun d p => max d p.t.length) 1
def degE (ps : List Trm) : Nat := ps.foldl (fun d p => max d p.t.length) 1
theorem degK_succ (ps : List Trm) (j : Nat) (p : Trm) (h : ps[j]? = some p) : degK ps (j + 1) = max (degK ps j) p.t.length := by
  unfold degK; rw [List.take_add_one, h, List.foldl_append]; rfl
theorem degK_all (ps : List Trm) : degK ps ps.length = degE ps := by unfold degK degE; rw [List.take_length]
theorem deg_fold (ps : List Trm) (M : Nat) (h : ∀ p ∈ ps, p.t.length ≤ M) : ∀ d, d ≤ M → ps.foldl (fun d p => max d p.t.length) d ≤ M := by
  induction ps with
  | nil => intro d hd; exact hd
  | cons p ps ih => intro d hd; exact ih (fun q hq => h q (List.mem_cons_of_mem _ hq)) _ (Nat.max_le.2 ⟨hd, h p (List.mem_cons_self ..)⟩)
theorem degE_le (ps : List Trm) (M : Nat) (h1 : 1 ≤ M) (h : ∀ p ∈ ps, p.t.length ≤ M) : degE ps ≤ M := deg_fold ps M h 1 h1
theorem fold_ge (ps : List Trm) : ∀ d, d ≤ ps.foldl (fun d p => max d p.t.length) d := by
  induction ps with
  | nil => intro d; exact Nat.le_refl _
  | cons p ps ih => intro d; exact Nat.le_trans (Nat.le_max_left _ _) (ih _)
theorem degE_pos (ps : List Trm) : 1 ≤ degE ps := fold_ge ps 1
theorem degE_mem (ps : List Trm) (p : Trm) (hp : p ∈ ps) : p.t.length ≤ degE ps := by
  have key : ∀ (ps : List Trm) (d : Nat), p ∈ ps → p.t.length ≤ ps.foldl (fun d p => max d p.t.length) d := by
    intro ps
    induction ps with
    | nil => intro d h; cases h
    | cons q ps ih =>
      intro d h
      rcases List.mem_cons.1 h with rfl | h
      · exact Nat.le_trans (Nat.le_max_right _ _) (fold_ge ps _)
      · exact ih _ h
  exact key ps 1 hp
def bndE (tabs : List (List E)) (r : E) : List (List E) := tabs.map fun t => bindL t r
theorem bndE_length (tabs : List (List E)) (r : E) : (bndE tabs r).length = tabs.length := by simp [bndE]
theorem bndE_get (tabs : List (List E)) (r : E) (k : Nat) (t : List E) (h : tabs[k]? = some t) : (bndE tabs r)[k]? = some (bindL t r) := by simp [bndE, h]
def nodeE (x : Nat) : E := eb (fz (x : Int))
def rndE (tabs : List (List E)) (ps : List Trm) : List E := (List.range (degE ps + 1)).map fun x => totE (bndE tabs (nodeE x)) ps
theorem rndE_length (tabs : List (List E)) (ps : List Trm) : (rndE tabs ps).length = degE ps + 1 := by simp [rndE]
theorem rndE_get (tabs : List (List E)) (ps : List Trm) (x : Nat) (h : x < degE ps + 1) : (rndE tabs ps).getD x 0 = totE (bndE tabs (nodeE x)) ps := by simp [rndE, List.getD, h]
def prvR : List (List E) → List Trm → List E → List (List E)
  | _, _, [] => []
  | tabs, ps, r :: cs => rndE tabs ps :: prvR (bndE tabs r) ps cs
def bndAll (tabs : List (List E)) (cs : List E) : List (List E) := cs.foldl bndE tabs
def prvV (tabs : List (List E)) (cs : List E) : List E := (bndAll tabs cs).map fun t => t.getD 0 0
theorem bndAll_succ (tabs : List (List E)) (cs : List E) (j : Nat) (r : E) (h : cs[j]? = some r) : bndAll tabs (cs.take (j + 1)) = bndE (bndAll tabs (cs.take j)) r := by
  unfold bndAll; rw [List.take_add_one, h, List.foldl_append]; rfl
theorem prvR_succ (ps : List Trm) (r : E) : ∀ (cs : List E) (j : Nat) (tabs : List (List E)), cs[j]? = some r → prvR tabs ps (cs.take (j + 1)) = prvR tabs ps (cs.take j) ++ [rndE (bndAll tabs (cs.take j)) ps]
  | [], j, _, h => by simp at h
  | c :: cs, 0, tabs, h => by simp [prvR, bndAll]
  | c :: cs, j + 1, tabs, h => by
    rw [List.take_succ_cons, List.take_succ_cons, prvR, prvR, prvR_succ ps r cs j _ (by simpa using h)]
    rfl
theorem prvR_length (ps : List Trm) : ∀ (cs : List E) (tabs : List (List E)), (prvR tabs ps cs).length = cs.length
  | [], _ => rfl
  | c :: cs, tabs => by rw [prvR, List.length_cons, prvR_length ps cs, List.length_cons]
def AllLen (tabs : List (List E)) (n : Nat) : Prop := ∀ t ∈ tabs, t.length = n
theorem AllLen.bnd {tabs : List (List E)} {n : Nat} (h : AllLen tabs (2 * n)) (r : E) : AllLen (bndE tabs r) n := by
  intro t ht
  obtain ⟨u, hu, rfl⟩ := List.mem_map.1 ht
  exact bindL_length r n u (h u hu)
theorem AllLen.lenT {tabs : List (List E)} {n : Nat} (h : AllLen tabs n) (h0 : 0 < tabs.length) : lenT tabs = n := by
  unfold Go.Proofs.YtficeebbbkmhcaaGreatDoor.lenT
  match tabs, h0 with
  | t :: ts, _ => exact h t (List.mem_cons_self ..)
theorem bindL_getD (r : E) (t : List E) (n i : Nat) (h : t.length = 2 * n) (hi : i < n) : (bindL t r).getD i 0 = t.getD (2 * i) 0 + r * (t.getD (2 * i + 1) 0 - t.getD (2 * i) 0) := by
  have h1 : t[2 * i]? = some (t[2 * i]'(by omega)) := List.getElem?_eq_getElem _
  have h2 : t[2 * i + 1]? = some (t[2 * i + 1]'(by omega)) := List.getElem?_eq_getElem _
  have := bindL_get r i t _ _ h1 h2
  simp only [List.getD_eq_getElem?_getD, this, h1, h2, Option.getD_some]
theorem valT_bnd (tabs : List (List E)) (r : E) (n i k : Nat) (h : AllLen tabs (2 * n)) (hi : i < n) : valT (bndE tabs r) i k = valT tabs (2 * i) k + r * (valT tabs (2 * i + 1) k - valT tabs (2 * i) k) := by
  unfold valT
  by_cases hk : k < tabs.length
  · have h1 : tabs[k]? = some tabs[k] := List.getElem?_eq_getElem hk
    have h2 := bndE_get tabs r k _ h1
    simp only [List.getD_eq_getElem?_getD (l := tabs), List.getD_eq_getElem?_getD (l := bndE tabs r), h1, h2, Option.getD_some]
    exact bindL_getD r _ n i (h _ (List.mem_of_getElem? h1)) hi
  · have h1 : tabs[k]? = none := List.getElem?_eq_none (by omega)
    have h2 : (bndE tabs r)[k]? = none := List.getElem?_eq_none (by rw [bndE_length]; omega)
    simp only [List.getD_eq_getElem?_getD (l := tabs), List.getD_eq_getElem?_getD (l := bndE tabs r), h1, h2, Option.getD_none, List.getD_nil]
    rw [E.sub_self, E.mul_zero, E.add_zero]

/-! ### The two ends of a round -/
theorem nodeE_zero : nodeE 0 = 0 := rfl
theorem nodeE_one : nodeE 1 = 1 := rfl
theorem valT_zero (tabs : List (List E)) (n i k : Nat) (h : AllLen tabs (2 * n)) (hi : i < n) : valT (bndE tabs 0) i k = valT tabs (2 * i) k := by rw [valT_bnd tabs 0 n i k h hi, E.zero_mul, E.add_zero]
theorem valT_one (tabs : List (List E)) (n i k : Nat) (h : AllLen tabs (2 * n)) (hi : i < n) : valT (bndE tabs 1) i k = valT tabs (2 * i + 1) k := by rw [valT_bnd tabs 1 n i k h hi, E.one_mul, E.sub_self_add]
theorem tot_ends (tabs : List (List E)) (ps : List Trm) (n : Nat) (h : AllLen tabs (2 * n)) (h0 : 0 < tabs.length) : totE (bndE tabs 0) ps + totE (bndE tabs 1) ps = totE tabs ps := by
  unfold totE
  rw [h.lenT h0, (h.bnd 0).lenT (by rw [bndE_length]; exact h0), (h.bnd 1).lenT (by rw [bndE_length]; exact h0)]
  unfold totK
  rw [esum_pairs, esum_add]
  congr 1
  · congr 1
    apply List.map_congr_left
    intro i hi
    congr 1
    funext k
    exact valT_zero tabs n i k h (List.mem_range.1 hi)
  · congr 1
    apply List.map_congr_left
    intro i hi
    congr 1
    funext k
    exact valT_one tabs n i k h (List.mem_range.1 hi)

/-! ### Polynomials -/
def pev : List E → E → E
  | [], _ => 0
  | c :: cs, x => c + x * pev cs x
def IsP (n : Nat) (f : E → E) : Prop := ∃ cs : List E, cs.length ≤ n ∧ ∀ x, f x = pev cs x
theorem IsP.mono {n m : Nat} {f : E → E} (h : IsP n f) (hm : n ≤ m) : IsP m f := by
  obtain ⟨cs, h1, h2⟩ := h
  exact ⟨cs, Nat.le_trans h1 hm, h2⟩
theorem isP_const (c : E) : IsP 1 (fun _ => c) := ⟨[c], Nat.le_refl _, fun x => by show c = c + x * 0; rw [E.mul_zero, E.add_zero]⟩
theorem isP_zero (n : Nat) : IsP n (fun _ => 0) := ⟨[], Nat.zero_le _, fun _ => rfl⟩
def padd : List E → List E → List E
  | [], bs => bs
  | us, [] => us
  | a :: us, b :: bs => (a + b) :: padd us bs
theorem padd_length : ∀ us bs : List E, (padd us bs).length = max us.length bs.length
  | [], bs => by simp [padd]
  | a :: us, [] => by simp [padd]
  | a :: us, b :: bs => by rw [padd, List.length_cons, padd_length us bs, List.length_cons, List.length_cons]; omega
theorem pev_padd (x : E) : ∀ us bs : List E, pev (padd us bs) x = pev us x + pev bs x
  | [], bs => by show pev bs x = 0 + pev bs x; rw [E.zero_add]
  | a :: us, [] => by show pev (a :: us) x = pev (a :: us) x + 0; rw [E.add_zero]
  | a :: us, b :: bs => by
    rw [padd, pev, pev_padd x us bs, pev, pev, E.mul_add]
    generalize x * pev us x = u
    generalize x * pev bs x = v
    ac_rfl
theorem pev_scale (c x : E) : ∀ us : List E, pev (us.map (c * ·)) x = c * pev us x
  | [] => by show (0 : E) = c * 0; rw [E.mul_zero]
  | a :: us => by
    rw [List.map_cons, pev, pev_scale c x us, pev, E.mul_add]
    congr 1
    ac_rfl
theorem IsP.add {n : Nat} {f g : E → E} (hf : IsP n f) (hg : IsP n g) : IsP n (fun x => f x + g x) := by
  obtain ⟨us, h1, h2⟩ := hf
  obtain ⟨bs, h3, h4⟩ := hg
  exact ⟨padd us bs, by rw [padd_length]; exact Nat.max_le.2 ⟨h1, h3⟩, fun x => by rw [pev_padd, ← h2, ← h4]⟩
theorem IsP.smul {n : Nat} {f : E → E} (c : E) (hf : IsP n f) : IsP n (fun x => c * f x) := by
  obtain ⟨us, h1, h2⟩ := hf
  exact ⟨us.map (c * ·), by rw [List.length_map]; exact h1, fun x => by rw [pev_scale, ← h2]⟩
theorem IsP.shift {n : Nat} {f : E → E} (hf : IsP n f) : IsP (n + 1) (fun x => x * f x) := by
  obtain ⟨us, h1, h2⟩ := hf
  exact ⟨0 :: us, by rw [List.length_cons]; omega, fun x => by rw [pev, ← h2, E.zero_add]⟩
theorem IsP.lin {n : Nat} {f : E → E} (a b : E) (hf : IsP n f) : IsP (n + 1) (fun x => f x * (a + x * b)) := by
  obtain ⟨cs, h1, h2⟩ := ((hf.smul a).mono (Nat.le_succ n)).add ((hf.smul b).shift)
  refine ⟨cs, h1, fun x => ?_⟩
  rw [← h2]
  show f x * (a + x * b) = a * f x + x * (b * f x)
  rw [E.mul_add]
  congr 1 <;> ac_rfl
theorem isP_esum {α : Type} {n : Nat} (f : α → E → E) : ∀ l : List α, (∀ a ∈ l, IsP n (f a)) → IsP n (fun x => esum (l.map fun a => f a x))
  | [], _ => isP_zero n
  | a :: l, h => (h a (List.mem_cons_self ..)).add (isP_esum f l fun b hb => h b (List.mem_cons_of_mem _ hb))
theorem isP_trm (u v : Nat → E) (p : Trm) : IsP (p.t.length + 1) (fun r => trmE (fun k => u k + r * v k) p) := by
  unfold trmE
  have key : ∀ (l : List Nat) (n : Nat) (f : E → E), IsP n f → IsP (n + l.length) (fun r => l.foldl (fun w k => w * (u k + r * v k)) (f r)) := by
    intro l
    induction l with
    | nil => intro n f h; exact h
    | cons k l ih =>
      intro n f h
      have := ih (n + 1) (fun r => f r * (u k + r * v k)) (h.lin (u k) (v k))
      rw [List.length_cons, show n + (l.length + 1) = n + 1 + l.length by omega]
      exact this
  have := key p.t 1 (fun _ => p.c) (isP_const p.c)
  rw [Nat.add_comm] at this
  exact this
theorem isP_fin (u v : Nat → E) (ps : List Trm) : IsP (degE ps + 1) (fun r => finE (fun k => u k + r * v k) ps) := by
  unfold finE
  exact isP_esum (fun p r => trmE (fun k => u k + r * v k) p) ps fun p hp => (isP_trm u v p).mono (Nat.succ_le_succ (degE_mem ps p hp))
theorem isP_tot (tabs : List (List E)) (ps : List Trm) (n : Nat) (h : AllLen tabs (2 * n)) (h0 : 0 < tabs.length) : IsP (degE ps + 1) (fun r => totE (bndE tabs r) ps) := by
  have e : (fun r => totE (bndE tabs r) ps) = fun r => esum ((List.range n).map fun i => finE (fun k => valT tabs (2 * i) k + r * (valT tabs (2 * i + 1) k - valT tabs (2 * i) k)) ps) := by
    funext r
    unfold totE
    rw [(h.bnd r).lenT (by rw [bndE_length]; exact h0)]
    unfold totK
    congr 1
    apply List.map_congr_left
    intro i hi
    congr 1
    funext k
    exact valT_bnd tabs r n i k h (List.mem_range.1 hi)
  rw [e]
  exact isP_esum (fun i r => finE (fun k => valT tabs (2 * i) k + r * (valT tabs (2 * i + 1) k - valT tabs (2 * i) k)) ps) _ fun i _ => isP_fin (fun k => valT tabs (2 * i) k) (fun k => valT tabs (2 * i + 1) k - valT tabs (2 * i) k) ps
end Go.Proofs.YtficeebbbkmhcaaGreatDoor
namespace Go.Proofs.YtficeebbbkmhcaaGreatDoor

def intE (z : Int) : E := eb (fz z)
def befE (x : E) : Nat → E
  | 0 => 1
  | i + 1 => befE x i * (x - nodeE i)
def aftK (x : E) (n : Nat) : Nat → E
  | 0 => 1
  | j + 1 => aftK x n j * (x - nodeE (n - 1 - j))
def difK (i : Nat) : Nat → E
  | 0 => 1
  | k + 1 => if k = i then difK i k else difK i k * intE ((i : Int) - k)
def wgtE (n i : Nat) : E := einv (difK i n)
def atK (v : List E) (x : E) (j : Nat) : E := esum ((List.range j).map fun i => v.getD i 0 * wgtE v.length i * (befE x i * aftK x v.length (v.length - (i + 1))))
def atE (v : List E) (x : E) : E := atK v x v.length
theorem atK_succ (v : List E) (x : E) (j : Nat) : atK v x (j + 1) = atK v x j + v.getD j 0 * wgtE v.length j * (befE x j * aftK x v.length (v.length - (j + 1))) := esum_range _ j

/-! ### Inverses of products -/
theorem einv_zero : einv 0 = 0 := by
  unfold einv
  rw [show cnj 0 = 0 from by decide +kernel, E.zero_mul]
/-! ### The reference's product -/
/-! ### Interpolation, for at most four values -/
def negF : Fp := fn 18446744069414584320
theorem negF_one : negF + 1 = 0 := by decide +kernel
def halfF : Fp := fn 9223372034707292161
theorem halfF_two : halfF + halfF = 1 := by decide +kernel
def sixF : Fp := fn 15372286724512153601
theorem sixF_six : sixF + sixF + sixF + sixF + sixF + sixF = 1 := by decide +kernel
theorem lag_two (f0 f1 x : E) : atE [f0, f1] x = f0 + x * (f1 - f0) := by
  have w0 : wgtE 2 0 = eb negF := (einv_unique _ _ (by decide +kernel)).symm
  have w1 : wgtE 2 1 = 1 := (einv_unique _ _ (by decide +kernel)).symm
  show (f0 * wgtE 2 0 * (1 * (1 * (x - nodeE 1))) + (f1 * wgtE 2 1 * ((1 * (x - nodeE 0)) * 1) + 0)) = _
  rw [w0, w1, nodeE_zero, nodeE_one]
  have hm := negF_one
  generalize negF = m at *
  clear w0 w1
  rw [E.mul_one, E.mul_one, E.one_mul, E.one_mul, E.one_mul, E.add_zero, E.sub_zero]
  unfold eb
  apply E.ext_ <;> simp only [add_a, add_b, sub_a, sub_b, mul_a, mul_b, one_a, one_b] <;> grind
theorem neg_times (y : E) : eb negF * y = 0 - y := by
  have e : eb negF = 0 - 1 := by decide +kernel
  rw [e, E.mul_comm, E.mul_sub, E.mul_zero, E.mul_one]
theorem three_sums (s : Fp) (hh : s + s = 1) (x : E) : (eb s * ((x - eb 2) * (x - 1)) + (0 - x * (x - eb 2)) + eb s * (x * (x - 1)) = 1) ∧
    ((0 - x * (x - eb 2)) + eb 2 * (eb s * (x * (x - 1))) = x) ∧ ((0 - x * (x - eb 2)) + eb 4 * (eb s * (x * (x - 1))) = x * x) := by
  unfold eb
  refine ⟨?_, ?_, ?_⟩ <;> apply E.ext_ <;> simp only [add_a, add_b, sub_a, sub_b, mul_a, mul_b, zero_a, zero_b, one_a, one_b] <;> grind
theorem four_sums (s : Fp) (hh : s + s + s + s + s + s = 1) (x : E) :
    (0 - eb s * ((x - eb 3) * (x - eb 2) * (x - 1)) + eb 3 * (eb s * (x * ((x - eb 3) * (x - eb 2)))) + (0 - eb 3 * (eb s * (x * (x - 1) * (x - eb 3)))) + eb s * (x * (x - 1) * (x - eb 2)) = 1) ∧
    (eb 3 * (eb s * (x * ((x - eb 3) * (x - eb 2)))) + eb 2 * (0 - eb 3 * (eb s * (x * (x - 1) * (x - eb 3)))) + eb 3 * (eb s * (x * (x - 1) * (x - eb 2))) = x) ∧
    (eb 3 * (eb s * (x * ((x - eb 3) * (x - eb 2)))) + eb 4 * (0 - eb 3 * (eb s * (x * (x - 1) * (x - eb 3)))) + eb 9 * (eb s * (x * (x - 1) * (x - eb 2))) = x * x) ∧
    (eb 3 * (eb s * (x * ((x - eb 3) * (x - eb 2)))) + eb 8 * (0 - eb 3 * (eb s * (x * (x - 1) * (x - eb 3)))) + eb 27 * (eb s * (x * (x - 1) * (x - eb 2))) = x * x * x) := by
  unfold eb
  refine ⟨?_, ?_, ?_, ?_⟩ <;> apply E.ext_ <;> simp only [add_a, add_b, sub_a, sub_b, mul_a, mul_b, zero_a, zero_b, one_a, one_b] <;> grind
theorem lag_three (x a0 a1 a2 : E) : atE [a0, a0 + (a1 + a2), a0 + eb 2 * (a1 + eb 2 * a2)] x = a0 + x * (a1 + x * a2) := by
  have w0 : wgtE 3 0 = eb halfF := (einv_unique _ _ (by decide +kernel)).symm
  have w1 : wgtE 3 1 = eb negF := (einv_unique _ _ (by decide +kernel)).symm
  have w2 : wgtE 3 2 = eb halfF := (einv_unique _ _ (by decide +kernel)).symm
  obtain ⟨k0, k1, k2⟩ := three_sums halfF halfF_two x
  generalize hf1 : a0 + (a1 + a2) = f1
  generalize hf2 : a0 + eb 2 * (a1 + eb 2 * a2) = f2
  show (a0 * wgtE 3 0 * (1 * (1 * (x - nodeE 2) * (x - nodeE 1))) + (f1 * wgtE 3 1 * ((1 * (x - nodeE 0)) * (1 * (x - nodeE 2))) + (f2 * wgtE 3 2 * ((1 * (x - nodeE 0) * (x - nodeE 1)) * 1) + 0))) = _
  rw [w0, w1, w2, nodeE_zero, nodeE_one, show nodeE 2 = eb 2 from by decide +kernel]
  simp only [E.mul_one, E.one_mul, E.add_zero, E.sub_zero, E.mul_assoc] at *
  simp only [neg_times] at *
  generalize eb halfF * ((x - eb 2) * (x - 1)) = L0 at *
  generalize 0 - x * (x - eb 2) = L1 at *
  generalize eb halfF * (x * (x - 1)) = L2 at *
  have e4 : eb 4 = eb 2 * eb 2 := by decide +kernel
  rw [e4] at k2
  calc a0 * L0 + (f1 * L1 + f2 * L2) = a0 * (L0 + L1 + L2) + a1 * (L1 + eb 2 * L2) + a2 * (L1 + eb 2 * eb 2 * L2) := by
        rw [← hf1, ← hf2]
        simp only [E.mul_add, E.add_mul]
        ac_rfl
    _ = a0 + x * (a1 + x * a2) := by
        rw [k0, k1, k2, E.mul_one, E.mul_add]
        ac_rfl
theorem lag_four (x a0 a1 a2 a3 : E) : atE [a0, a0 + (a1 + (a2 + a3)), a0 + eb 2 * (a1 + eb 2 * (a2 + eb 2 * a3)), a0 + eb 3 * (a1 + eb 3 * (a2 + eb 3 * a3))] x = a0 + x * (a1 + x * (a2 + x * a3)) := by
  have w0 : wgtE 4 0 = eb negF * eb sixF := (einv_unique _ _ (by decide +kernel)).symm
  have w1 : wgtE 4 1 = eb 3 * eb sixF := (einv_unique _ _ (by decide +kernel)).symm
  have w2 : wgtE 4 2 = eb negF * (eb 3 * eb sixF) := (einv_unique _ _ (by decide +kernel)).symm
  have w3 : wgtE 4 3 = eb sixF := (einv_unique _ _ (by decide +kernel)).symm
  obtain ⟨k0, k1, k2, k3⟩ := four_sums sixF sixF_six x
  generalize hf1 : a0 + (a1 + (a2 + a3)) = f1
  generalize hf2 : a0 + eb 2 * (a1 + eb 2 * (a2 + eb 2 * a3)) = f2
  generalize hf3 : a0 + eb 3 * (a1 + eb 3 * (a2 + eb 3 * a3)) = f3
  show (a0 * wgtE 4 0 * (1 * (1 * (x - nodeE 3) * (x - nodeE 2) * (x - nodeE 1))) + (f1 * wgtE 4 1 * ((1 * (x - nodeE 0)) * (1 * (x - nodeE 3) * (x - nodeE 2))) + (f2 * wgtE 4 2 * ((1 * (x - nodeE 0) * (x - nodeE 1)) * (1 * (x - nodeE 3))) + (f3 * wgtE 4 3 * ((1 * (x - nodeE 0) * (x - nodeE 1) * (x - nodeE 2)) * 1) + 0)))) = _
  rw [w0, w1, w2, w3, nodeE_zero, nodeE_one, show nodeE 2 = eb 2 from by decide +kernel, show nodeE 3 = eb 3 from by decide +kernel]
  simp only [E.mul_one, E.one_mul, E.add_zero, E.sub_zero, E.mul_assoc] at *
  simp only [neg_times] at *
  generalize 0 - eb sixF * ((x - eb 3) * ((x - eb 2) * (x - 1))) = L0 at *
  generalize eb 3 * (eb sixF * (x * ((x - eb 3) * (x - eb 2)))) = L1 at *
  generalize 0 - eb 3 * (eb sixF * (x * ((x - 1) * (x - eb 3)))) = L2 at *
  generalize eb sixF * (x * ((x - 1) * (x - eb 2))) = L3 at *
  have e4 : eb 4 = eb 2 * eb 2 := by decide +kernel
  have e8 : eb 8 = eb 2 * (eb 2 * eb 2) := by decide +kernel
  have e9 : eb 9 = eb 3 * eb 3 := by decide +kernel
  have e27 : eb 27 = eb 3 * (eb 3 * eb 3) := by decide +kernel
  rw [e4, e9] at k2
  rw [e8, e27] at k3
  calc a0 * L0 + (f1 * L1 + (f2 * L2 + f3 * L3)) = a0 * (L0 + L1 + L2 + L3) + a1 * (L1 + eb 2 * L2 + eb 3 * L3) + a2 * (L1 + eb 2 * eb 2 * L2 + eb 3 * eb 3 * L3) + a3 * (L1 + eb 2 * (eb 2 * eb 2) * L2 + eb 3 * (eb 3 * eb 3) * L3) := by
        rw [← hf1, ← hf2, ← hf3]
        simp only [E.mul_add, E.add_mul]
        ac_rfl
    _ = a0 + x * (a1 + x * (a2 + x * a3)) := by
        rw [k0, k1, k2, k3, E.mul_one]
        simp only [E.mul_add]
        ac_rfl
theorem pev_four (cs : List E) (h : cs.length ≤ 4) (x : E) : pev cs x = cs.getD 0 0 + x * (cs.getD 1 0 + x * (cs.getD 2 0 + x * cs.getD 3 0)) := by
  match cs, h with
  | [], _ => simp [pev, E.mul_zero, E.add_zero]
  | [_], _ => simp [pev, E.mul_zero, E.add_zero]
  | [_, _], _ => simp [pev, E.mul_zero, E.add_zero]
  | [_, _, _], _ => simp [pev, E.mul_zero, E.add_zero]
  | [_, _, _, _], _ => simp [pev, E.mul_zero, E.add_zero]
  | _ :: _ :: _ :: _ :: _ :: _, h => simp at h
theorem lagrange (n : Nat) (h2 : 2 ≤ n) (h4 : n ≤ 4) (f : E → E) (hf : IsP n f) (x : E) : atE ((List.range n).map fun i => f (nodeE i)) x = f x := by
  obtain ⟨cs, h1, hc⟩ := hf
  have hp := fun y => (hc y).trans (pev_four cs (by omega) y)
  have hn : n = 2 ∨ n = 3 ∨ n = 4 := by omega
  have z3 : n ≤ 3 → cs.getD 3 0 = 0 := fun h => by simp [List.getD, List.getElem?_eq_none (show cs.length ≤ 3 by omega)]
  have z2 : n ≤ 2 → cs.getD 2 0 = 0 := fun h => by simp [List.getD, List.getElem?_eq_none (show cs.length ≤ 2 by omega)]
  generalize cs.getD 0 0 = a0 at *
  generalize cs.getD 1 0 = a1 at *
  generalize cs.getD 2 0 = a2 at *
  generalize cs.getD 3 0 = a3 at *
  have n2 : nodeE 2 = eb 2 := by decide +kernel
  have n3 : nodeE 3 = eb 3 := by decide +kernel
  rcases hn with rfl | rfl | rfl
  · show atE [f (nodeE 0), f (nodeE 1)] x = f x
    rw [lag_two, hp, hp, hp, z3 (by omega), z2 (by omega), nodeE_zero, nodeE_one]
    simp only [E.mul_zero, E.zero_mul, E.add_zero, E.one_mul]
    congr 2
    apply E.ext_ <;> simp only [add_a, add_b, sub_a, sub_b] <;> grind
  · show atE [f (nodeE 0), f (nodeE 1), f (nodeE 2)] x = f x
    rw [hp (nodeE 0), hp (nodeE 1), hp (nodeE 2), hp x, z3 (by omega), nodeE_zero, nodeE_one, n2]
    simp only [E.mul_zero, E.zero_mul, E.add_zero, E.one_mul]
    exact lag_three x a0 a1 a2
  · show atE [f (nodeE 0), f (nodeE 1), f (nodeE 2), f (nodeE 3)] x = f x
    rw [hp (nodeE 0), hp (nodeE 1), hp (nodeE 2), hp (nodeE 3), hp x, nodeE_zero, nodeE_one, n2, n3]
    simp only [E.mul_zero, E.zero_mul, E.add_zero, E.one_mul]
    exact lag_four x a0 a1 a2 a3
theorem rnd_at (tabs : List (List E)) (ps : List Trm) (n : Nat) (h : AllLen tabs (2 * n)) (h0 : 0 < tabs.length) (h3 : degE ps ≤ 3) (x : E) : atE (rndE tabs ps) x = totE (bndE tabs x) ps :=
  lagrange (degE ps + 1) (by have := degE_pos ps; omega) (by omega) (fun r => totE (bndE tabs r) ps) (isP_tot tabs ps n h h0) x
end Go.Proofs.YtficeebbbkmhcaaGreatDoor
namespace Go.Proofs.YtficeebbbkmhcaaGreatDoor
open Go.RowKit

theorem mul_bdW (x y : Int) (hx : 0 ≤ x) (hx' : x < 18446744073709551616) (hy : 0 ≤ y) (hy' : y < 18446744069414584321) : 0 ≤ x * y ∧ x * y < 340282366920938463463374607431768211456 := by
  refine ⟨Int.mul_nonneg hx hy, ?_⟩
  have h1 : x * y ≤ 18446744073709551615 * y := Int.mul_le_mul_of_nonneg_right (by omega) hy
  omega
theorem fMulW (q : Nat) (hq : q < 18446744073709551616) (b : Fp) (w : World) :
    Calls Tryz.prog 126 #[.int .u64 q, .int .u64 (fv b)] w fun e w' => e = .returned (.int .u64 (fv (fn q * b))) ∧ w = w' := by
  have e : fv (fn q * b) = ((q : Int) * fv b) % 18446744069414584321 := by rw [fv_mul, fv_fn, Int.mul_emod, Int.emod_emod_of_dvd _ (Int.dvd_refl _), ← Int.mul_emod]
  rw [e]
  have h := mul_bdW (q : Int) (fv b) (by omega) (by omega) (fv_lo b) (fv_hi b)
  exact fMul_m _ _ _ (Lib.hid rfl) h.1 h.2 (by omega) (by omega) (fv_lo b) (fv_hi b) w
set_option maxRecDepth 100000 in
set_option maxHeartbeats 400000 in
theorem fNeg (a : Fp) (w : World) : Calls Tryz.prog 151 #[.int .u64 (fv a)] w fun e w' => e = .returned (.int .u64 (fv (0 - a))) ∧ w = w' := by
  have c1 := fun w => fSub 0 a w
  rw [fv_zero] at c1
  have C1 := Lib.hid c1
  clear c1
  go_enter Tryz.func151, Tryz.ntmps151
  go_wp2_with fail
  refine (C1.out _).mono ?_
  rintro e w' ⟨rfl, rfl⟩
  go_wp2_with fail
  go_ret
  exact ⟨rfl, rfl⟩
set_option maxRecDepth 100000 in
set_option maxHeartbeats 1000000 in
theorem fInv (a : Fp) (h : a ≠ 0) (w : World) :
    Calls Tryz.prog 140 #[.int .u64 (fv a)] w (Ret (.tuple #[.int .u64 (fv (finv a)), .int .i64 0]) w) := by
  have h0 : (fv a == 0) = false := by rw [beq_eq_false_iff_ne]; exact fun e => h (fv_inj (e.trans fv_zero.symm))
  have hp : 0 < a.val := Nat.pos_of_ne_zero fun e => h (Fin.ext e)
  have hpp : a.val < PP := a.isLt
  have hg := Lib.hid (pp_gcd a h)
  have hv : fv a = (a.val : Int) := rfl
  have h0' : (((a.val : Nat) : Int) == 0) = false := h0
  go_enter Tryz.func140, Tryz.ntmps140
  iterate 2 (go_wp2; go_step3)
  go_wp2
  go_loopw [4, 5, 6, 7] (fun vr vn vs vt wr => ∃ (r n : Nat) (s t : Fp), vr = .int .u64 r ∧ vn = .int .u64 n ∧ vs = .int .u64 (fv s) ∧ vt = .int .u64 (fv t) ∧ 0 < n ∧ n < r ∧ r ≤ 18446744069414584321 ∧ Nat.gcd r n = 1 ∧ fn r = s * a ∧ fn n = t * a ∧ Below w.heap.size w wr) (fun _ vn _ _ _ => (intOf vn).toNat)
  case atStart =>
    refine ⟨18446744069414584321, a.val, 0, 1, rfl, by rw [hv], rfl, rfl, hp, hpp, Nat.le_refl _, hg.out, ?_, ?_, Below.refl _ _⟩
    · rw [fn_PP]; grind
    · rw [fn_val]; grind
  case round =>
    obtain ⟨r, n, s, t, rfl, rfl, rfl, rfl, hn, hnr, hr, hgc, hs, ht, hB⟩ := hrel
    have hm := euclid_step hs ht
    have hgc2 := gcd_step r n hgc
    obtain ⟨q, hq⟩ : ∃ q, q = r / n := ⟨_, rfl⟩
    obtain ⟨m, hme⟩ : ∃ m, m = r % n := ⟨_, rfl⟩
    rw [← hq, ← hme] at hm
    rw [← hme] at hgc2
    have hqr : q ≤ r := by rw [hq]; exact Nat.div_le_self _ _
    have hmn : m < n := by rw [hme]; exact Nat.mod_lt _ hn
    have d1 : (r : Int) / (n : Int) = (q : Int) := by rw [hq]; rfl
    have d2 : Int.tdiv (r : Int) (n : Int) = (q : Int) := by rw [hq]; rfl
    have d3 : (r : Int) % (n : Int) = (m : Int) := by rw [hme]; rfl
    have d4 : Int.tmod (r : Int) (n : Int) = (m : Int) := by rw [hme]; rfl
    have hn0 : n ≠ 0 := by omega
    have HM := Lib.hid hm
    have HG := Lib.hid hgc2
    have HT := Lib.hid ht
    clear hq hme hm hgc2 hgc hs ht hg hv h0
    go_wp2
    refine wp_region_late 4 [1,2,3] [] (by kernel_rfl) (by kernel_rfl) (by kernel_rfl) (by kernel_rfl) (by intro _ _ d _ _ h; cases d <;> exact h) trivial ?_
    iterate 4 (refine rg_det rfl rfl rfl (fun K hK => ?_); go_big_quiet_op; refine hK _ ?_; clear hK K)
    refine rg_nil (fun w' hw' hF => ?_)
    obtain ⟨z, rfl⟩ := hw'
    simp only [List.drop_succ_cons, List.drop_zero]
    refine wpListC_assignU (.int .u64 n) rfl _ rfl ⟨z, rfl⟩ rfl ?_
    intro a' ha
    simp only [Act.put, List.setIfInBounds_toArray, List.set_cons_succ, List.set_cons_zero] at ha
    subst ha
    refine wpListC_assignU (.int .u64 m) rfl _ rfl ⟨z, rfl⟩ rfl ?_
    intro a' ha
    simp only [Act.put, List.setIfInBounds_toArray, List.set_cons_succ, List.set_cons_zero] at ha
    subst ha
    refine wpListC_nil ?_
    have hB2 := hB.trans (z.h.mono hB.size)
    clear d1 d2 d3 d4 hF hB
    go_wp2_with fail
    refine (fMulW q (by omega) t _).mono ?_
    rintro e w' ⟨rfl, rfl⟩
    go_wp2_with fail
    refine (fSub s (fn q * t) _).mono ?_
    rintro e w' ⟨rfl, rfl⟩
    by_cases hm0 : m = 0
    · go_wp2
      rw [Exit.noGoto_ret]
      go_ret2
      subst hm0
      have h1 : n = 1 := by have := HG.out; rwa [Nat.gcd_zero_right] at this
      subst h1
      have h2 : t * a = 1 := by rw [← HT.out, fn_one]
      rw [finv_unique a t h2]
      exact ⟨rfl, hB2⟩
    · go_wp2
      exact ⟨⟨n, m, t, s - fn q * t, rfl, rfl, rfl, rfl, by omega, hmn, by omega, HG.out, HT.out, HM.out, hB2⟩, by simp [intOf]; omega⟩
set_option maxRecDepth 100000 in
set_option maxHeartbeats 400000 in
theorem fInv0 (w : World) : Calls Tryz.prog 140 #[.int .u64 0] w fun e w' => e = .returned (.tuple #[.int .u64 0, .int .i64 3]) ∧ w = w' := by
  go_enter Tryz.func140, Tryz.ntmps140
  go_wp2
  go_step3
  go_wp2
  rw [Exit.noGoto_ret]
  go_ret2
  exact ⟨rfl, rfl⟩
theorem nrm_def (x : E) : nrm x = x.a * x.a - 7 * (x.b * x.b) := rfl
set_option maxRecDepth 100000 in
set_option maxHeartbeats 400000 in
theorem eNorm (x : E) (w : World) : Calls Tryz.prog 141 #[ev x] w (Ret (.int .u64 (fv (nrm x))) w) := by
  rw [nrm_def]
  unfold ev
  have c7 : ∀ W1, Calls Tryz.prog 126 #[.int .u64 7, .int .u64 (fv (x.b * x.b))] W1 (Ret (.int .u64 (fv (7 * (x.b * x.b)))) W1) := fun W1 => by rw [seven]; exact ret_of_same (fMul 7 (x.b * x.b) W1)
  have C7 := Lib.hid c7
  clear c7
  go_enter Tryz.func141, Tryz.ntmps141
  go_wp2
  refine wp_stk1 fun W hB hz b1 => ?_
  have c1 := gw_blk b1
  refine wp_region_rg 12 [(4, Spec.val (.int .u64 (fv (x.a * x.a)))), (9, Spec.val (.int .u64 (fv (x.b * x.b)))), (10, Spec.val (.int .u64 (fv (7 * (x.b * x.b))))), (11, Spec.val (.int .u64 (fv (x.a * x.a - 7 * (x.b * x.b)))))] (by kernel_rfl) (by kernel_rfl) (by kernel_rfl) trivial ?_
  iterate 4 (refine rg_det rfl rfl rfl (fun K hK => ?_); go_big_quiet_op; refine hK _ ?_; clear hK K)
  refine rg_val rfl rfl (fun W1 hW1 hF => step_callv en_attestor_field_Mul (ret_of_same (fMul x.a x.a W1)) rfl rfl) ?_
  intro a' ha
  simp only [Act.put, List.setIfInBounds_toArray, List.set_cons_succ, List.set_cons_zero] at ha
  subst ha
  iterate 4 (refine rg_det rfl rfl rfl (fun K hK => ?_); go_big_quiet_op; refine hK _ ?_; clear hK K)
  refine rg_val rfl rfl (fun W1 hW1 hF => step_callv en_attestor_field_Mul (ret_of_same (fMul x.b x.b W1)) rfl rfl) ?_
  intro a' ha
  simp only [Act.put, List.setIfInBounds_toArray, List.set_cons_succ, List.set_cons_zero] at ha
  subst ha
  refine rg_val rfl rfl (fun W1 hW1 hF => step_callv en_attestor_field_Mul (C7.out W1) rfl rfl) ?_
  intro a' ha
  simp only [Act.put, List.setIfInBounds_toArray, List.set_cons_succ, List.set_cons_zero] at ha
  subst ha
  refine rg_val rfl rfl (fun W1 hW1 hF => step_callv en_attestor_field_Sub (ret_of_same (fSub (x.a * x.a) (7 * (x.b * x.b)) W1)) rfl rfl) ?_
  intro a' ha
  simp only [Act.put, List.setIfInBounds_toArray, List.set_cons_succ, List.set_cons_zero] at ha
  subst ha
  refine rg_nil (fun w' hw' hF => ?_)
  obtain ⟨z, rfl⟩ := hw'
  simp only [List.drop_succ_cons, List.drop_zero]
  clear hF c1
  go_wp2_with fail
  go_ret
  exact ⟨rfl, hB.trans (z.h.mono hB.size)⟩
theorem cnj_a (x : E) : (cnj x).a = x.a := rfl
theorem cnj_b (x : E) : (cnj x).b = 0 - x.b := rfl
set_option maxRecDepth 100000 in
set_option maxHeartbeats 400000 in
theorem eConj (x : E) (w : World) : Calls Tryz.prog 143 #[ev x] w (Ret (ev (cnj x)) w) := by
  unfold ev
  rw [cnj_a, cnj_b]
  go_enter Tryz.func143, Tryz.ntmps143
  go_wp2
  refine wp_stk2 fun W hB hz b1 b2 => ?_
  have c1 := gw_blk b1
  refine wp_region_rg 6 [(4, Spec.val (.int .u64 (fv (0 - x.b))))] (by kernel_rfl) (by kernel_rfl) (by kernel_rfl) trivial ?_
  iterate 4 (refine rg_det rfl rfl rfl (fun K hK => ?_); go_big_quiet_op; refine hK _ ?_; clear hK K)
  refine rg_val rfl rfl (fun W1 hW1 hF => step_callv en_attestor_field_Neg (ret_of_same (fNeg x.b W1)) rfl rfl) ?_
  intro a' ha
  simp only [Act.put, List.setIfInBounds_toArray, List.set_cons_succ, List.set_cons_zero] at ha
  subst ha
  refine rg_det rfl rfl rfl (fun K hK => ?_)
  go_big_quiet_op
  refine hK _ ?_; clear hK K
  refine rg_nil (fun w' hw' hF => ?_)
  obtain ⟨z, rfl⟩ := hw'
  simp only [List.drop_succ_cons, List.drop_zero]
  have e1 := (b2.gw z).cell
  have e2 := (b2.gw z).frozen
  go_wp2
  refine bodyPost_ret (v := .agg #[.int .u64 (fv x.a), .int .u64 (fv (0 - x.b))]) (by simp [results, Tryz.results143, go_sem, e1]) rfl ⟨rfl, ?_⟩
  exact ((hB.trans (z.h.mono hB.size)).setCell (by show w.heap.size ≤ w.heap.size + 1; omega) _).setCell (by show w.heap.size ≤ w.heap.size + 1; omega) _
set_option maxRecDepth 100000 in
set_option maxHeartbeats 1000000 in
theorem eInv (x : E) (hx : x ≠ 0) (w : World) : Calls Tryz.prog 129 #[ev x] w (Ret (.tuple #[ev (einv x), .int .i64 0]) w) := by
  have hn := nrm_ne x hx
  have HC := Lib.hid (show cnj x * eb (finv (nrm x)) = einv x from rfl)
  unfold ev
  go_enter Tryz.func129, Tryz.ntmps129
  go_wp2_with fail
  refine calls_stk2 fun W hB hz b1 b2 => ?_
  refine (eNorm x _).mono ?_
  rintro e w2 ⟨rfl, hb⟩
  have b12 := b1.keep hb
  have b22 := b2.keep hb
  go_wp2_with fail
  refine (fInv (nrm x) hn _).mono ?_
  rintro e w2' ⟨rfl, hbi⟩
  replace b12 := b12.keep hbi
  replace b22 := b22.keep hbi
  replace hb := hb.trans (hbi.mono hb.size)
  have e1 := b12.cell
  go_wp2_with fail
  refine (eConj x _).mono ?_
  rintro e w3 ⟨he, hb3⟩
  unfold ev at he
  subst he
  go_wp2_with fail
  refine (eMulBase (cnj x) (finv (nrm x)) _).mono ?_
  rintro e w4 ⟨he, hb4⟩
  rw [HC.out] at he
  unfold ev at he
  subst he
  have hb5 := hb3.trans (hb4.mono hb3.size)
  have b24 := b22.keep hb5
  have e2 := b24.cell
  have e3 := b24.frozen
  clear e1
  go_wp2
  refine bodyPost_ret (v := .tuple #[.agg #[.int .u64 (fv (einv x).a), .int .u64 (fv (einv x).b)], .int .i64 0]) (by simp [results, Tryz.results129, go_sem, e2]) rfl ⟨rfl, ?_⟩
  have hB5 := (hB.trans (hb.mono hB.size))
  exact below_set2 (hB5.trans (hb5.mono hB5.size)) (by omega)
set_option maxRecDepth 100000 in
set_option maxHeartbeats 1000000 in
theorem eInv0 (w : World) : Calls Tryz.prog 129 #[ev 0] w (Ret (.tuple #[ev 0, .int .i64 3]) w) := by
  have hn0 : fv (nrm 0) = 0 := by decide +kernel
  unfold ev
  go_enter Tryz.func129, Tryz.ntmps129
  go_wp2_with fail
  refine calls_stk2 fun W hB hz b1 b2 => ?_
  refine (eNorm 0 _).mono ?_
  rintro e w2 ⟨rfl, hb⟩
  have b22 := b2.keep hb
  rw [hn0]
  go_wp2_with fail
  refine (fInv0 _).mono ?_
  rintro e w3 ⟨rfl, rfl⟩
  have e2 := b22.cell
  have e3 := b22.frozen
  go_wp2
  refine bodyPost_ret (v := .tuple #[.agg #[.int .u64 (fv 0), .int .u64 (fv 0)], .int .i64 3]) (by simp [results, Tryz.results129, go_sem, e2, fv0]) rfl ⟨rfl, ?_⟩
  have hB5 := (hB.trans (hb.mono hB.size))
  exact below_set2 hB5 (by omega)
end Go.Proofs.YtficeebbbkmhcaaGreatDoor
namespace Go.Proofs.YtficeebbbkmhcaaGreatDoor
open Go.RowKit
attribute [local go_sem] Oper.semAt_some

end Go.Proofs.YtficeebbbkmhcaaGreatDoor
namespace Go.Proofs.YtficeebbbkmhcaaGreatDoor
open Go.RowKit

theorem keepsOthers_of_below {W W' : World} (h : Below W.heap.size W W') : KeepsOthers W W' :=
  ⟨h.size, fun k _ hk _ => (h.block k (Array.getElem?_eq_some_iff.1 hk).1).trans hk⟩
theorem keepsOthers_of_grown {W W' : World} {row : Option Nat} (h : W.grownBy W' row) (hr : ∀ j o, row = some j → W.heap[j]? = some o → o.isCells = true) : KeepsOthers W W' :=
  KeepsOthers.of_grownBy h hr
theorem blk_own {β : Type} {B g : Nat} {t : TypeId} {cs : Array Value} : OwnFrom B (fun (_ : β) W => Blk W g t cs) := fun s W W' row hs hg hr =>
  (hg.block g hs.lt (fun e => by
    obtain ⟨_, o, ho, hc⟩ := hr g e.symm
    rw [show W.heap[g]? = _ from hs] at ho; cases ho; cases hc)).trans hs

end Go.Proofs.YtficeebbbkmhcaaGreatDoor
namespace Go.Proofs.YtficeebbbkmhcaaGreatDoor
open Go.RowKit

structure Put (w X : World) (g : Nat) : Prop where
  os : X.os = w.os
  tape : X.tape = w.tape
  output : X.output = w.output
  size : X.heap.size = w.heap.size
  other : ∀ k, k ≠ g → X.heap[k]? = w.heap[k]?
theorem Put.refl (w : World) (g : Nat) : Put w w g := ⟨rfl, rfl, rfl, rfl, fun _ _ => rfl⟩
theorem Put.trans {a b c : World} {g : Nat} (h : Put a b g) (k : Put b c g) : Put a c g := ⟨k.os.trans h.os, k.tape.trans h.tape, k.output.trans h.output, k.size.trans h.size, fun i hi => (k.other i hi).trans (h.other i hi)⟩
theorem Put.set (w : World) (g i : Nat) (v : Value) : Put w (w.setCell ⟨g, i, none⟩ v) g := ⟨rfl, rfl, rfl, by simp [World.setCell], fun k hk => Below.heap_setCell w ⟨g, i, none⟩ v k hk⟩
theorem Put.below {w X : World} {g N : Nat} (h : Put w X g) (hN : N ≤ g) : Below N w X := ⟨h.os, h.tape, h.output, by rw [h.size]; exact Nat.le_refl _, fun k hk => h.other k (by omega)⟩
theorem Put.blk {w X : World} {g b : Nat} {t : TypeId} {cs : Array Value} (h : Put w X g) (hb : Blk w b t cs) (hne : b ≠ g) : Blk X b t cs := (h.other b hne).trans hb
theorem Put.rd {w X : World} {g lo hi size n : Nat} {v : Value} {cs : List Value} (h : Put w X g) (hr : Rd lo hi size w v n cs) (hne : g < lo ∨ hi ≤ g) : Rd lo hi size X v n cs :=
  hr.other (by rw [h.size]; exact Nat.le_refl _) fun k h1 h2 _ => h.other k (by omega)
theorem below_put {N : Nat} {a w X : World} {g : Nat} (h : Below N a w) (p : Put w X g) (hN : N ≤ g) : Below N a X := h.trans (p.below hN)

def spl (cs : Array Value) : Nat → List Value → Array Value
  | _, [] => cs
  | i, v :: vs => spl (cs.setIfInBounds i v) (i + 1) vs
theorem put_setCells {g : Nat} {t : TypeId} : ∀ (vs : List Value) (i : Nat) (cs : Array Value) (w : World), Blk w g t cs → Put w (w.setCells g i vs) g ∧ Blk (w.setCells g i vs) g t (spl cs i vs)
  | [], i, cs, w, h => ⟨Put.refl _ _, h⟩
  | v :: vs, i, cs, w, h => by
    obtain ⟨h1, h2⟩ := put_setCells vs (i + 1) (cs.setIfInBounds i v) (w.setCell ⟨g, i, none⟩ v) (h.set_ i v)
    exact ⟨(Put.set w g i v).trans h1, h2⟩
theorem wpList_put {P : Program} {ops : Array Oper} {rest : List Oper} {o : Oper} {a : Act} {w : World} {Q : Exit → Act → World → Prop} {g i : Nat} {t : TypeId} {cs new : Array Value} {cells : List Value} (hgd : o.guard = none) (ty : TypeId) (x y : Operand) (ho : o.op = .store ty x y)
    (hx : a.eval x = .pointer (some ⟨g, i, none⟩)) (hy : a.eval y = .agg cells.toArray) (hb : Blk w g t cs) (hi : i + cells.length ≤ cs.size) (hz : (P.info? ty).map (·.size) = some cells.length) (h1 : cells.all (·.oneCell') = true) (hn : spl cs i cells = new)
    (h : ∀ X, Put w X g → Blk X g t new → wpList P ops Q rest (a.put o.dst undef) X) : wpList P ops Q (o :: rest) a w := by
  refine wpList_store_mid hgd ty x y ho g i cells.toArray hx hy ?_ (by simpa using hz) (by simpa using h1) ?_
  · intro j hj
    refine ⟨?_, hb.frozen _⟩
    rw [hb.cell]
    simp only [List.size_toArray] at hj
    rw [Array.getElem?_eq_getElem (by omega)]
    rfl
  · obtain ⟨q1, q2⟩ := put_setCells cells i cs w hb
    rw [hn] at q2
    exact h _ q1 q2
section
variable {M : World → Prop} {w : World} {g : Nat} {t : TypeId} {cs : Array Value}
theorem set1 {i : Nat} {v : Value} (b : Blk w g t cs) (h : ∀ X, Put w X g → Blk X g t (cs.setIfInBounds i v) → M X) : M (w.setCell ⟨g, i, none⟩ v) := h _ (Put.set w g i v) (b.set_ i v)
theorem set2 {i j : Nat} {v u : Value} (b : Blk w g t cs) (h : ∀ X, Put w X g → Blk X g t ((cs.setIfInBounds i v).setIfInBounds j u) → M X) : M ((w.setCell ⟨g, i, none⟩ v).setCell ⟨g, j, none⟩ u) :=
  h _ ((Put.set w g i v).trans (Put.set _ g j u)) ((b.set_ i v).set_ j u)
end
end Go.Proofs.YtficeebbbkmhcaaGreatDoor
namespace Go.Proofs.YtficeebbbkmhcaaGreatDoor
open Go.RowKit

/-! ### Rows of the call's own -/
theorem Blk.kept {w w' : World} {g : Nat} {t : TypeId} {cs : Array Value} {row : Option Nat} (h : Blk w g t cs) (hg : w.grownBy w' row) (hne : some g ≠ row) : Blk w' g t cs := (hg.block g h.lt hne).trans h
end Go.Proofs.YtficeebbbkmhcaaGreatDoor
namespace Go.Proofs.YtficeebbbkmhcaaGreatDoor
open Go.RowKit
attribute [local go_sem] Oper.semAt_some

end Go.Proofs.YtficeebbbkmhcaaGreatDoor
namespace Go.Proofs.YtficeebbbkmhcaaGreatDoor
open Go.RowKit

theorem grown_below {w a b : World} {row : Option Nat} (h : w.grownBy a row) (k : Below a.heap.size a b) : w.grownBy b row :=
  ⟨k.os.trans h.os, k.tape.trans h.tape, k.output.trans h.output, Nat.le_trans h.size k.size, fun i hi hr => (k.block i (Nat.lt_of_lt_of_le hi h.size)).trans (h.block i hi hr)⟩
theorem grown_set {w a : World} {B i : Nat} {v : Value} (h : w.grownBy a (some B)) : w.grownBy (a.setCell ⟨B, i, none⟩ v) (some B) :=
  ⟨h.os, h.tape, h.output, by simpa using h.size, fun k hk hr => (Below.heap_setCell a ⟨B, i, none⟩ v k (fun e => hr (by rw [e]))).trans (h.block k hk hr)⟩
end Go.Proofs.YtficeebbbkmhcaaGreatDoor
namespace Go.Proofs.YtficeebbbkmhcaaGreatDoor
open Go.RowKit

def Stop (p : Prop) : Prop := p
theorem stop_in {p : Prop} (h : Stop p) : p := h
theorem stop_out {p : Prop} (h : p) : Stop p := h
theorem grown_blk {X W : World} {row : Option Nat} {b : Nat} {t : TypeId} {cs : Array Value} (h : X.grownBy W row) (hb : Blk X b t cs) (hne : some b ≠ row) : Blk W b t cs := (h.block b hb.lt hne).trans hb
theorem grown_refl (X : World) (row : Option Nat) : X.grownBy X row := ⟨rfl, rfl, rfl, Nat.le_refl _, fun _ _ _ => rfl⟩
theorem grown_b {B g : Nat} {A X W : World} (h : Below B A X) (k : X.grownBy W (some g)) (hB : B ≤ X.heap.size) (hg : B ≤ g) : Below B A W := h.grown k hB (fun i e => by cases e; exact hg)
def OwnAt (X : World) (g0 : Nat) (v : Value) : Prop := ∀ g, v.ownBlock = some g → g = g0 ∨ X.heap.size ≤ g
theorem OwnAt.ne {X : World} {g0 : Nat} {v : Value} {b : Nat} (h : OwnAt X g0 v) (hb : b < X.heap.size) (hne : b ≠ g0) : some b ≠ v.ownBlock := fun e => by
  rcases h b e.symm with h | h
  · exact hne h
  · omega
theorem wpList_appB {P : Program} {ops : Array Oper} {rest : List Oper} {o : Oper} {a : Act} {Q : Exit → Act → World → Prop} {X : World} {base k m lo hi2 size bytes : Nat} {t e : TypeId} {i : TypeInfo} {z : Value} {cl cs : List Value} {u v2 : Value} (hgd : o.guard = none) (s x : Operand)
    (ho : o.op = .call { callee := .builtin .append, args := #[s, x], argTypes := #[t, t] }) (ht : P.underlying t = some (.slice e)) (hi : P.info? e = some i) (hz : i.zero = some z) (hsize : i.size = size) (hby : i.bytes = bytes) (hzs : z.cells.size = size) (hsz : 0 < size)
    (h1 : ∀ u ∈ cl, u.oneCell' = true) (hs : a.eval s = u) (hx : a.eval x = v2) (hr : Rd lo hi2 size X v2 m cl) (hown : X.ownsRow base e size u k cs) (hk : k + m ≤ maxLen) (hk2 : (k + m) * bytes ≤ 140737488355328) (hbase : base ≤ X.heap.size)
    (h : ∀ v' w', w'.ownsRow base e size v' (k + m) (cs ++ cl) → X.grownBy w' u.ownBlock → Below base X w' → wpList P ops Q rest (a.put o.dst v') w') : wpList P ops Q (o :: rest) a X := by
  by_cases hm : m = 0
  · subst hm
    have hcl : cl = [] := List.eq_nil_of_length_eq_zero (by rw [hr.1]; omega)
    subst hcl
    obtain ⟨A2, cap2, rfl⟩ := hr.len
    obtain ⟨A, cap, hu, hc⟩ : ∃ A cap, u = .slice A k cap ∧ k ≤ cap := by
      rcases hown.2 with ⟨rfl, rfl⟩ | ⟨g, cap, cur, rfl, _, _, q, _⟩
      · exact ⟨none, 0, rfl, Nat.le_refl _⟩
      · exact ⟨_, cap, rfl, q⟩
    have hlc : ∀ (b : Addr) (W : World), (loadCells b 0).run P W = .ok #[] W := fun b W => run_loadCells_list (P := P) W b [] (fun j v hv => by simp at hv)
    have src : Src P i.size t (.slice A2 0 cap2) 0 [] X := ⟨.inl ⟨e, ht⟩, fun w' => by simp [Builtin.lenOf], by cases A2 <;> simp [Builtin.firstCells, hlc], by cases A2 <;> simp [Builtin.firstCells, hlc], by simp, fun u hu => by cases hu⟩
    have hrun := run_append_nothing (P := P) X t t o.type e i ht hi A k cap hc (.slice A2 0 cap2) src
    refine wpList_plain hgd fun K hK => ?_
    unfold Oper.wp execOp
    rw [hu] at hs
    simp only [ho, resolve, invoke, builtin, Sem.run_bind, Sem.run_pure, Result.andThen_ok, List.map_toArray, List.map_cons, List.map_nil, hs, hx, hrun]
    rw [← hu]
    exact hK _ _ (h u X (by simpa using hown) (grown_refl _ _) (Below.refl _ _))
  · obtain ⟨g, off, cap2, rfl, _, _, _, _, hcells⟩ := hr.form (by omega)
    refine wpList_append_own _ hgd s x t ho base e i z size bytes ht hi hz hsize hby hzs hsz u k cs hs hown ⟨g, off, none⟩ m cap2 cl hx hr.1 (fun j v hv => by rw [Addr.add_mid]; exact hcells j v hv) h1 hk hk2 hbase ?_
    intro v' w' hown' hgrow _
    exact h v' w' hown' hgrow ((Below.refl _ _).grown hgrow hbase (fun g hg => (own_block hown hg).1))
def Kept (lo hi : Nat) (w w' : World) : Prop := ∀ k, lo ≤ k → k < hi → w'.heap[k]? = w.heap[k]?
theorem Kept.refl (lo hi : Nat) (w : World) : Kept lo hi w w := fun _ _ _ => rfl
theorem Kept.trans {lo hi : Nat} {a b c : World} (h : Kept lo hi a b) (k : Kept lo hi b c) : Kept lo hi a c := fun i h1 h2 => (k i h1 h2).trans (h i h1 h2)
theorem Kept.of_below {lo hi : Nat} {a b : World} (h : Below a.heap.size a b) (hh : hi ≤ a.heap.size) : Kept lo hi a b := fun i _ h2 => h.block i (Nat.lt_of_lt_of_le h2 hh)
def Outside (lo hi : Nat) (v : Value) : Prop := ∀ b, v.ownBlock = some b → b < lo ∨ hi ≤ b
theorem Kept.of_grown {lo hi : Nat} {a b : World} {v : Value} (h : a.grownBy b v.ownBlock) (ho : Outside lo hi v) (hh : hi ≤ a.heap.size) : Kept lo hi a b := fun i h1 h2 => h.block i (Nat.lt_of_lt_of_le h2 hh) (fun e => by
  rcases ho i e.symm with h | h <;> omega)
theorem Outside.next {lo hi : Nat} {u v : Value} {X : World} (ho : Outside lo hi u) (h : v.ownBlock = u.ownBlock ∨ v.ownBlock = some X.heap.size) (hh : hi ≤ X.heap.size) : Outside lo hi v := fun b hb => by
  rcases h with h | h
  · exact ho b (by rw [← h]; exact hb)
  · rw [h] at hb; cases hb; exact .inr hh
theorem rd_kept {lo hi size n : Nat} {v : Value} {cs : List Value} {a b : World} (h : Rd lo hi size a v n cs) (k : Kept lo hi a b) (hs : a.heap.size ≤ b.heap.size) : Rd lo hi size b v n cs := h.other hs fun g h1 h2 _ => k g h1 h2
theorem wpList_app3 {P : Program} {ops : Array Oper} {rest : List Oper} {o : Oper} {a : Act} {Q : Exit → Act → World → Prop} {X : World} {n base k size bytes : Nat} {t e : TypeId} {i : TypeInfo} {z : Value} {cl cs : List Value} {u : Value} (hgd : o.guard = none) (s x : Operand)
    (ho : o.op = .call { callee := .builtin .append, args := #[s, x], argTypes := #[t, t] }) (ht : P.underlying t = some (.slice e)) (hi : P.info? e = some i) (hz : i.zero = some z) (hsize : i.size = size) (hby : i.bytes = bytes) (hzs : z.cells.size = size) (hsz : 0 < size)
    (hcl : cl.length = 1 * size) (h1 : ∀ u ∈ cl, u.oneCell' = true) (hs : a.eval s = u) (hx : a.eval x = .slice (some ⟨n, 0, none⟩) 1 1) (hown : X.ownsRow base e size u k cs) (hsrc : Blk X n e cl.toArray) (hk : k + 1 ≤ maxLen) (hk2 : (k + 1) * bytes ≤ 140737488355328) (hbase : base ≤ X.heap.size)
    (h : ∀ v' w', w'.ownsRow base e size v' (k + 1) (cs ++ cl) → X.grownBy w' u.ownBlock → Below base X w' → (v'.ownBlock = u.ownBlock ∨ v'.ownBlock = some X.heap.size) → wpList P ops Q rest (a.put o.dst v') w') : wpList P ops Q (o :: rest) a X := by
  refine wpList_append_own_at X hgd s x t ho base e i z size bytes ht hi hz hsize hby hzs hsz u k cs hs hown ⟨n, 0, none⟩ 1 1 cl hx hcl (blk_news hsrc) h1 hk hk2 hbase ?_
  intro v' w' hown' hgrow _ hat'
  exact h v' w' hown' hgrow ((Below.refl _ _).grown hgrow hbase (fun g hg => (own_block hown hg).1)) hat'
end Go.Proofs.YtficeebbbkmhcaaGreatDoor
