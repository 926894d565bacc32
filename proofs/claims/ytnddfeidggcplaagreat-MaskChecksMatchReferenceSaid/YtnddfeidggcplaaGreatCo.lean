/-
  The coefficients of the wiring polynomials: what they are, and the reference that reckons them.
-/
import Derived.Test.YtnddfeidggcplaaGreatGt
namespace Go.Proofs.YtnddfeidggcplaaGreat
open Go.RowKit

/-! ### Sums -/
def esum : List E → E
  | [] => 0
  | x :: l => x + esum l
theorem esum_append : ∀ l l' : List E, esum (l ++ l') = esum l + esum l'
  | [], l' => (E.zero_add _).symm
  | x :: l, l' => by rw [List.cons_append, esum, esum, esum_append l l', E.add_assoc]
def gk (g : Gt) : Nat → Fp
  | 0 => g.c
  | 1 => g.a
  | 2 => g.b
  | _ => g.d
def wgt (p q : List E) (t : Gt × E) : E := t.2 * (eqi t.1.L p * eqi t.1.R q)
def coefN (p q : List E) (gs : List Gt) (us : List E) (k j : Nat) : E := esum (((gs.zip us).take j).map fun t => wgt p q t * eb (gk t.1 k))
def coef (p q : List E) (gs : List Gt) (us : List E) (k : Nat) : E := esum ((gs.zip us).map fun t => wgt p q t * eb (gk t.1 k))
def coefs (p q : List E) (gs : List Gt) (us : List E) : List E := (List.range 4).map (coef p q gs us)
theorem coefN_succ (p q : List E) (gs : List Gt) (us : List E) (k j : Nat) (g : Gt) (u : E) (hg : gs[j]? = some g) (hu : us[j]? = some u) : coefN p q gs us k (j + 1) = coefN p q gs us k j + wgt p q (g, u) * eb (gk g k) := by
  unfold coefN
  have hz : (gs.zip us)[j]? = some (g, u) := by rw [List.getElem?_zip_eq_some]; exact ⟨hg, hu⟩
  rw [List.take_add_one, hz, List.map_append, esum_append]
  simp [esum, E.add_zero]
theorem coefN_all (p q : List E) (gs : List Gt) (us : List E) (k : Nat) : coefN p q gs us k gs.length = coef p q gs us k := by
  unfold coefN coef
  rw [List.take_of_length_le]
  rw [List.length_zip]
  omega

/-! ### Lists that are turned one by one -/
def mixL (n : Nat) (new old : Nat → E) (k : Nat) : List E := (List.range n).map fun i => if i < k then new i else old i
theorem mixL_len (n : Nat) (new old : Nat → E) (k : Nat) : (mixL n new old k).length = n := by simp [mixL]
theorem mixL_get (n : Nat) (new old : Nat → E) (k : Nat) (h : k < n) : (mixL n new old k)[k]? = some (old k) := by simp [mixL, h]
theorem mixL_set (n : Nat) (new old : Nat → E) (k : Nat) : (mixL n new old k).set k (new k) = mixL n new old (k + 1) := by
  apply List.ext_getElem?
  intro i
  rw [List.getElem?_set]
  unfold mixL
  by_cases h : k = i
  · subst h
    by_cases hn : k < n <;> simp [hn]
  · rw [if_neg h]
    by_cases hn : i < n
    · simp only [List.getElem?_map, List.getElem?_range hn, Option.map_some]
      by_cases h2 : i < k
      · rw [if_pos h2, if_pos (by omega)]
      · rw [if_neg h2, if_neg (by omega)]
    · simp [hn]
theorem mixL_zero (n : Nat) (new old : Nat → E) : mixL n new old 0 = (List.range n).map old := by simp [mixL]
theorem mixL_all (n : Nat) (new old : Nat → E) : mixL n new old n = (List.range n).map new := by
  unfold mixL
  refine List.map_congr_left fun i hi => ?_
  rw [if_pos (List.mem_range.1 hi)]
theorem set_flat (x : E) : ∀ (cs : List E) (k : Nat), k < cs.length → ((cs.flatMap ec).set (k * 2) (.int .u64 (fv x.a))).set (k * 2 + 1) (.int .u64 (fv x.b)) = (cs.set k x).flatMap ec
  | [], k, h => absurd h (by simp)
  | y :: cs, 0, _ => rfl
  | y :: cs, k + 1, h => by
    have e1 : (k + 1) * 2 = k * 2 + 1 + 1 := by omega
    have ih := set_flat x cs k (by simpa using h)
    rw [List.flatMap_cons, List.set_cons_succ, List.flatMap_cons, ← ih, e1]
    rfl
section
variable {w : World} {g : Nat} {t : TypeId} {cs : List E}
theorem blk_setE (h : Blk w g t (cs.flatMap ec).toArray) (k : Nat) (x : E) (hk : k < cs.length) : Blk ((w.setCell ⟨g, k * 2, none⟩ (.int .u64 (fv x.a))).setCell ⟨g, k * 2 + 1, none⟩ (.int .u64 (fv x.b))) g t ((cs.set k x).flatMap ec).toArray := by
  have := (h.set_ (k * 2) (.int .u64 (fv x.a))).set_ (k * 2 + 1) (.int .u64 (fv x.b))
  rw [← set_flat x cs k hk]
  simpa using this
theorem blk_cellE (h : Blk w g t (cs.flatMap ec).toArray) {k : Nat} {x : E} (hk : cs[k]? = some x) : w.cell? ⟨g, k * 2, none⟩ = some (.int .u64 (fv x.a)) ∧ w.cell? ⟨g, k * 2 + 1, none⟩ = some (.int .u64 (fv x.b)) := by
  have e0 := flat_get ec_len cs k 0 x _ hk rfl
  have e1 := flat_get ec_len cs k 1 x _ hk rfl
  refine ⟨?_, ?_⟩
  · rw [h.cell]; simpa using e0
  · rw [h.cell]; simpa using e1
theorem exts_of_blk (h : Blk w g t (cs.flatMap ec).toArray) {lo hi n : Nat} (hn : cs.length = n) (hb : n ≤ 1000000) (hlo : lo ≤ g) (hhi : g < hi) : ExtS lo hi w (.slice (some ⟨g, 0, none⟩) n n) cs := by
  subst hn
  refine ⟨flat_length ec_len cs, by omega, some ⟨g, 0, none⟩, cs.length, rfl, Nat.le_refl _, fun _ => ⟨g, 0, rfl, hlo, hhi, h.lt, fun j u hu => ?_⟩⟩
  rw [Nat.zero_add, h.cell]
  simpa using hu
end

theorem blk_farE {w : World} {g g' i j : Nat} {t : TypeId} {cs : Array Value} {c d : Value} (h : Blk w g t cs) (hne : g ≠ g') : Blk ((w.setCell ⟨g', i, none⟩ c).setCell ⟨g', j, none⟩ d) g t cs := (h.far (p := ⟨g', i, none⟩) hne c).far (p := ⟨g', j, none⟩) hne d
theorem below_setE {N : Nat} {a w : World} {g i j : Nat} {c d : Value} (h : Below N a w) (hN : N ≤ g) : Below N a ((w.setCell ⟨g, i, none⟩ c).setCell ⟨g, j, none⟩ d) := (h.setCell (p := ⟨g, i, none⟩) hN c).setCell (p := ⟨g, j, none⟩) hN d

/-! ### make -/
set_option maxRecDepth 100000 in
theorem ec_getD (n k : Nat) (h : k < n * 2) : ((List.replicate n (0 : E)).flatMap ec)[k]? = some (.int .u64 0) := by
  have hk : k / 2 < n := by omega
  have h1 : (List.replicate n (0 : E))[k / 2]? = some 0 := by simp [hk]
  have e : k = k / 2 * 2 + k % 2 := by omega
  rw [e]
  have : k % 2 = 0 ∨ k % 2 = 1 := by omega
  rcases this with h2 | h2 <;> rw [h2] <;> exact flat_get ec_len _ _ _ _ _ h1 rfl
set_option maxRecDepth 100000 in
theorem mk_ext (n : Nat) (hn : n ≤ 1000000) (w : World) : (Instr.makeSlice 22 (.int .i64 (n : Int)) (.int .i64 (n : Int))).run Tryz.prog w = .ok (.slice (some ⟨w.heap.size, 0, none⟩) n n) (w.alloc (.cells ((List.replicate n (0 : E)).flatMap ec).toArray 30)) := by
  obtain ⟨i0, hi0, hz0, hz1, hz2⟩ := info_parts ext_info
  have h := run_make (P := Tryz.prog) w _ _ i0 _ Tryz.underlying22 hi0 hz0 .i64 .i64 (n : Int) (n : Int) (by omega) (Int.le_refl _) (by rw [hz2]; omega) (by omega)
  rw [h, Int.toNat_natCast, hz1]
  congr 4
  apply Array.ext_getElem?
  intro k
  unfold madeCells
  by_cases hk : k < n * 2
  · have : k % 2 = 0 ∨ k % 2 = 1 := by omega
    simp only [List.getElem?_toArray, ec_getD n k hk, Array.getElem?_map, Value.cells]
    rw [Array.getElem?_range]
    simp only [hk, if_true, Option.map_some]
    rcases this with h2 | h2 <;> simp [h2]
  · rw [Array.getElem?_eq_none (by simp; omega), Array.getElem?_eq_none (by have := flat_length ec_len (List.replicate n (0 : E)); simp only [List.length_replicate] at this; simp only [List.size_toArray, this]; omega)]

/-! ### The reference -/
def gv (g : Gt) : Value := .agg #[.int .i64 g.L, .int .i64 g.R, .int .u64 (fv g.c), .int .u64 (fv g.a), .int .u64 (fv g.b), .int .u64 (fv g.d)]
def Parts (g : Gt) (n m : Nat) (v : Value) (w : World) : Prop := v = .slice (some ⟨n + 1, 0, none⟩) 4 4 ∧ n + 1 < m ∧ Blk w (n + 1) 28 #[.int .u64 (fv g.c), .int .u64 (fv g.a), .int .u64 (fv g.b), .int .u64 (fv g.d)]
def PartsF (n : Nat) (v : Value) : Prop := v = .slice (some ⟨n + 1, 0, none⟩) 4 4
theorem fit_parts {g : Gt} : Fit (Parts g) PartsF := ⟨fun _ _ _ _ _ ⟨h1, h2, h3⟩ hb => ⟨h1, h2, h3.below hb h2⟩, fun _ => ⟨_, rfl⟩, fun _ _ _ _ h => h.1⟩
theorem parts_cell {g : Gt} {n m : Nat} {v : Value} {w : World} (h : Parts g n m v w) (k : Nat) (hk : k < 4) : w.cell? ⟨n + 1, k, none⟩ = some (.int .u64 (fv (gk g k))) := by
  rw [h.2.2.cell]
  have : k = 0 ∨ k = 1 ∨ k = 2 ∨ k = 3 := by omega
  rcases this with rfl | rfl | rfl | rfl <;> rfl
end Go.Proofs.YtnddfeidggcplaaGreat
