/-
  Rows of one's own of which a cell is set; copies; what Explain says to rounds that were changed.
-/
import Derived.Test.YtnddfeidggcplaaGreatNm32
namespace Go.Proofs.YtnddfeidggcplaaGreat
open Go.RowKit

/-- A block of one's own whose first cells are known. -/
structure RowU (w : World) (g : Nat) (e : TypeId) (size cap n : Nat) (cs : List Value) : Prop where
  cur : ∃ cur : Array Value, Blk w g e cur ∧ cur.size = cap * size ∧ cur.toList.take (n * size) = cs
  len : cs.length = n * size
  le : n ≤ cap
  cap : cap ≤ maxLen
section
variable {w X : World} {g g' cap n size lo hi base : Nat} {e : TypeId} {cs : List Value}
theorem RowU.of_own {v : Value} (h : w.ownsRow base e size v n cs) (h0 : 0 < n) : ∃ g cap, v = .slice (some ⟨g, 0, none⟩) n cap ∧ base ≤ g ∧ RowU w g e size cap n cs := by
  obtain ⟨h1, h2⟩ := h
  rcases h2 with ⟨_, h3⟩ | ⟨g, cap, cur, rfl, hb, hc, hn, hm, hs, ht⟩
  · omega
  · exact ⟨g, cap, rfl, hb, ⟨cur, hc, hs, ht⟩, h1, hn, hm⟩
theorem RowU.own (h : RowU w g e size cap n cs) (hb : base ≤ g) : w.ownsRow base e size (.slice (some ⟨g, 0, none⟩) n cap) n cs := by
  obtain ⟨cur, q1, q2, q3⟩ := h.cur
  exact ⟨h.len, .inr ⟨g, cap, cur, rfl, hb, q1, h.le, h.cap, q2, q3⟩⟩
theorem RowU.lt (h : RowU w g e size cap n cs) : g < w.heap.size := by
  obtain ⟨cur, q1, _⟩ := h.cur
  exact q1.lt
theorem RowU.keep (h : RowU w g e size cap n cs) (hb : Below w.heap.size w X) : RowU X g e size cap n cs := by
  obtain ⟨cur, q1, q2, q3⟩ := h.cur
  exact ⟨⟨cur, q1.keep hb, q2, q3⟩, h.len, h.le, h.cap⟩
theorem RowU.other (h : RowU w g e size cap n cs) (hp : Put w X g') (hne : g ≠ g') : RowU X g e size cap n cs := by
  obtain ⟨cur, q1, q2, q3⟩ := h.cur
  exact ⟨⟨cur, hp.blk q1 hne, q2, q3⟩, h.len, h.le, h.cap⟩
theorem RowU.grown (h : RowU w g e size cap n cs) {row : Option Nat} (hp : w.grownBy X row) (hne : some g ≠ row) : RowU X g e size cap n cs := by
  obtain ⟨cur, q1, q2, q3⟩ := h.cur
  exact ⟨⟨cur, grown_blk hp q1 hne, q2, q3⟩, h.len, h.le, h.cap⟩
theorem RowU.cell (h : RowU w g e size cap n cs) {j : Nat} {u : Value} (hj : cs[j]? = some u) : w.cell? ⟨g, j, none⟩ = some u := by
  obtain ⟨cur, q1, q2, q3⟩ := h.cur
  rw [q1.cell]
  have hl := (List.getElem?_eq_some_iff.1 hj).1
  rw [← q3, List.getElem?_take] at hj
  by_cases hk : j < n * size
  · rw [if_pos hk] at hj
    simpa using hj
  · rw [if_neg hk] at hj; cases hj
theorem RowU.frozen (h : RowU w g e size cap n cs) (i : Nat) : w.frozen? ⟨g, i, none⟩ = false := by
  obtain ⟨cur, q1, _⟩ := h.cur
  exact q1.frozen i
theorem RowU.set (h : RowU w g e size cap n cs) (j : Nat) (u : Value) : RowU (w.setCell ⟨g, j, none⟩ u) g e size cap n (cs.set j u) := by
  obtain ⟨cur, q1, q2, q3⟩ := h.cur
  refine ⟨⟨cur.setIfInBounds j u, q1.set_ j u, by simpa using q2, ?_⟩, by rw [List.length_set]; exact h.len, h.le, h.cap⟩
  rw [← q3, Array.toList_setIfInBounds, List.take_set]
theorem RowU.rd (h : RowU w g e size cap n cs) (hn : n ≤ 1000000) (hlo : lo ≤ g) (hhi : g < hi) : Rd lo hi size w (.slice (some ⟨g, 0, none⟩) n cap) n cs :=
  ⟨h.len, by omega, _, cap, rfl, h.le, fun _ => ⟨g, 0, rfl, hlo, hhi, h.lt, fun j u hu => by rw [Nat.zero_add]; exact h.cell hu⟩⟩
theorem RowU.tabs {us : List Value} {ts : List (List E)} (h : RowU w g 22 1 cap n us) (ht : ts.length = n) (hn : n ≤ 1000000) (hlo : lo ≤ g) (hhi : g < hi) (el : ∀ (k : Nat) (u : Value) (t : List E), us[k]? = some u → ts[k]? = some t → ExtS lo hi w u t) : TabS lo hi w (.slice (some ⟨g, 0, none⟩) n cap) ts := by
  subst ht
  exact ⟨us, by have := h.len; omega, h.rd hn hlo hhi, el⟩
end
theorem wpList_cp {P : Program} {ops : Array Oper} {rest : List Oper} {o : Oper} {a : Act} {Q : Exit → Act → World → Prop} {W : World} {n lo hi2 size bytes : Nat} {t e : TypeId} {i : TypeInfo} {z : Value} {cl : List Value} {v2 : Value} (hgd : o.guard = none) (s x : Operand)
    (ho : o.op = .call { callee := .builtin .append, args := #[s, x], argTypes := #[t, t] }) (ht : P.underlying t = some (.slice e)) (hi : P.info? e = some i) (hz : i.zero = some z) (hsize : i.size = size) (hby : i.bytes = bytes) (hzs : z.cells.size = size) (hsz : 0 < size)
    (h1 : ∀ u ∈ cl, u.oneCell' = true) (hs : a.eval s = .slice (some ⟨W.heap.size, 0, none⟩) 0 0) (hx : a.eval x = v2) (hr : Rd lo hi2 size W v2 n cl) (h0 : 0 < n) (hn : n ≤ 1000) (hb : bytes ≤ 1000)
    (h : ∀ g cap w', Below W.heap.size W w' → W.heap.size ≤ g → RowU w' g e size cap n cl → wpList P ops Q rest (a.put o.dst (.slice (some ⟨g, 0, none⟩) n cap)) w') : wpList P ops Q (o :: rest) a (W.alloc (.cells #[] e)) := by
  have hal : Below W.heap.size W (W.alloc (.cells #[] e)) := (Below.refl _ _).alloc (Nat.le_refl _) _
  refine wpList_appR (X0 := W.alloc (.cells #[] e)) (g0 := W.heap.size) (base := W.heap.size) (k := 0) (m := n) (cs := []) hgd s x ho ht hi hz hsize hby hzs hsz h1 hs hx (Rd.keep hr hal) ⟨by simp, .inr ⟨W.heap.size, 0, #[], rfl, Nat.le_refl _, World.alloc_heap_new W _, Nat.le_refl _, Nat.zero_le _, by simp, by simp⟩⟩ ownAt_first (grown_refl _ _) (by unfold maxLen; omega)
    (by have : (0 + n) * bytes ≤ 1000 * 1000 := Nat.mul_le_mul (by omega) hb; omega) hal.size fun v' w' hown hat hgr => ?_
  rw [Nat.zero_add, List.nil_append] at hown
  obtain ⟨g, cap, rfl, hg, hu⟩ := RowU.of_own hown h0
  exact h g cap w' (grown_b hal hgr hal.size (Nat.le_refl _)) hg hu

/-! ### Mathematics -/
section
variable (plain rs : List (List E)) (rho : E) (co : List E) (D : Nat) (hl : rs.length = co.length) (hr : ∀ (i : Nat) (g : List E), rs[i]? = some g → g.length = D + 1) (hs : sumOk rs co = true) (hrho : rho ≠ 0)
include hl hrho in
theorem err_short (i : Nat) (hi : i < rs.length) (r : List E) (hrl : r.length ≠ D + 1) : explE plain (rs.set i r) rho co co.length D = ([], 61) := by
  unfold explE
  rw [if_neg (by rw [List.length_set, hl]; simp), if_neg hrho, if_pos]
  rw [List.any_eq_true]
  exact ⟨r, List.mem_set hi r, by unfold badLen; rw [decide_eq_true_eq]; exact hrl⟩
include hl in
theorem err_long (r : List E) : explE plain (rs ++ [r]) rho co co.length D = ([], 1) := by
  unfold explE
  rw [if_pos]
  exact .inl (by rw [List.length_append, hl]; simp)
def wantE (rs : List (List E)) (co : List E) (i : Nat) (b : List E) : Int := if 0 < i ∨ (1 < rs.length ∧ atE b (co.getD 0 0) ≠ atE (rs.getD 0 []) (co.getD 0 0)) then 60 else 0
include hl hr hs hrho in
theorem err_bent (hD : 1 ≤ D) (i : Nat) (g : List E) (hg : rs[i]? = some g) (d : E) (hd : d ≠ 0) : ∃ L, explE plain (rs.set i (g.set 0 (g.getD 0 0 + d))) rho co co.length D = (L, wantE rs co i (g.set 0 (g.getD 0 0 + d))) := by
  have hi : i < rs.length := (List.getElem?_eq_some_iff.1 hg).1
  have hgl := hr i g hg
  obtain ⟨b, hb⟩ : ∃ b, b = g.set 0 (g.getD 0 0 + d) := ⟨_, rfl⟩
  have hbl : b.length = D + 1 := by rw [hb, List.length_set, hgl]
  have hbe : endsE b = endsE g + d := by
    rw [hb]
    unfold endsE
    rw [List.getD_eq_getElem?_getD (l := g.set 0 _), List.getElem?_set_self (by omega), List.getD_eq_getElem?_getD (l := g.set 0 _), List.getElem?_set_ne (by decide), ← List.getD_eq_getElem?_getD]
    show g.getD 0 0 + d + g.getD 1 0 = _
    generalize g.getD 0 0 = x
    generalize g.getD 1 0 = y
    apply E.ext_ <;> simp only [add_a, add_b] <;> grind
  rw [← hb]
  have hself : (rs.set i b).getD i [] = b := by rw [List.getD_eq_getElem?_getD, List.getElem?_set_self hi]; rfl
  have hne : ∀ j, i ≠ j → (rs.set i b).getD j [] = rs.getD j [] := fun j hj => by rw [List.getD_eq_getElem?_getD, List.getElem?_set_ne hj, ← List.getD_eq_getElem?_getD]
  have hgd : rs.getD i [] = g := by rw [List.getD_eq_getElem?_getD, hg]; rfl
  have h0 := (sumOk_true rs co).1 hs
  have key : sumOk (rs.set i b) co = decide (wantE rs co i b = 0) := by
    unfold wantE
    by_cases hi0 : 0 < i
    · rw [if_pos (.inl hi0)]
      rw [show decide ((60 : Int) = 0) = false from rfl, ← Bool.not_eq_true]
      intro h
      have h1 := (sumOk_true _ co).1 h i hi0 (by rw [List.length_set]; exact hi)
      rw [hself, hne (i - 1) (by omega), ← h0 i hi0 hi, hgd, hbe] at h1
      refine hd ?_
      have h2 : endsE g + d - endsE g = endsE g - endsE g := by rw [h1]
      rw [E.sub_self] at h2
      rw [← h2]
      generalize endsE g = x
      apply E.ext_ <;> simp only [add_a, add_b, sub_a, sub_b] <;> grind
    · obtain rfl : i = 0 := by omega
      by_cases hn : 1 < rs.length
      · by_cases hat : atE b (co.getD 0 0) = atE (rs.getD 0 []) (co.getD 0 0)
        · rw [if_neg (by rintro (h | ⟨-, h⟩); exact hi0 h; exact h hat), decide_eq_true rfl, sumOk_true]
          intro j hj0 hj
          rw [List.length_set] at hj
          rw [hne j (by omega)]
          by_cases hj1 : j = 1
          · subst hj1
            rw [show (rs.set 0 b).getD (1 - 1) [] = b from hself, h0 1 (by omega) hj]
            exact hat.symm
          · rw [hne (j - 1) (by omega)]
            exact h0 j hj0 hj
        · rw [if_pos (.inr ⟨hn, hat⟩)]
          rw [show decide ((60 : Int) = 0) = false from rfl, ← Bool.not_eq_true]
          intro h
          have h1 := (sumOk_true _ co).1 h 1 (by omega) (by rw [List.length_set]; exact hn)
          rw [hne 1 (by omega), show (rs.set 0 b).getD (1 - 1) [] = b from hself, h0 1 (by omega) hn] at h1
          exact hat h1.symm
      · rw [if_neg (by rintro (h | ⟨h, -⟩); exact hi0 h; exact hn h), decide_eq_true rfl, sumOk_true]
        intro j hj0 hj
        rw [List.length_set] at hj
        omega
  unfold explE
  rw [if_neg (by rw [List.length_set, hl]; simp), if_neg hrho, any_bad D _ (fun t ht => by
    obtain ⟨k, hk, rfl⟩ := List.mem_iff_getElem.1 ht
    by_cases hki : i = k
    · subst hki
      rw [List.getElem_set_self]
      exact hbl
    · rw [List.getElem_set_ne hki]
      exact hr k _ (List.getElem?_eq_getElem (by rw [List.length_set] at hk; exact hk))), if_neg (by simp), key]
  by_cases hw : wantE rs co i b = 0
  · rw [decide_eq_true hw, if_pos rfl, hw]
    exact ⟨_, rfl⟩
  · rw [decide_eq_false hw, if_neg (by simp)]
    refine ⟨_, Prod.ext rfl ?_⟩
    unfold wantE at hw ⊢
    split at hw
    · rename_i h
      rw [if_pos h]
    · exact absurd rfl hw
end
end Go.Proofs.YtnddfeidggcplaaGreat
