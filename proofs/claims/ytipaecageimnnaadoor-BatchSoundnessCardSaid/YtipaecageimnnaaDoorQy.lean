/-
  Slices of the arguments as their reading gives them; a query of a statement of chapter 17; the variable that holds one.
-/
import Derived.Test.YtipaecageimnnaaDoorLaw
import Derived.Test.YtipaecageimnnaaDoorWt
import Derived.Deep.Slices
namespace Go.Proofs.YtipaecageimnnaaDoor
open Go.ChangeShapes Go.WideShapes Go.RowKit

theorem wf_u64 {z : Int} (h : (Lit.int .u64 z).wf = true) : Word z := by
  simp only [Lit.wf, Bool.and_eq_true, decide_eq_true_eq] at h
  have e1 : IntKind.u64.min = 0 := rfl
  have e2 : IntKind.u64.max = 18446744073709551615 := rfl
  rw [e1, e2] at h
  exact ⟨h.1, by omega⟩
theorem wf_i64 {z : Int} (h : (Lit.int .i64 z).wf = true) : Num z := by
  simp only [Lit.wf, Bool.and_eq_true, decide_eq_true_eq] at h
  have e1 : IntKind.i64.min = -9223372036854775808 := rfl
  have e2 : IntKind.i64.max = 9223372036854775807 := rfl
  rw [e1, e2] at h
  exact ⟨h.1, by omega⟩
theorem wf_u8 {z : Int} (h : (Lit.int .u8 z).wf = true) : 0 ≤ z ∧ z < 256 := by
  simp only [Lit.wf, Bool.and_eq_true, decide_eq_true_eq] at h
  have e1 : IntKind.u8.min = 0 := rfl
  have e2 : IntKind.u8.max = 255 := rfl
  rw [e1, e2] at h
  exact ⟨h.1, by omega⟩

theorem okd_int {P : Program} {W : World} {n : Nat} {t : TypeId} {k : IntKind} {cs : List Value} (ht : P.underlying t = some (.int k)) (h : Okd P W n t cs) : ∃ z, cs = [.int k z] ∧ (Lit.int k z).wf = true := by
  cases n with
  | zero => exact h.elim
  | succ n => unfold Okd at h; rw [ht] at h; exact h
def FParts (P : Program) (W : World) (m : Nat) (cs : List Value) : List Field → Prop
  | [] => True
  | f :: fs => Okd P W m f.type ((cs.drop f.offset).take (P.cellsOf f.type)) ∧ FParts P W m cs fs
theorem fparts_of {P : Program} {W : World} {m : Nat} {cs : List Value} : ∀ {fs : List Field}, (∀ (i : Nat) (f : Field), fs[i]? = some f → Okd P W m f.type ((cs.drop f.offset).take (P.cellsOf f.type))) → FParts P W m cs fs
  | [], _ => trivial
  | f :: _, h => ⟨h 0 f rfl, fparts_of fun i g hg => h (i + 1) g (by simpa using hg)⟩
theorem okd_struct {P : Program} {W : World} {n : Nat} {t : TypeId} {fs : List Field} {cs : List Value} (ht : P.underlying t = some (.struct fs.toArray)) (h : Okd P W n t cs) :
    cs.length = P.cellsOf t ∧ ∃ m, FParts P W m cs fs := by
  cases n with
  | zero => exact h.elim
  | succ n => unfold Okd at h; rw [ht] at h; exact ⟨h.1, n, fparts_of fun i f hf => h.2 i f (by simpa using hf)⟩
theorem okd_array {P : Program} {W : World} {n : Nat} {t e : TypeId} {m : Nat} {cs : List Value} (ht : P.underlying t = some (.array m e)) (h : Okd P W n t cs) :
    cs.length = P.cellsOf t ∧ ∃ q, ∀ i, i < m → Okd P W q e ((cs.drop (i * P.cellsOf e)).take (P.cellsOf e)) := by
  cases n with
  | zero => exact h.elim
  | succ n => unfold Okd at h; rw [ht] at h; exact ⟨h.1, n, h.2⟩
/-- A slice of which each element reads as the form says. -/
theorem okd_slice {P : Program} {W : World} {α : Type} (f : α → List Value) (Pp : α → Prop) {size : Nat} (h0 : 0 < size) (hf : ∀ x, (f x).length = size) {n : Nat} {t e : TypeId} {cs : List Value} (ht : P.underlying t = some (.slice e)) (hc : P.cellsOf e = size)
    (hb : 1 ≤ P.bytesOf e) (he : ∀ n cs, Okd P W n e cs → ∃ x, Pp x ∧ cs = f x) (h : Okd P W n t cs) : ∃ v, cs = [v] ∧ ∃ xs : List α, Rd 0 W.heap.size size W v xs.length (xs.flatMap f) ∧ ∀ x ∈ xs, Pp x := by
  cases n with
  | zero => exact h.elim
  | succ n =>
    unfold Okd at h
    rw [ht] at h
    rcases h with rfl | ⟨a, len, cap, rfl, hl, hcap, hel⟩
    · exact ⟨_, rfl, ([] : List α), by simpa using rd_nil 0 W.heap.size size W none 0, fun x hx => absurd hx (by simp)⟩
    · have key : ∀ k, k ≤ len → ∃ xs : List α, xs.length = k ∧ (∀ x ∈ xs, Pp x) ∧ ∀ i x, xs[i]? = some x → W.cells? 0 (a.add (i * size)) size = some (f x) := by
        intro k
        induction k with
        | zero => exact fun _ => ⟨[], rfl, fun x hx => absurd hx (by simp), fun i x hx => absurd hx (by simp)⟩
        | succ k ih =>
          intro hk
          obtain ⟨xs, q1, q2, q3⟩ := ih (by omega)
          obtain ⟨cs', r1, r2⟩ := hel k (by omega)
          obtain ⟨x, r3, rfl⟩ := he _ _ r2
          rw [hc] at r1
          refine ⟨xs ++ [x], by simp [q1], fun y hy => ?_, fun i y hy => ?_⟩
          · rcases List.mem_append.1 hy with h | h
            · exact q2 y h
            · rw [List.mem_singleton.1 h]; exact r3
          · rcases Nat.lt_or_ge i xs.length with hi | hi
            · rw [List.getElem?_append_left hi] at hy; exact q3 i y hy
            · rw [List.getElem?_append_right hi] at hy
              have : i - xs.length = 0 := by
                rcases Nat.eq_zero_or_pos (i - xs.length) with h | h
                · exact h
                · rw [List.getElem?_eq_none (by simp; omega)] at hy; cases hy
              rw [this] at hy
              simp only [List.getElem?_cons_zero, Option.some.injEq] at hy
              subst hy
              rw [show i = k by omega]
              exact r1
      obtain ⟨xs, q1, q2, q3⟩ := key len (Nat.le_refl _)
      refine ⟨_, rfl, xs, ⟨flat_length hf xs, ?_, some a, cap, by rw [q1], by omega, fun hp => ?_⟩, q2⟩
      · have h1 : cap * 1 ≤ cap * P.bytesOf e := Nat.mul_le_mul_left _ hb
        have : reachBytes = 140737488351232 := rfl
        omega
      · obtain ⟨g, off, spot⟩ := a
        have cell : ∀ i x, xs[i]? = some x → ∀ r, r < size → W.cell? (Addr.add ⟨g, off, spot⟩ (i * size + r)) = (f x)[r]? := by
          intro i x hx r hr
          have := (World.cells?_some (q3 i x hx)).2.2 r hr
          rwa [Go.Deep.add_add] at this
        obtain ⟨x0, hx0⟩ : ∃ x, xs[0]? = some x := ⟨xs[0], List.getElem?_eq_getElem hp⟩
        have c0 := cell 0 x0 hx0 0 h0
        rw [List.getElem?_eq_getElem (by rw [hf]; exact h0)] at c0
        simp only [Nat.zero_mul, Nat.add_zero, Addr.add, if_true] at c0
        have hs : spot = none := by
          cases spot with
          | none => rfl
          | some s => simp only [World.cell?] at c0; split at c0 <;> simp at c0
        subst hs
        have hg : g < W.heap.size := by
          rcases Nat.lt_or_ge g W.heap.size with h | h
          · exact h
          · simp only [World.cell?] at c0; rw [Array.getElem?_eq_none h] at c0; cases c0
        refine ⟨g, off, rfl, Nat.zero_le _, hg, hg, fun j u hu => ?_⟩
        have hj : j < xs.length * size := by rw [← flat_length hf xs]; exact (List.getElem?_eq_some_iff.1 hu).1
        have hi : j / size < xs.length := by rw [Nat.div_lt_iff_lt_mul h0]; exact hj
        obtain ⟨x, hx⟩ : ∃ x, xs[j / size]? = some x := ⟨xs[j / size], List.getElem?_eq_getElem hi⟩
        have hr := Nat.mod_lt j h0
        have c1 := cell _ x hx (j % size) hr
        have hjj : j / size * size + j % size = j := Nat.div_add_mod' j size
        rw [hjj] at c1
        have hu2 := flat_get hf xs (j / size) (j % size) x _ hx (List.getElem?_eq_getElem (by rw [hf]; exact hr))
        rw [hjj, hu] at hu2
        rw [List.getElem?_eq_getElem (by rw [hf]; exact hr), ← hu2] at c1
        rw [← c1]
        unfold Addr.add
        by_cases hj0 : j = 0
        · subst hj0; simp
        · simp [hj0]

set_option maxRecDepth 100000 in
theorem okd_raw {W : World} {n : Nat} {cs : List Value} (h : Okd Tryd.prog W n 26 cs) : ∃ x : Raw, (Word x.1 ∧ Word x.2) ∧ cs = rc x := by
  obtain ⟨h1, m, h2⟩ := okd_struct Tryd.underlying26 h
  have c1 : Tryd.prog.cellsOf 26 = 2 := by kernel_rfl
  have c2 : Tryd.prog.cellsOf 24 = 1 := by kernel_rfl
  rw [c1] at h1
  obtain ⟨a, b, rfl⟩ : ∃ a b, cs = [a, b] := by
    match cs, h1 with
    | [a, b], _ => exact ⟨a, b, rfl⟩
  obtain ⟨k0, k1, -⟩ := h2
  simp only [c2, List.drop_zero, List.take_succ_cons, List.take_zero, List.drop_succ_cons] at k0 k1
  obtain ⟨x, e1, e2⟩ := okd_int Tryd.underlying24 k0
  obtain ⟨y, e3, e4⟩ := okd_int Tryd.underlying24 k1
  simp only [List.cons.injEq, and_true] at e1 e3
  subst e1; subst e3
  exact ⟨(x, y), ⟨wf_u64 e2, wf_u64 e4⟩, rfl⟩
theorem okd_raws {W : World} {n : Nat} {cs : List Value} (h : Okd Tryd.prog W n 22 cs) : ∃ v, cs = [v] ∧ ∃ xs : List Raw, RawS 0 W.heap.size W v xs :=
  okd_slice rc _ (by decide) rc_len Tryd.underlying22 (by kernel_rfl) (Nat.le_of_ble_eq_true (by kernel_rfl)) (fun n cs h => okd_raw h) h
/-- The variable that holds one. -/
theorem gOne : Tryd.prog.globalNamed "attestor/mle.one" = some 0 := by kernel_rfl
theorem tOne : (Tryd.prog.globals[0]?).map (·.type) = some 26 := by kernel_rfl
set_option maxRecDepth 100000 in
theorem laid_of {W : World} (h : laidMetH Tryd.prog [("attestor/mle.one", Rows.laid_attestor_mle_one)] W) : Laid W := by
  rw [MakeChecks.laidMetH_plain _ _ _ (by kernel_rfl)] at h
  obtain ⟨ps, ⟨g0, t0, cs0, f0, p0, q0, hg0, ht0, hv0, hd0, _, _⟩, _, _⟩ := h
  obtain rfl := Option.some.inj (gOne.symm.trans hg0)
  obtain rfl := Option.some.inj (tOne.symm.trans ht0)
  obtain ⟨xs, m, _, hx, h1, h2, h3⟩ := DataW.trod_struct Tryd.underlying26 hd0
  have c1 : Tryd.prog.cellsOf 26 = 2 := by kernel_rfl
  have c2 : Tryd.prog.cellsOf 24 = 1 := by kernel_rfl
  rw [c1] at h1
  obtain ⟨l⟩ := cs0
  simp only at h1 h3
  match l, h1, xs, h2, hx, h3 with
  | [a, b], _, [y0, y1], _, hx, h3 =>
    have k0 : DataW.trod (fun _ => ()) Tryd.prog W 0 (fun _ => true) false m 24 (List.take (Tryd.prog.cellsOf 24) (List.drop 0 [a, b])) = some y0 := h3 0 _ rfl
    have k1 : DataW.trod (fun _ => ()) Tryd.prog W 0 (fun _ => true) false m 24 (List.take (Tryd.prog.cellsOf 24) (List.drop 1 [a, b])) = some y1 := h3 1 _ rfl
    rw [c2] at k0 k1
    simp only [List.drop_zero, List.take_succ_cons, List.take_zero, List.drop_succ_cons] at k0 k1
    obtain ⟨x, e1, e2, _⟩ := DataW.trod_int Tryd.underlying24 k0
    obtain ⟨y, e3, e4, _⟩ := DataW.trod_int Tryd.underlying24 k1
    simp only [List.cons.injEq, and_true] at e1 e3
    subst e1; subst e3
    rw [e2, e4] at hx
    simp only [Rows.laid_attestor_mle_one, List.map_cons, List.map_nil, Prod.mk.injEq, DataW.agg.injEq, List.cons.injEq, DataW.lit.injEq, Lit.int.injEq, true_and, and_true] at hx
    obtain ⟨⟨hx1, hx2⟩, _⟩ := hx
    have q1 := World.var?_cell gOne hv0 0
    have q2 := World.var?_cell gOne hv0 1
    simp only [List.getElem?_toArray, List.getElem?_cons_zero, List.getElem?_cons_succ] at q1 q2
    refine ⟨by rw [q1, ← hx1]; rfl, by rw [q2, ← hx2]; rfl, ?_⟩
    rcases Nat.lt_or_ge 0 W.heap.size with h | h
    · exact h
    · simp only [World.cell?] at q1; rw [Array.getElem?_eq_none h] at q1; cases q1
end Go.Proofs.YtipaecageimnnaaDoor
