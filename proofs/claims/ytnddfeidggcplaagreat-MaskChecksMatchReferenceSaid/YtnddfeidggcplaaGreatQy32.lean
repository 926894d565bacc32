/-
  Slices of the arguments as their reading gives them; a query of a statement of chapter 17; the variable that holds one.
  A pair of elements as a parameter.
  The raw description of a sum as the reading of the arguments gives it.
  Slices of slices as the reading of the arguments gives them.
  A query of chapter 32 as the reading of the arguments gives it.
-/
import Derived.Test.YtnddfeidggcplaaGreatLaw0
import Derived.Test.YtnddfeidggcplaaGreatWt2
import Derived.Deep.Slices
import Derived.Test.YtnddfeidggcplaaGreatMd32
namespace Go.Proofs.YtnddfeidggcplaaGreat
open Go.ChangeShapes Go.WideShapes Go.RowKit

theorem wf_u64 {z : Int} (h : (Lit.int .u64 z).wf = true) : Word z := by
  simp only [Lit.wf, Bool.and_eq_true, decide_eq_true_eq] at h
  have e1 : IntKind.u64.min = 0 := rfl
  have e2 : IntKind.u64.max = 18446744073709551615 := rfl
  rw [e1, e2] at h
  exact ⟨h.1, by omega⟩
theorem wf_i64 {z : Int} (h : (Lit.int .i64 z).wf = true) : Num z := by
  simp only [Lit.wf, Bool.and_eq_true, decide_eq_true_eq] at h
  have e1 : IntKind.i64.min = -9223372036854775808 := rfl
  have e2 : IntKind.i64.max = 9223372036854775807 := rfl
  rw [e1, e2] at h
  exact ⟨h.1, by omega⟩
theorem wf_u8 {z : Int} (h : (Lit.int .u8 z).wf = true) : 0 ≤ z ∧ z < 256 := by
  simp only [Lit.wf, Bool.and_eq_true, decide_eq_true_eq] at h
  have e1 : IntKind.u8.min = 0 := rfl
  have e2 : IntKind.u8.max = 255 := rfl
  rw [e1, e2] at h
  exact ⟨h.1, by omega⟩

theorem okd_int {P : Program} {W : World} {n : Nat} {t : TypeId} {k : IntKind} {cs : List Value} (ht : P.underlying t = some (.int k)) (h : Okd P W n t cs) : ∃ z, cs = [.int k z] ∧ (Lit.int k z).wf = true := by
  cases n with
  | zero => exact h.elim
  | succ n => unfold Okd at h; rw [ht] at h; exact h
def FParts (P : Program) (W : World) (m : Nat) (cs : List Value) : List Field → Prop
  | [] => True
  | f :: fs => Okd P W m f.type ((cs.drop f.offset).take (P.cellsOf f.type)) ∧ FParts P W m cs fs
theorem fparts_of {P : Program} {W : World} {m : Nat} {cs : List Value} : ∀ {fs : List Field}, (∀ (i : Nat) (f : Field), fs[i]? = some f → Okd P W m f.type ((cs.drop f.offset).take (P.cellsOf f.type))) → FParts P W m cs fs
  | [], _ => trivial
  | f :: _, h => ⟨h 0 f rfl, fparts_of fun i g hg => h (i + 1) g (by simpa using hg)⟩
theorem okd_struct {P : Program} {W : World} {n : Nat} {t : TypeId} {fs : List Field} {cs : List Value} (ht : P.underlying t = some (.struct fs.toArray)) (h : Okd P W n t cs) :
    cs.length = P.cellsOf t ∧ ∃ m, FParts P W m cs fs := by
  cases n with
  | zero => exact h.elim
  | succ n => unfold Okd at h; rw [ht] at h; exact ⟨h.1, n, fparts_of fun i f hf => h.2 i f (by simpa using hf)⟩
theorem okd_array {P : Program} {W : World} {n : Nat} {t e : TypeId} {m : Nat} {cs : List Value} (ht : P.underlying t = some (.array m e)) (h : Okd P W n t cs) :
    cs.length = P.cellsOf t ∧ ∃ q, ∀ i, i < m → Okd P W q e ((cs.drop (i * P.cellsOf e)).take (P.cellsOf e)) := by
  cases n with
  | zero => exact h.elim
  | succ n => unfold Okd at h; rw [ht] at h; exact ⟨h.1, n, h.2⟩
/-- A slice of which each element reads as the form says. -/
theorem okd_slice {P : Program} {W : World} {α : Type} (f : α → List Value) (Pp : α → Prop) {size : Nat} (h0 : 0 < size) (hf : ∀ x, (f x).length = size) {n : Nat} {t e : TypeId} {cs : List Value} (ht : P.underlying t = some (.slice e)) (hc : P.cellsOf e = size)
    (hb : 1 ≤ P.bytesOf e) (he : ∀ n cs, Okd P W n e cs → ∃ x, Pp x ∧ cs = f x) (h : Okd P W n t cs) : ∃ v, cs = [v] ∧ ∃ xs : List α, Rd 0 W.heap.size size W v xs.length (xs.flatMap f) ∧ ∀ x ∈ xs, Pp x := by
  cases n with
  | zero => exact h.elim
  | succ n =>
    unfold Okd at h
    rw [ht] at h
    rcases h with rfl | ⟨a, len, cap, rfl, hl, hcap, hel⟩
    · exact ⟨_, rfl, ([] : List α), by simpa using rd_nil 0 W.heap.size size W none 0, fun x hx => absurd hx (by simp)⟩
    · have key : ∀ k, k ≤ len → ∃ xs : List α, xs.length = k ∧ (∀ x ∈ xs, Pp x) ∧ ∀ i x, xs[i]? = some x → W.cells? 0 (a.add (i * size)) size = some (f x) := by
        intro k
        induction k with
        | zero => exact fun _ => ⟨[], rfl, fun x hx => absurd hx (by simp), fun i x hx => absurd hx (by simp)⟩
        | succ k ih =>
          intro hk
          obtain ⟨xs, q1, q2, q3⟩ := ih (by omega)
          obtain ⟨cs', r1, r2⟩ := hel k (by omega)
          obtain ⟨x, r3, rfl⟩ := he _ _ r2
          rw [hc] at r1
          refine ⟨xs ++ [x], by simp [q1], fun y hy => ?_, fun i y hy => ?_⟩
          · rcases List.mem_append.1 hy with h | h
            · exact q2 y h
            · rw [List.mem_singleton.1 h]; exact r3
          · rcases Nat.lt_or_ge i xs.length with hi | hi
            · rw [List.getElem?_append_left hi] at hy; exact q3 i y hy
            · rw [List.getElem?_append_right hi] at hy
              have : i - xs.length = 0 := by
                rcases Nat.eq_zero_or_pos (i - xs.length) with h | h
                · exact h
                · rw [List.getElem?_eq_none (by simp; omega)] at hy; cases hy
              rw [this] at hy
              simp only [List.getElem?_cons_zero, Option.some.injEq] at hy
              subst hy
              rw [show i = k by omega]
              exact r1
      obtain ⟨xs, q1, q2, q3⟩ := key len (Nat.le_refl _)
      refine ⟨_, rfl, xs, ⟨flat_length hf xs, ?_, some a, cap, by rw [q1], by omega, fun hp => ?_⟩, q2⟩
      · have h1 : cap * 1 ≤ cap * P.bytesOf e := Nat.mul_le_mul_left _ hb
        have : reachBytes = 140737488351232 := rfl
        omega
      · obtain ⟨g, off, spot⟩ := a
        have cell : ∀ i x, xs[i]? = some x → ∀ r, r < size → W.cell? (Addr.add ⟨g, off, spot⟩ (i * size + r)) = (f x)[r]? := by
          intro i x hx r hr
          have := (World.cells?_some (q3 i x hx)).2.2 r hr
          rwa [Go.Deep.add_add] at this
        obtain ⟨x0, hx0⟩ : ∃ x, xs[0]? = some x := ⟨xs[0], List.getElem?_eq_getElem hp⟩
        have c0 := cell 0 x0 hx0 0 h0
        rw [List.getElem?_eq_getElem (by rw [hf]; exact h0)] at c0
        simp only [Nat.zero_mul, Nat.add_zero, Addr.add, if_true] at c0
        have hs : spot = none := by
          cases spot with
          | none => rfl
          | some s => simp only [World.cell?] at c0; split at c0 <;> simp at c0
        subst hs
        have hg : g < W.heap.size := by
          rcases Nat.lt_or_ge g W.heap.size with h | h
          · exact h
          · simp only [World.cell?] at c0; rw [Array.getElem?_eq_none h] at c0; cases c0
        refine ⟨g, off, rfl, Nat.zero_le _, hg, hg, fun j u hu => ?_⟩
        have hj : j < xs.length * size := by rw [← flat_length hf xs]; exact (List.getElem?_eq_some_iff.1 hu).1
        have hi : j / size < xs.length := by rw [Nat.div_lt_iff_lt_mul h0]; exact hj
        obtain ⟨x, hx⟩ : ∃ x, xs[j / size]? = some x := ⟨xs[j / size], List.getElem?_eq_getElem hi⟩
        have hr := Nat.mod_lt j h0
        have c1 := cell _ x hx (j % size) hr
        have hjj : j / size * size + j % size = j := Nat.div_add_mod' j size
        rw [hjj] at c1
        have hu2 := flat_get hf xs (j / size) (j % size) x _ hx (List.getElem?_eq_getElem (by rw [hf]; exact hr))
        rw [hjj, hu] at hu2
        rw [List.getElem?_eq_getElem (by rw [hf]; exact hr), ← hu2] at c1
        rw [← c1]
        unfold Addr.add
        by_cases hj0 : j = 0
        · subst hj0; simp
        · simp [hj0]

set_option maxRecDepth 100000 in
theorem okd_raw {W : World} {n : Nat} {cs : List Value} (h : Okd Tryz.prog W n 30 cs) : ∃ x : Raw, (Word x.1 ∧ Word x.2) ∧ cs = rc x := by
  obtain ⟨h1, m, h2⟩ := okd_struct Tryz.underlying30 h
  have c1 : Tryz.prog.cellsOf 30 = 2 := by kernel_rfl
  have c2 : Tryz.prog.cellsOf 28 = 1 := by kernel_rfl
  rw [c1] at h1
  obtain ⟨a, b, rfl⟩ : ∃ a b, cs = [a, b] := by
    match cs, h1 with
    | [a, b], _ => exact ⟨a, b, rfl⟩
  obtain ⟨k0, k1, -⟩ := h2
  simp only [c2, List.drop_zero, List.take_succ_cons, List.take_zero, List.drop_succ_cons] at k0 k1
  obtain ⟨x, e1, e2⟩ := okd_int Tryz.underlying28 k0
  obtain ⟨y, e3, e4⟩ := okd_int Tryz.underlying28 k1
  simp only [List.cons.injEq, and_true] at e1 e3
  subst e1; subst e3
  exact ⟨(x, y), ⟨wf_u64 e2, wf_u64 e4⟩, rfl⟩
theorem okd_raws {W : World} {n : Nat} {cs : List Value} (h : Okd Tryz.prog W n 22 cs) : ∃ v, cs = [v] ∧ ∃ xs : List Raw, RawS 0 W.heap.size W v xs :=
  okd_slice rc _ (by decide) rc_len Tryz.underlying22 (by kernel_rfl) (Nat.le_of_ble_eq_true (by kernel_rfl)) (fun n cs h => okd_raw h) h
end Go.Proofs.YtnddfeidggcplaaGreat
namespace Go.Proofs.YtnddfeidggcplaaGreat
open Go.RowKit Go.ChangeShapes Go.WideShapes

theorem okWide_array {P : Program} {w : World} {r : Reach} {base : Nat} {t e : TypeId} {m : Nat} {v : Value} (ht : P.underlying t = some (.array m e)) (h : Value.okWide P w r base t v) : ∃ cs, v = .agg cs ∧ cs.size = P.cellsOf t := by
  simp only [Value.okWide, ht] at h
  obtain ⟨cs, h1, h2, _⟩ := h
  exact ⟨cs, h1, h2⟩
end Go.Proofs.YtnddfeidggcplaaGreat
namespace Go.Proofs.YtnddfeidggcplaaGreat
open Go.ChangeShapes Go.WideShapes Go.RowKit

structure Raw6S (w : World) (q : Raw6) (A : Nat → Option Addr) (cc : Nat → Nat) (AL : Option Addr) (cL : Nat) : Prop where
  T : ∀ k, k < 3 → RawS 0 w.heap.size w (.slice (A k) (q.T k).length (cc k)) (q.T k)
  L : TRawS 0 w.heap.size w (.slice AL q.L.length cL) q.L
  N : Byte q.N

set_option maxRecDepth 100000 in
theorem okd_term {W : World} {n : Nat} {cs : List Value} (h : Okd Tryz.prog W n 125 cs) : ∃ x : TRaw, x.ok ∧ cs = trawc x := by
  obtain ⟨h1, m, h2⟩ := okd_struct Tryz.underlying125 h
  have c1 : Tryz.prog.cellsOf 125 = 6 := by kernel_rfl
  have c2 : Tryz.prog.cellsOf 5 = 1 := by kernel_rfl
  have c3 : Tryz.prog.cellsOf 30 = 2 := by kernel_rfl
  have c4 : Tryz.prog.cellsOf 123 = 3 := by kernel_rfl
  rw [c1] at h1
  obtain ⟨a, b, c, d, e, f, rfl⟩ : ∃ a b c d e f, cs = [a, b, c, d, e, f] := by
    match cs, h1 with
    | [a, b, c, d, e, f], _ => exact ⟨a, b, c, d, e, f, rfl⟩
  obtain ⟨k0, k1, k2, -⟩ := h2
  simp only [c2, c3, c4, List.drop_zero, List.take_succ_cons, List.take_zero, List.drop_succ_cons] at k0 k1 k2
  obtain ⟨r, hr, er⟩ := okd_raw k0
  obtain ⟨-, m2, h3⟩ := okd_array Tryz.underlying123 k1
  have g0 := h3 0 (by decide)
  have g1 := h3 1 (by decide)
  have g2 := h3 2 (by decide)
  rw [c2] at g0 g1 g2
  simp only [Nat.zero_mul, Nat.one_mul, Nat.mul_one, List.drop_zero, List.take_succ_cons, List.take_zero, List.drop_succ_cons] at g0 g1 g2
  obtain ⟨x0, e0, w0⟩ := okd_int Tryz.underlying5 g0
  obtain ⟨x1, e1, w1⟩ := okd_int Tryz.underlying5 g1
  obtain ⟨x2, e2, w2⟩ := okd_int Tryz.underlying5 g2
  obtain ⟨y, e3, w3⟩ := okd_int Tryz.underlying5 k2
  simp only [rc, List.cons.injEq, and_true] at er e0 e1 e2 e3
  obtain ⟨er1, er2⟩ := er
  subst er1; subst er2; subst e0; subst e1; subst e2; subst e3
  refine ⟨⟨r, fun k => if k = 0 then x0 else if k = 1 then x1 else x2, y⟩, ⟨hr.1, hr.2, fun k hk => ?_, wf_u8 w3⟩, rfl⟩
  have a0 := wf_u8 w0
  have a1 := wf_u8 w1
  have a2 := wf_u8 w2
  show Byte (if k = 0 then x0 else if k = 1 then x1 else x2)
  unfold Byte
  by_cases h0 : k = 0
  · rw [if_pos h0]; exact a0
  · rw [if_neg h0]
    by_cases h1 : k = 1
    · rw [if_pos h1]; exact a1
    · rw [if_neg h1]; exact a2
theorem okd_terms {W : World} {n : Nat} {cs : List Value} (h : Okd Tryz.prog W n 24 cs) : ∃ v, cs = [v] ∧ ∃ xs : List TRaw, TRawS 0 W.heap.size W v xs :=
  okd_slice trawc _ (by decide) trawc_len Tryz.underlying24 (by kernel_rfl) (Nat.le_of_ble_eq_true (by kernel_rfl)) (fun n cs h => okd_term h) h
set_option maxRecDepth 100000 in
theorem okd_raw6 {W : World} {n : Nat} {cs : List Value} (h : Okd Tryz.prog W n 26 cs) :
    ∃ (q : Raw6) (A : Nat → Option Addr) (cc : Nat → Nat) (AL : Option Addr) (cL : Nat), cs = [.slice (A 0) (q.T 0).length (cc 0), .slice (A 1) (q.T 1).length (cc 1), .slice (A 2) (q.T 2).length (cc 2), .slice AL q.L.length cL, .int .u8 q.N] ∧ Raw6S W q A cc AL cL := by
  obtain ⟨h1, m, h2⟩ := okd_struct Tryz.underlying26 h
  have c1 : Tryz.prog.cellsOf 26 = 5 := by kernel_rfl
  have c2 : Tryz.prog.cellsOf 5 = 1 := by kernel_rfl
  have c3 : Tryz.prog.cellsOf 23 = 3 := by kernel_rfl
  have c4 : Tryz.prog.cellsOf 24 = 1 := by kernel_rfl
  have c5 : Tryz.prog.cellsOf 22 = 1 := by kernel_rfl
  rw [c1] at h1
  obtain ⟨a, b, c, d, e, rfl⟩ : ∃ a b c d e, cs = [a, b, c, d, e] := by
    match cs, h1 with
    | [a, b, c, d, e], _ => exact ⟨a, b, c, d, e, rfl⟩
  obtain ⟨k0, k1, k2, -⟩ := h2
  simp only [c2, c3, c4, List.drop_zero, List.take_succ_cons, List.take_zero, List.drop_succ_cons] at k0 k1 k2
  obtain ⟨-, m2, h3⟩ := okd_array Tryz.underlying23 k0
  have g0 := h3 0 (by decide)
  have g1 := h3 1 (by decide)
  have g2 := h3 2 (by decide)
  rw [c5] at g0 g1 g2
  simp only [Nat.zero_mul, Nat.one_mul, Nat.mul_one, List.drop_zero, List.take_succ_cons, List.take_zero, List.drop_succ_cons] at g0 g1 g2
  obtain ⟨v0, e0, T0, hT0⟩ := okd_raws g0
  obtain ⟨v1, e1, T1, hT1⟩ := okd_raws g1
  obtain ⟨v2, e2, T2, hT2⟩ := okd_raws g2
  obtain ⟨v3, e3, L, hL⟩ := okd_terms k1
  obtain ⟨N, e4, hN⟩ := okd_int Tryz.underlying5 k2
  simp only [List.cons.injEq, and_true] at e0 e1 e2 e3 e4
  subst e0; subst e1; subst e2; subst e3; subst e4
  obtain ⟨A0, n0, rfl⟩ := hT0.1.len
  obtain ⟨A1, n1, rfl⟩ := hT1.1.len
  obtain ⟨A2, n2, rfl⟩ := hT2.1.len
  obtain ⟨A3, n3, rfl⟩ := hL.1.len
  refine ⟨⟨fun k => if k = 0 then T0 else if k = 1 then T1 else T2, L, N⟩, fun k => if k = 0 then A0 else if k = 1 then A1 else A2, fun k => if k = 0 then n0 else if k = 1 then n1 else n2, A3, n3, rfl, ⟨fun k hk => ?_, hL, wf_u8 hN⟩⟩
  match k, hk with
  | 0, _ => exact hT0
  | 1, _ => exact hT1
  | 2, _ => exact hT2
end Go.Proofs.YtnddfeidggcplaaGreat
namespace Go.Proofs.YtnddfeidggcplaaGreat
open Go.ChangeShapes Go.WideShapes Go.RowKit

def fst1 {α : Type} (x : Value × α) : List Value := [x.1]
theorem fst1_flat {α : Type} : ∀ xs : List (Value × α), xs.flatMap fst1 = xs.map (·.1)
  | [] => rfl
  | x :: xs => by rw [List.flatMap_cons, fst1_flat xs]; rfl
/-- A slice of slices of elements. -/
theorem okd_rtabs {W : World} {n : Nat} {cs : List Value} (h : Okd Tryz.prog W n 27 cs) : ∃ v, cs = [v] ∧ ∃ ts : List (List Raw), RTabS 0 W.heap.size W v ts := by
  obtain ⟨v, hv, xs, h1, h2⟩ := okd_slice (α := Value × List Raw) fst1 (fun x => RawS 0 W.heap.size W x.1 x.2) (by decide) (fun _ => rfl) Tryz.underlying27 (by kernel_rfl) (Nat.le_of_ble_eq_true (by kernel_rfl)) (fun n cs h => by
    obtain ⟨v, hv, ts, ht⟩ := okd_raws h
    exact ⟨(v, ts), ht, hv⟩) h
  rw [fst1_flat] at h1
  refine ⟨v, hv, xs.map (·.2), xs.map (·.1), by simp, by rw [List.length_map]; exact h1, fun k u t hu ht => ?_⟩
  rw [List.getElem?_map] at hu ht
  cases hx : xs[k]? with
  | none => rw [hx] at hu; cases hu
  | some x =>
    rw [hx] at hu ht
    simp only [Option.map_some, Option.some.injEq] at hu ht
    subst hu; subst ht
    exact h2 x (List.mem_of_getElem? hx)
end Go.Proofs.YtnddfeidggcplaaGreat
namespace Go.Proofs.YtnddfeidggcplaaGreat
open Go.ChangeShapes Go.WideShapes Go.RowKit

set_option maxRecDepth 100000 in
theorem okd_q32 {W : World} {n : Nat} {cs : List Value} (h : Okd Tryz.prog W n 32 cs) :
    ∃ (q : Q32) (A : Nat → Option Addr) (cc : Nat → Nat) (AL : Option Addr) (cL : Nat) (vM vC : Value), cs = [.slice (A 0) (q.S.T 0).length (cc 0), .slice (A 1) (q.S.T 1).length (cc 1), .slice (A 2) (q.S.T 2).length (cc 2), .slice AL q.S.L.length cL, .int .u8 q.S.N, vM, .int .u64 q.R.1, .int .u64 q.R.2, vC] ∧ Q32S W.heap.size W q A cc AL cL vM vC := by
  obtain ⟨h1, m, h2⟩ := okd_struct Tryz.underlying32 h
  have c1 : Tryz.prog.cellsOf 32 = 9 := by kernel_rfl
  have c3 : Tryz.prog.cellsOf 22 = 1 := by kernel_rfl
  have c4 : Tryz.prog.cellsOf 27 = 1 := by kernel_rfl
  have c5 : Tryz.prog.cellsOf 26 = 5 := by kernel_rfl
  have c2 : Tryz.prog.cellsOf 30 = 2 := by kernel_rfl
  rw [c1] at h1
  obtain ⟨a, b, c, d, e, f, g, i, j, rfl⟩ : ∃ a b c d e f g i j, cs = [a, b, c, d, e, f, g, i, j] := by
    match cs, h1 with
    | [a, b, c, d, e, f, g, i, j], _ => exact ⟨a, b, c, d, e, f, g, i, j, rfl⟩
  obtain ⟨k0, k1, k2, k3, -⟩ := h2
  simp only [c2, c3, c4, c5, List.drop_zero, List.take_succ_cons, List.take_zero, List.drop_succ_cons] at k0 k1 k2 k3
  obtain ⟨q, A, cc, AL, cL, e0, hq⟩ := okd_raw6 k0
  obtain ⟨v1, e1, M, hM⟩ := okd_rtabs k1
  obtain ⟨r, hr, er⟩ := okd_raw k2
  obtain ⟨v2, e2, C, hC⟩ := okd_raws k3
  simp only [rc, List.cons.injEq, and_true] at e0 e1 er e2
  obtain ⟨e01, e02, e03, e04, e05⟩ := e0
  obtain ⟨er1, er2⟩ := er
  subst e01; subst e02; subst e03; subst e04; subst e05; subst e1; subst er1; subst er2; subst e2
  exact ⟨⟨q, M, r, C⟩, A, cc, AL, cL, _, _, rfl, ⟨hq.T, hq.L, hq.N, hM, hC, hr.1, hr.2⟩⟩
end Go.Proofs.YtnddfeidggcplaaGreat
