/-
  Slices of slices, coins and sums as the reading of the arguments gives them.
-/
import Derived.Test.YtilelegcniefcaaQy
import Derived.Test.YtilelegcniefcaaVa
namespace Go.Proofs.Ytilelegcniefcaa
open Go.ChangeShapes Go.WideShapes Go.RowKit

def fst1 {α : Type} (x : Value × α) : List Value := [x.1]
theorem fst1_flat {α : Type} : ∀ xs : List (Value × α), xs.flatMap fst1 = xs.map (·.1)
  | [] => rfl
  | x :: xs => by rw [List.flatMap_cons, fst1_flat xs]; rfl
/-- A slice of slices of elements. -/
theorem okd_rtabs {W : World} {n : Nat} {cs : List Value} (h : Okd Try.prog W n 27 cs) : ∃ v, cs = [v] ∧ ∃ ts : List (List Raw), RTabS 0 W.heap.size W v ts := by
  obtain ⟨v, hv, xs, h1, h2⟩ := okd_slice (α := Value × List Raw) fst1 (fun x => RawS 0 W.heap.size W x.1 x.2) (by decide) (fun _ => rfl) Try.underlying27 (by kernel_rfl) (Nat.le_of_ble_eq_true (by kernel_rfl)) (fun n cs h => by
    obtain ⟨v, hv, ts, ht⟩ := okd_raws h
    exact ⟨(v, ts), ht, hv⟩) h
  rw [fst1_flat] at h1
  refine ⟨v, hv, xs.map (·.2), xs.map (·.1), by simp, by rw [List.length_map]; exact h1, fun k u t hu ht => ?_⟩
  rw [List.getElem?_map] at hu ht
  cases hx : xs[k]? with
  | none => rw [hx] at hu; cases hu
  | some x =>
    rw [hx] at hu ht
    simp only [Option.map_some, Option.some.injEq] at hu ht
    subst hu; subst ht
    exact h2 x (List.mem_of_getElem? hx)
set_option maxRecDepth 100000 in
theorem okd_coins {W : World} {n : Nat} {cs : List Value} (h : Okd Try.prog W n 51 cs) : ∃ v d, cs = [v, .int .i64 d] ∧ Num d ∧ ∃ xs : List Raw, RawS 0 W.heap.size W v xs := by
  obtain ⟨h1, m, h2⟩ := okd_struct Try.underlying51 h
  have c1 : Try.prog.cellsOf 51 = 2 := by kernel_rfl
  have c2 : Try.prog.cellsOf 3 = 1 := by kernel_rfl
  have c3 : Try.prog.cellsOf 22 = 1 := by kernel_rfl
  rw [c1] at h1
  obtain ⟨a, b, rfl⟩ : ∃ a b, cs = [a, b] := by
    match cs, h1 with
    | [a, b], _ => exact ⟨a, b, rfl⟩
  obtain ⟨k0, k1, -⟩ := h2
  simp only [c2, c3, List.drop_zero, List.take_succ_cons, List.take_zero, List.drop_succ_cons] at k0 k1
  obtain ⟨v, e1, xs, hx⟩ := okd_raws k0
  obtain ⟨d, e3, e4⟩ := okd_int Try.underlying3 k1
  simp only [List.cons.injEq, and_true] at e1 e3
  subst e1; subst e3
  exact ⟨_, d, rfl, wf_i64 e4, xs, hx⟩
theorem okd_ints {W : World} {n : Nat} {cs : List Value} (h : Okd Try.prog W n 64 cs) : ∃ v, cs = [v] ∧ ∃ zs : List Int, IntS 0 W.heap.size W v zs := by
  obtain ⟨v, hv, xs, h1, h2⟩ := okd_slice zc Num (by decide) zc_len Try.underlying64 (by kernel_rfl) (Nat.le_of_ble_eq_true (by kernel_rfl)) (fun n cs h => by
    obtain ⟨d, e3, e4⟩ := okd_int Try.underlying3 h
    exact ⟨d, wf_i64 e4, e3⟩) h
  exact ⟨v, hv, xs, h1, h2⟩
set_option maxRecDepth 100000 in
/-- A slice of products as it may come in. -/
theorem okd_rtrms {W : World} {n : Nat} {cs : List Value} (h : Okd Try.prog W n 28 cs) : ∃ v, cs = [v] ∧ ∃ ps : List RTrm, RTrmS 0 W.heap.size W v ps ∧ ∀ p ∈ ps, Word p.c.1 ∧ Word p.c.2 := by
  obtain ⟨v, hv, xs, h1, h2⟩ := okd_slice (α := RTrm × Value) rtc (fun x => (Word x.1.c.1 ∧ Word x.1.c.2) ∧ IntS 0 W.heap.size W x.2 x.1.t) (by decide) rtc_len Try.underlying28 (by kernel_rfl) (Nat.le_of_ble_eq_true (by kernel_rfl)) (fun n cs h => by
    obtain ⟨h1, m, h2⟩ := okd_struct Try.underlying66 h
    have c1 : Try.prog.cellsOf 66 = 3 := by kernel_rfl
    have c2 : Try.prog.cellsOf 43 = 2 := by kernel_rfl
    have c3 : Try.prog.cellsOf 64 = 1 := by kernel_rfl
    rw [c1] at h1
    obtain ⟨a, b, c, rfl⟩ : ∃ a b c, cs = [a, b, c] := by
      match cs, h1 with
      | [a, b, c], _ => exact ⟨a, b, c, rfl⟩
    obtain ⟨k0, k1, -⟩ := h2
    simp only [c2, c3, List.drop_zero, List.take_succ_cons, List.take_zero, List.drop_succ_cons] at k0 k1
    obtain ⟨r, hr, er⟩ := okd_raw k0
    obtain ⟨v, e1, zs, hz⟩ := okd_ints k1
    simp only [rc, List.cons.injEq, and_true] at er e1
    obtain ⟨er1, er2⟩ := er
    subst er1; subst er2; subst e1
    exact ⟨(⟨r, zs⟩, _), ⟨hr, hz⟩, rfl⟩) h
  refine ⟨v, hv, xs.map (·.1), ⟨xs.map (·.2), by simp, ?_, fun k u p hu hp => ?_⟩, fun p hp => ?_⟩
  · rw [List.length_map]
    have e : (xs.map (·.1)).zip (xs.map (·.2)) = xs := by
      rw [List.zip_map']
      simp
    rw [e]
    exact h1
  · rw [List.getElem?_map] at hu hp
    cases hx : xs[k]? with
    | none => rw [hx] at hu; cases hu
    | some x =>
      rw [hx] at hu hp
      simp only [Option.map_some, Option.some.injEq] at hu hp
      subst hu; subst hp
      exact (h2 x (List.mem_of_getElem? hx)).2
  · obtain ⟨x, hx, rfl⟩ := List.mem_map.1 hp
    exact (h2 x hx).1
set_option maxRecDepth 100000 in
theorem okd_sum {W : World} {n : Nat} {cs : List Value} (h : Okd Try.prog W n 30 cs) : ∃ vt vp, cs = [vt, vp] ∧ (∃ ts : List (List Raw), RTabS 0 W.heap.size W vt ts) ∧ ∃ ps : List RTrm, RTrmS 0 W.heap.size W vp ps ∧ ∀ p ∈ ps, Word p.c.1 ∧ Word p.c.2 := by
  obtain ⟨h1, m, h2⟩ := okd_struct Try.underlying30 h
  have c1 : Try.prog.cellsOf 30 = 2 := by kernel_rfl
  have c2 : Try.prog.cellsOf 27 = 1 := by kernel_rfl
  have c3 : Try.prog.cellsOf 28 = 1 := by kernel_rfl
  rw [c1] at h1
  obtain ⟨a, b, rfl⟩ : ∃ a b, cs = [a, b] := by
    match cs, h1 with
    | [a, b], _ => exact ⟨a, b, rfl⟩
  obtain ⟨k0, k1, -⟩ := h2
  simp only [c2, c3, List.drop_zero, List.take_succ_cons, List.take_zero, List.drop_succ_cons] at k0 k1
  obtain ⟨v, e1, ts, hx⟩ := okd_rtabs k0
  obtain ⟨u, e3, ps, hp, hw⟩ := okd_rtrms k1
  simp only [List.cons.injEq, and_true] at e1 e3
  subst e1; subst e3
  exact ⟨_, _, rfl, ⟨ts, hx⟩, ps, hp, hw⟩
end Go.Proofs.Ytilelegcniefcaa
