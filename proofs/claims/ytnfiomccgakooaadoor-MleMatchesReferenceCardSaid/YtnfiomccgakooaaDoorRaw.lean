/-
  Elements read as they might have come in; integers that lie in a block; a cut.
-/
import Derived.Test.YtnfiomccgakooaaDoorInts
import Derived.Test.YtnfiomccgakooaaDoorMm5
namespace Go.Proofs.YtnfiomccgakooaaDoor
open Go.RowKit

theorem flat_zc : ∀ zs : List Int, (zs.flatMap zc) = zs.map fun z => .int .i64 z
  | [] => rfl
  | z :: zs => by rw [List.flatMap_cons, flat_zc zs]; rfl
theorem ints_of_blk {W : World} {g : Nat} {t : TypeId} {zs : List Int} {n lo hi : Nat} (h : Blk W g t ((zs.map fun z => Value.int .i64 z).toArray)) (hn : zs.length = n) (hb : n ≤ 1000000) (hlo : lo ≤ g) (hhi : g < hi) (hz : ∀ z ∈ zs, -1000000 ≤ z ∧ z ≤ 1000000) : IntS lo hi W (.slice (some ⟨g, 0, none⟩) n n) zs := by
  subst hn
  refine ⟨⟨by rw [flat_length zc_len], by omega, some ⟨g, 0, none⟩, zs.length, rfl, Nat.le_refl _, fun _ => ⟨g, 0, rfl, hlo, hhi, h.lt, fun j u hu => ?_⟩⟩, fun z hz' => ?_⟩
  · rw [Nat.zero_add, h.cell, ← flat_zc]
    simpa using hu
  · obtain ⟨h1, h2⟩ := hz z hz'
    unfold Num
    omega
theorem i64_info : (Tryd.prog.info? 2).map (fun i => (i.zero, i.size, i.bytes)) = some (some (.int .i64 0), 1, 8) := by kernel_rfl
/-- A cut from the head on. -/
theorem exts_take {lo hi n k cap : Nat} {A : Option Addr} {w : World} {xs : List E} (h : ExtS lo hi w (.slice A n cap) xs) (hk : k ≤ xs.length) : ExtS lo hi w (.slice A k cap) (xs.take k) := by
  obtain ⟨h1, h2, A', cap', h3, h4, h5⟩ := h
  cases h3
  have hl : (xs.take k).length = k := by rw [List.length_take]; omega
  refine ⟨by rw [flat_length ec_len, hl], by omega, A, cap, by rw [hl], by omega, fun h0 => ?_⟩
  obtain ⟨g, off, q1, q2, q3, q4, q5⟩ := h5 (by omega)
  refine ⟨g, off, q1, q2, q3, q4, fun j u hj => q5 j u ?_⟩
  have e : xs.flatMap ec = (xs.take k).flatMap ec ++ (xs.drop k).flatMap ec := by rw [← List.flatMap_append, List.take_append_drop]
  rw [e, List.getElem?_append_left (List.getElem?_eq_some_iff.1 hj).1]
  exact hj
def rawE (xs : List E) : List Raw := xs.map fun e => (fv e.a, fv e.b)
theorem raws_of_exts {lo hi : Nat} {w : World} {v : Value} {xs : List E} (h : ExtS lo hi w v xs) : RawS lo hi w v (rawE xs) := by
  refine ⟨?_, fun p hp => ?_⟩
  · have e : (rawE xs).flatMap rc = xs.flatMap ec := by unfold rawE; rw [List.flatMap_map]; rfl
    rw [e, show (rawE xs).length = xs.length by simp [rawE]]
    exact h
  · obtain ⟨e, _, rfl⟩ := List.mem_map.1 hp
    have h1 := fv_lo e.a; have h2 := fv_hi e.a; have h3 := fv_lo e.b; have h4 := fv_hi e.b
    exact ⟨⟨h1, by simp only; omega⟩, ⟨h3, by simp only; omega⟩⟩
theorem rawE_vld (xs : List E) : (rawE xs).all vld = true := by
  rw [List.all_eq_true]
  intro p hp
  obtain ⟨e, _, rfl⟩ := List.mem_map.1 hp
  have h2 := fv_hi e.a; have h4 := fv_hi e.b
  simp [vld, h2, h4]
end Go.Proofs.YtnfiomccgakooaaDoor
