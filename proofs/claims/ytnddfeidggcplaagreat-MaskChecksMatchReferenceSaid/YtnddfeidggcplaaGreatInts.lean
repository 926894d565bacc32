/-
  Integers made into elements, as the statements of chapter 17 do it.
-/
import Derived.Test.YtnddfeidggcplaaGreatGrow
namespace Go.Proofs.YtnddfeidggcplaaGreat
open Go.RowKit

def zc (z : Int) : List Value := [.int .i64 z]
theorem zc_len (z : Int) : (zc z).length = 1 := rfl
def IntS (lo hi : Nat) (w : World) (v : Value) (zs : List Int) : Prop := Rd lo hi 1 w v zs.length (zs.flatMap zc) ∧ ∀ z ∈ zs, Num z
def intsE (zs : List Int) : List E := zs.map fun z => eb (fz z)
set_option maxRecDepth 100000 in
set_option maxHeartbeats 1000000 in
theorem lInts (zs : List Int) (v : Value) (lo hi : Nat) (w : World) (h : IntS lo hi w v zs) (hl : zs.length ≤ 1000) :
    Calls Tryz.prog 48 #[v] w (RetR (ExtA (intsE zs)) w) := by
  obtain ⟨A, cap, rfl⟩ := h.1.len
  obtain ⟨i0, hi0, hz0, hz1, hz2⟩ := info_parts ext_info
  go_enter Tryz.func48, Tryz.ntmps48
  go_wp2
  go_loopw [3, 4] (fun v j wr => ∃ k : Nat, k ≤ zs.length ∧ j = .int .i64 k ∧ wr.ownsRow w.heap.size 30 2 v k ((intsE (zs.take k)).flatMap ec) ∧ Below w.heap.size w wr) (fun _ j _ => zs.length - (intOf j).toNat)
  case atStart => exact ⟨0, Nat.zero_le _, rfl, ⟨by simp [intsE], .inr ⟨w.heap.size, 0, #[], rfl, Nat.le_refl _, World.alloc_heap_new w _, Nat.le_refl _, Nat.zero_le _, rfl, by simp [intsE]⟩⟩, (Below.refl _ _).alloc (Nat.le_refl _) _⟩
  case round =>
    obtain ⟨k, hk, rfl, hown, hB⟩ := hrel
    by_cases hlt : k < zs.length
    · obtain ⟨g, off, cap', hv, q1, q2, q3, q4, q5⟩ := Rd.form h.1 (by omega)
      cases hv
      obtain ⟨z, hz⟩ : ∃ z, zs[k]? = some z := ⟨zs[k], List.getElem?_eq_getElem hlt⟩
      have hc := q5 (k * 1 + 0) _ (flat_get zc_len zs k 0 z _ hz rfl)
      rw [Nat.mul_one, Nat.add_zero] at hc
      have c1 := (hB.cell (p := ⟨g, off + k, none⟩) q4).trans hc
      obtain ⟨n1, n2⟩ := h.2 z (List.mem_of_getElem? hz)
      have hf : (intsE (zs.take (k + 1))).flatMap ec = (intsE (zs.take k)).flatMap ec ++ ec (eb (fz z)) := by
        unfold intsE
        rw [List.take_add_one, hz]
        simp
      have HF := Lib.hid hf
      clear hf hz hc q5 h
      go_wp2_with fail
      refine (xFromInt z (by omega) (by omega) _).mono ?_
      rintro e w2 ⟨he, hb⟩
      unfold ev at he
      subst he
      have hb2 : Below wr.heap.size wr w2 := hb
      generalize eb (fz z) = y at *
      go_wp2_with (at_builtin; refine wpList_app1 rfl _ _ rfl Tryz.underlying22 hi0 hz0 hz1 hz2 rfl (by decide) (cl := ec y) rfl (ec_one _) rfl rfl (own_below hown (Nat.le_refl _) ?hX) ?hsrc ?h63 ?hby ?hbase ?_)
      case hX => exact hb2.alloc hb2.size _
      case hsrc => exact Blk.new_at _ _ _ (by simp)
      case h63 => unfold maxLen; omega
      case hby => omega
      case hbase => have := hB.size; have := hb2.size; simp; omega
      intro v1 w3 hown3 hgrow hB3
      go_wp2
      exact ⟨⟨k + 1, by omega, by go_num, by rw [HF.out]; exact hown3, (hB.trans ((hb2.alloc hb2.size _).mono hB.size)).trans hB3⟩, by simp [intOf]; omega⟩
    · obtain rfl : k = zs.length := by omega
      go_wp2
      go_ret
      refine ⟨u3, rfl, ?_, hB⟩
      have := Rd.of_own hown (by omega) (Nat.le_refl _)
      rw [List.take_of_length_le (Nat.le_refl _)] at this
      unfold ExtA ExtS
      rw [show (intsE zs).length = zs.length by simp [intsE]]
      exact this
end Go.Proofs.YtnddfeidggcplaaGreat
