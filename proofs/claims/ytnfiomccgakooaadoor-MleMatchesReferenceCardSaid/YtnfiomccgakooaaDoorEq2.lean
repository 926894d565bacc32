/-
  The reference of package mle, further: vertices, the equality of a vertex and a point; the polynomial of a gate.
-/
import Derived.Test.YtnfiomccgakooaaDoorEq
namespace Go.Proofs.YtnfiomccgakooaaDoor
open Go.RowKit

theorem ofInt_i64 (a : Nat) (ha : a < 9223372036854775808) : (BitVec.ofInt 64 (a : Int)).toNat = a := by
  rw [BitVec.ofInt_natCast, BitVec.toNat_ofNat]; exact Nat.mod_eq_of_lt (by omega)
theorem i64_and_nat (a b : Nat) (ha : a < 9223372036854775808) (hb : b < 9223372036854775808) : bits .and .i64 (a : Int) (b : Int) = ((a &&& b : Nat) : Int) := by
  have hx : a &&& b < 2 ^ 63 := Nat.and_lt_two_pow _ (by omega)
  show IntKind.i64.wrap ((BitVec.ofInt 64 (a : Int) &&& BitVec.ofInt 64 (b : Int)).toNat : Int) = _
  rw [BitVec.toNat_and, ofInt_i64 a ha, ofInt_i64 b hb, IntKind.wrap_i64]
  omega
theorem i64_bit (i k : Nat) (hi : i ≤ 1000000) : bits .and .i64 ((i : Int) / 2 ^ k) 1 = ((i / 2 ^ k % 2 : Nat) : Int) := by
  have e : (i : Int) / 2 ^ k = ((i / 2 ^ k : Nat) : Int) := by simp
  have h : i / 2 ^ k ≤ i := Nat.div_le_self _ _
  rw [e, show (1 : Int) = ((1 : Nat) : Int) from rfl, i64_and_nat _ _ (by omega) (by omega), Nat.and_one_is_mod]
theorem bit_fz (i k : Nat) : eb (fz (((i / 2 ^ k % 2 : Nat)) : Int)) = bitE i k := by
  unfold bitE
  have h : i / 2 ^ k % 2 = 0 ∨ i / 2 ^ k % 2 = 1 := by omega
  rcases h with h | h <;> rw [h] <;> rfl
set_option maxRecDepth 100000 in
set_option maxHeartbeats 1000000 in
theorem mVertex (i n : Nat) (hi : i ≤ 1000000) (hn : n ≤ 60) (w : World) :
    Calls Tryd.prog 46 #[.int .i64 i, .int .i64 n] w (RetR (fun lo hi v w => ExtS lo hi w v (vertex i n)) w) := by
  obtain ⟨i0, hi0, hz0, hz1, hz2⟩ := info_parts ext_info
  go_enter Tryd.func46, Tryd.ntmps46
  go_wp2
  go_loopw [5, 6] (fun v j wr => ∃ k : Nat, k ≤ n ∧ j = .int .i64 k ∧ wr.ownsRow w.heap.size 27 2 v k ((vertex i k).flatMap ec) ∧ Below w.heap.size w wr) (fun _ j _ => n - (intOf j).toNat)
  case atStart => exact ⟨0, Nat.zero_le _, rfl, ⟨by simp [vertex], .inr ⟨w.heap.size, 0, #[], rfl, Nat.le_refl _, World.alloc_heap_new w _, Nat.le_refl _, Nat.zero_le _, rfl, by simp [vertex]⟩⟩, (Below.refl _ _).alloc (Nat.le_refl _) _⟩
  case round =>
    obtain ⟨k, hk, rfl, hown, hB⟩ := hrel
    by_cases hlt : k < n
    · go_wp2_with fail
      rw [i64_bit i k hi]
      refine (xFromInt _ (by omega) (by omega) _).mono ?_
      rintro e w2 ⟨he, hb⟩
      rw [bit_fz] at he
      unfold ev at he
      subst he
      have hb2 : Below wr.heap.size wr w2 := hb
      have hf : (vertex i (k + 1)).flatMap ec = (vertex i k).flatMap ec ++ ec (bitE i k) := by rw [vertex_succ, List.flatMap_append]; simp
      have HF := Lib.hid hf
      clear hf
      generalize bitE i k = y at *
      go_wp2_with (at_builtin; refine wpList_app1 rfl _ _ rfl Tryd.underlying22 hi0 hz0 hz1 hz2 rfl (by decide) (cl := ec y) rfl (ec_one _) rfl rfl (own_below hown (Nat.le_refl _) ?hX) ?hsrc ?h63 ?hby ?hbase ?_)
      case hX => exact hb2.alloc hb2.size _
      case hsrc => exact Blk.new_at _ _ _ (by simp)
      case h63 => unfold maxLen; omega
      case hby => omega
      case hbase => have := hB.size; have := hb2.size; simp; omega
      intro v1 w3 hown3 hgrow hB3
      go_wp2
      exact ⟨⟨k + 1, by omega, by go_num, by rw [HF.out]; exact hown3, (hB.trans ((hb2.alloc hb2.size _).mono hB.size)).trans hB3⟩, by simp [intOf]; omega⟩
    · obtain rfl : k = n := by omega
      go_wp2
      go_ret
      refine ⟨u5, rfl, ?_, hB⟩
      have := Rd.of_own hown (by omega) (Nat.le_refl _)
      unfold ExtS
      rw [vertex_length]
      exact this

set_option maxRecDepth 100000 in
set_option maxHeartbeats 400000 in
theorem mEqIndexR (i : Nat) (p : List E) (hi : i ≤ 1000000) (hp : p.length ≤ 60) (v : Value) (lo hi' : Nat) (w : World) (h : ExtS lo hi' w v p) :
    Calls Tryd.prog 17 #[.int .i64 i, v] w (Ret (ev (eqi i p)) w) := by
  obtain ⟨A, cap, rfl⟩ := h.len
  unfold ev
  go_enter Tryd.func17, Tryd.ntmps17
  go_wp2_with fail
  refine calls_stk1 fun W hB hz b1 => ?_
  refine (mVertex i p.length hi hp _).mono ?_
  rintro e w2 ⟨v2, rfl, hv2, hb⟩
  obtain ⟨A2, cap2, rfl⟩ := hv2.len
  have h2 := (h.keep hB).keep hb
  go_wp2_with fail
  refine (mEqR (vertex i p.length) p (by rw [vertex_length]) _ _ _ _ _ _ _ hv2 h2).mono ?_
  rintro e w3 ⟨he, hb3⟩
  rw [vertex_length, pfac_vertex i p.length p p.length (Nat.le_refl _)] at he
  unfold ev at he
  subst he
  have hb4 := hb.trans (hb3.mono hb.size)
  have b2 := b1.keep hb4
  have e1 := b2.cell
  have e2 := b2.frozen
  go_wp2
  refine bodyPost_ret (v := .agg #[.int .u64 (fv (eqi i p).a), .int .u64 (fv (eqi i p).b)]) (by simp [results, Tryd.results17, go_sem, e1, eqi]) rfl ⟨rfl, ?_⟩
  exact below_set2 (hB.trans (hb4.mono hB.size)) (Nat.le_refl _)
end Go.Proofs.YtnfiomccgakooaaDoor
