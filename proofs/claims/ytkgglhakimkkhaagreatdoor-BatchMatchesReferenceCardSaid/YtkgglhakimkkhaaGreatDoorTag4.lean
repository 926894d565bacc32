/-
  Rows of bytes in the reference: joined, drawn from a digest, from a word and from a label.
  Rows of bytes in the reference: of a digest, of a word; the number that 8 bytes encode.
  A transcript as a value, and the laws of its making.
  Transcripts of the reference: the tagged bytes.
  Transcripts of the reference: the bytes of elements, the hash output, the challenge.
  Transcripts of the reference: the hash output, absorbing, the challenge.
  Transcripts of the reference: absorbing.
-/
import Derived.Test.YtkgglhakimkkhaaGreatDoorSe
import Derived.Lib.ConvBytes
import Derived.Lib.AppendStr
namespace Go.Proofs.YtkgglhakimkkhaaGreatDoor
open Go.RowKit

def OwB (base : Nat) (w : World) (v : Value) (l : List Nat) : Prop := w.ownsRow base 5 1 v l.length (byc l)
theorem OwB.len {base : Nat} {w : World} {v : Value} {l : List Nat} (h : OwB base w v l) : ∃ A cap, v = .slice A l.length cap := by
  rcases h.2 with ⟨rfl, e⟩ | ⟨g, cap, cur, rfl, _⟩
  · exact ⟨none, 0, by rw [e]⟩
  · exact ⟨_, cap, rfl⟩
theorem OwB.bys {base hi : Nat} {w : World} {v : Value} {l : List Nat} (h : OwB base w v l) (hn : l.length ≤ 10000000) (hh : w.heap.size ≤ hi) : ByS base hi w v l := Rd.of_own h (by omega) hh
theorem OwB.keep {base : Nat} {w X : World} {v : Value} {l : List Nat} (h : OwB base w v l) (hb : Below w.heap.size w X) : OwB base X v l := own_below h (Nat.le_refl _) hb
theorem wpList_new0 {ops : Array Oper} {rest : List Oper} {o : Oper} {a : Act} {Q : Exit → Act → World → Prop} {X : World} (g : o.guard = none) (ho : o.op = .buildSlice 92 0 #[])
    (h : ∀ v w', OwB X.heap.size w' v [] → Below X.heap.size X w' → wpList Tryz.prog ops Q rest (a.put o.dst v) w') : wpList Tryz.prog ops Q (o :: rest) a X := by
  obtain ⟨iu8, hu8, uz0, uz1, uz2⟩ := info_parts u8_info
  refine wpList_plain g fun K hK => wp_of_step (stepAt_mono (fun v0 w1 hh => ?_) (step_lit0 u8_slice hu8 uz0 ho))
  obtain ⟨⟨rfl, hl1, b1⟩, hB1⟩ := hh
  exact hK _ _ (h _ _ ⟨rfl, .inr ⟨X.heap.size, 0, #[], rfl, Nat.le_refl _, b1, Nat.le_refl _, by simp, by simp [byc]⟩⟩ hB1)
theorem wpList_cat {ops : Array Oper} {rest : List Oper} {o : Oper} {a : Act} {Q : Exit → Act → World → Prop} {X : World} {base lo hi : Nat} {l m : List Nat} {u v : Value} (g : o.guard = none) (s x : Operand)
    (ho : o.op = .call { callee := .builtin .append, args := #[s, x], argTypes := #[92, 92] }) (hs : a.eval s = u) (hx : a.eval x = v) (hr : ByS lo hi X v m) (hown : OwB base X u l) (hl : l.length ≤ 10000000) (hm : m.length ≤ 10000000) (hbase : base ≤ X.heap.size)
    (h : ∀ v' w', OwB base w' v' (l ++ m) → Below base X w' → wpList Tryz.prog ops Q rest (a.put o.dst v') w') : wpList Tryz.prog ops Q (o :: rest) a X := by
  obtain ⟨iu8, hu8, uz0, uz1, uz2⟩ := info_parts u8_info
  refine wpList_appB g s x ho u8_slice hu8 uz0 uz1 uz2 rfl (by decide) (byc_one m) hs hx hr hown (by unfold maxLen; omega) (by omega) hbase fun v2 w2 hown1 _ hB2 => ?_
  refine h _ _ ?_ hB2
  unfold OwB
  rw [byc_app, List.length_append]
  exact hown1
def stB (s : ByteArray) : List Nat := s.data.toList.map fun b => b.toNat
theorem stB_len (s : ByteArray) : (stB s).length = s.size := by
  unfold stB
  rw [List.length_map, Array.length_toList]
  rfl
theorem stB_lt (s : ByteArray) : ∀ x ∈ stB s, x < 256 := fun x hx => by
  unfold stB at hx
  obtain ⟨b, _, rfl⟩ := List.mem_map.1 hx
  exact b.toNat_lt
theorem stB_cells (s : ByteArray) : Lib.strCells s = byc (stB s) := by
  unfold Lib.strCells byc stB
  rw [List.map_map]
  rfl
theorem str_under : Tryz.prog.underlying 9 = some .string := by kernel_rfl
theorem u8_under : Tryz.prog.underlying 5 = some (.int .u8) := by kernel_rfl
theorem wpList_catS {ops : Array Oper} {rest : List Oper} {o : Oper} {a : Act} {Q : Exit → Act → World → Prop} {X : World} {base : Nat} {l : List Nat} {u : Value} {b : ByteArray} (g : o.guard = none) (s x : Operand)
    (ho : o.op = .call { callee := .builtin .append, args := #[s, x], argTypes := #[92, 9] }) (hs : a.eval s = u) (hx : a.eval x = .string b) (hown : OwB base X u l) (hl : l.length ≤ 10000000) (hm : b.size ≤ 10000000) (hbase : base ≤ X.heap.size)
    (h : ∀ v' w', OwB base w' v' (l ++ stB b) → Below base X w' → wpList Tryz.prog ops Q rest (a.put o.dst v') w') : wpList Tryz.prog ops Q (o :: rest) a X := by
  obtain ⟨iu8, hu8, uz0, uz1, uz2⟩ := info_parts u8_info
  refine Lib.wpList_append_own_string X g s x _ _ ho base _ iu8 u8_slice str_under hu8 uz0 uz1 uz2 u l.length (byc l) hs hown b hx (by unfold maxLen; omega) (by omega) hbase fun v' w' hown' hgr _ => ?_
  refine h _ _ ?_ ((Below.refl _ _).grown hgr hbase (fun g hg => (own_block hown hg).1))
  unfold OwB
  rw [byc_app, List.length_append, stB_len, ← stB_cells]
  exact hown'
theorem step_bytes {o : Oper} {a : Act} {w : World} {x : Operand} {b : ByteArray} (ho : o.op = .convert 9 92 x) (hx : a.eval x = .string b) (hb : b.size ≤ 10000000) :
    stepAt Tryz.prog o a w fun v w' => ByS w.heap.size w'.heap.size w' v (stB b) ∧ Below w.heap.size w w' := by
  have hr := Lib.run_convert_string_bytes (P := Tryz.prog) w _ _ _ b str_under u8_slice u8_under
  unfold stepAt execOp
  simp only [ho, hx, Sem.run_bind, hr, Result.andThen_ok]
  have hB : Below w.heap.size w (Lib.bytesWorld w 5 b) := ⟨rfl, rfl, rfl, by rw [Lib.bytesWorld_size]; omega, fun k hk => Lib.bytesWorld_at_old w _ b k hk⟩
  refine ⟨?_, hB⟩
  unfold ByS
  rw [stB_len]
  refine ⟨by rw [byc_length, stB_len]; omega, by omega, _, _, rfl, grownCap_ge w _ _ _, fun h0 => ⟨w.heap.size, 0, rfl, Nat.le_refl _, by rw [Lib.bytesWorld_size]; omega, by rw [Lib.bytesWorld_size]; omega, fun j u hu => ?_⟩⟩
  have hj : j < b.size := by have := (List.getElem?_eq_some_iff.1 hu).1; rwa [byc_length, stB_len] at this
  rw [Nat.zero_add, Lib.bytesWorld_cell w _ b j hj]
  rw [← stB_cells] at hu
  unfold Lib.strCells at hu
  rw [List.getElem?_map] at hu
  have hj' : j < b.data.toList.length := by rw [Array.length_toList]; exact hj
  rw [List.getElem?_eq_getElem hj', Option.map_some, Option.some.injEq] at hu
  rw [← hu, List.getD_eq_getElem?_getD, List.getElem?_eq_getElem hj']
  rfl
theorem en_attestor_attestorref07_Join : ∀ args w, (callFunc 55 args).run Tryz.prog w = .ok (.enter 55 args) w := enters_of Tryz.func55 (by kernel_rfl) rfl
attribute [local irreducible] wpRg
set_option maxRecDepth 100000 in
set_option maxHeartbeats 4000000 in
theorem rJoin (a b : List Nat) (ha : a.length ≤ 5000000) (hb : b.length ≤ 5000000) (v u : Value) (lo hi lo2 hi2 : Nat) (w : World) (h : ByS lo hi w v a) (k : ByS lo2 hi2 w u b) : Calls Tryz.prog 55 #[v, u] w (RetR (fun lo hi v w => ByS lo hi w v (a ++ b)) w) := by
  obtain ⟨Aa, ca, rfl⟩ := h.len
  obtain ⟨Ab, cb, rfl⟩ := k.len
  have HV := Lib.hid h
  have HU := Lib.hid k
  have HA := Lib.hid ha
  have HB := Lib.hid hb
  clear h k ha hb
  go_enter Tryz.func55, Tryz.ntmps55
  go_upto_region 1 with (fail)
  refine wp_region_lit ?_
  refine wpList_new0 rfl rfl fun v1 w1 o1 hB1 => ?_
  refine wpList_plain rfl fun K2 hK2 => wp_of_step (stepAt_mono (fun v2 w2 hh => ?_) (step_move (u := .slice Aa a.length ca) rfl rfl))
  obtain ⟨rfl, hw1⟩ := hh
  rw [hw1]
  refine hK2 _ _ ?_
  clear hK2 K2 hw1
  refine wpList_cat rfl _ _ rfl rfl rfl (HV.out.keep hB1) o1 (by decide) (by have := HA.out; omega) hB1.size fun v3 w3 o3 hB3 => ?_
  rw [List.nil_append] at o3
  have B3 := hB1.trans hB3
  clear o1 hB1 hB3
  go_upto_region 2 with (fail)
  refine wp_region_lit ?_
  refine wpList_plain rfl fun K2 hK2 => wp_of_step (stepAt_mono (fun v2 w2 hh => ?_) (step_move (u := v3) rfl rfl))
  obtain ⟨rfl, hw1⟩ := hh
  rw [hw1]
  refine hK2 _ _ ?_
  clear hK2 K2 hw1
  refine wpList_plain rfl fun K2 hK2 => wp_of_step (stepAt_mono (fun v2 w2 hh => ?_) (step_move (u := .slice Ab b.length cb) rfl rfl))
  obtain ⟨rfl, hw1⟩ := hh
  rw [hw1]
  refine hK2 _ _ ?_
  clear hK2 K2 hw1
  refine wpList_cat rfl _ _ rfl rfl rfl (HU.out.keep B3) o3 (by have := HA.out; omega) (by have := HB.out; omega) B3.size fun v4 w4 o4 hB4 => ?_
  have B4 := B3.trans hB4
  clear o3 B3 hB4
  obtain ⟨A4, c4, rfl⟩ := o4.len
  have HO := Lib.hid o4
  clear o4
  go_wp2_with fail
  refine bodyPost_ret (v := .slice A4 (a ++ b).length c4) (by simp [results, Tryz.results55, go_sem]) rfl ⟨_, rfl, ?_, B4⟩
  exact HO.out.bys (by rw [List.length_append]; have := HA.out; have := HB.out; omega) (Nat.le_refl _)
end Go.Proofs.YtkgglhakimkkhaaGreatDoor
namespace Go.Proofs.YtkgglhakimkkhaaGreatDoor
open Go.RowKit

theorem take_next {α : Type} (l : List α) (k : Nat) (h : k < l.length) : l.take (k + 1) = l.take k ++ [l[k]] := by
  rw [List.take_add_one, List.getElem?_eq_getElem h]
  rfl
def tk (k : Nat) (l : List Nat) : List Nat := l.take k
theorem tk_zero (l : List Nat) : tk 0 l = [] := List.take_zero
theorem tk_next (l : List Nat) (k x : Nat) (h : k < l.length) (hx : l[k] = x) : tk k l ++ [x] = tk (k + 1) l := by
  unfold tk
  rw [take_next l k h, hx]
theorem tk_all (l : List Nat) (k : Nat) (h : l.length = k) : tk k l = l := List.take_of_length_le (by omega)
theorem tk_len (l : List Nat) (k : Nat) : (tk k l).length ≤ k := by
  unfold tk
  rw [List.length_take]
  omega
theorem en_attestor_attestorref07_Bytes : ∀ args w, (callFunc 124 args).run Tryz.prog w = .ok (.enter 124 args) w := enters_of Tryz.func124 (by kernel_rfl) rfl
theorem en_attestor_attestorref10_Word : ∀ args w, (callFunc 126 args).run Tryz.prog w = .ok (.enter 126 args) w := enters_of Tryz.func126 (by kernel_rfl) rfl
theorem en_attestor_attestorref10_Value : ∀ args w, (callFunc 95 args).run Tryz.prog w = .ok (.enter 95 args) w := enters_of Tryz.func95 (by kernel_rfl) rfl
attribute [local irreducible] wpRg
set_option maxRecDepth 100000 in
set_option maxHeartbeats 4000000 in
theorem rBytes (l : List Nat) (hl : l.length = 32) (w : World) : Calls Tryz.prog 124 #[dgv l] w (RetR (fun lo hi v w => ByS lo hi w v l) w) := by
  obtain ⟨S, hS⟩ : ∃ S, S = dgv l := ⟨_, rfl⟩
  rw [← hS]
  have HL := Lib.hid hl
  go_enter Tryz.func124, Tryz.ntmps124
  go_upto_region 1 with (fail)
  refine wp_stk1 fun W hB hz b1 => ?_
  have b1' : Blk W w.heap.size 58 (byc l).toArray := by first | exact b1 | (rw [hS] at b1; exact b1)
  have hWs : W.heap.size = w.heap.size + 1 := hz.out
  clear b1 hz hl
  go_upto_region 1 with (fail)
  refine wp_region_lit ?_
  refine wpList_new0 rfl rfl fun v1 w1 o1 hB1 => ?_
  have b2 := b1'.keep hB1
  have B1 := hB.trans (hB1.mono hB.size)
  rw [hWs] at o1
  clear b1' hB1 hB hWs
  go_wp2_with fail
  go_loopw [3, 4] (fun u i wr => ∃ k : Nat, k ≤ 32 ∧ i = .int .i64 k ∧ OwB (w.heap.size + 1) wr u (tk k l) ∧ Blk wr w.heap.size 58 (byc l).toArray ∧ Below w.heap.size w wr) (fun _ i _ => 32 - (intOf i).toNat)
  case atStart => exact ⟨0, Nat.zero_le _, rfl, by rw [tk_zero]; exact o1, b2, B1⟩
  case round =>
    obtain ⟨k, hk, rfl, ho, hb, hBr⟩ := hrel
    obtain ⟨A, cap, rfl⟩ := ho.len
    by_cases hlt : k < 32
    · have hlt' : k < l.length := by rw [HL.out]; exact hlt
      have c1 : wr.cell? ⟨w.heap.size, k, none⟩ = some (.int .u8 (l[k] : Nat)) := by
        rw [hb.cell]
        simp [byc, List.getElem?_map, List.getElem?_eq_getElem hlt']
      generalize hx : l[k] = x at c1
      go_upto_region 5 with (fail)
      refine wp_region_lit ?_
      iterate 4 (refine wpList_plain rfl fun K hK => ?_; go_big_op; refine hK _ _ ?_; clear hK K)
      refine wpList_push (c := x) rfl rfl _ _ _ rfl rfl rfl (fun _ => rfl) (fun _ => rfl) ho (by have := tk_len l k; omega) (by have := hb.lt; omega) fun v5 v6 w6 o6 hB6 => ?_
      have o6' : OwB (w.heap.size + 1) w6 v6 (tk (k + 1) l) := by rw [← tk_next l k x hlt' hx]; exact o6
      have b6 := hb.below hB6 (by omega)
      have B6 := hBr.trans (hB6.mono (by omega))
      clear o6 ho hb hBr c1 hB6
      obtain ⟨A6, c6, rfl⟩ := o6'.len
      go_wp2_with fail
      exact ⟨⟨k + 1, by omega, by go_num, o6', b6, B6⟩, by simp [intOf]; omega⟩
    · obtain rfl : k = 32 := by omega
      rw [tk_all l 32 HL.out] at ho ⊢
      have HO := Lib.hid ho
      clear ho
      go_wp2_with fail
      refine bodyPost_ret (v := .slice A l.length cap) (by simp [results, Tryz.results124, go_sem]) rfl ⟨_, rfl, ?_, hBr⟩
      exact (HO.out.bys (by rw [HL.out]; decide) (Nat.le_refl _)).wide (by omega) (Nat.le_refl _)
set_option maxRecDepth 100000 in
set_option maxHeartbeats 4000000 in
theorem rWord (x : Nat) (hx : x < 18446744073709551616) (w : World) : Calls Tryz.prog 126 #[.int .u64 (x : Int)] w (RetR (fun lo hi v w => ByS lo hi w v (w8 x)) w) := by
  have HX := Lib.hid hx
  clear hx
  go_enter Tryz.func126, Tryz.ntmps126
  go_upto_region 1 with (fail)
  refine wp_region_lit ?_
  refine wpList_new0 rfl rfl fun v1 w1 o1 B1 => ?_
  go_wp2_with fail
  go_loopw [0, 3, 4] (fun t u i wr => ∃ k : Nat, k ≤ 8 ∧ i = .int .i64 k ∧ t = .int .u64 ((x / 2 ^ (8 * k) : Nat) : Int) ∧ OwB w.heap.size wr u (tk k (w8 x)) ∧ Below w.heap.size w wr) (fun _ _ i _ => 8 - (intOf i).toNat)
  case atStart => exact ⟨0, Nat.zero_le _, rfl, by simp, by rw [tk_zero]; exact o1, B1⟩
  case round =>
    obtain ⟨k, hk, rfl, rfl, ho, hBr⟩ := hrel
    obtain ⟨A, cap, rfl⟩ := ho.len
    by_cases hlt : k < 8
    · have hlt' : k < (w8 x).length := by rw [w8_length]; exact hlt
      have hN : x / 2 ^ (8 * (k + 1)) = x / 2 ^ (8 * k) / 256 := by rw [show 8 * (k + 1) = 8 * k + 8 by omega, Nat.pow_add, ← Nat.div_div_eq_div_mul]
      have hG : (w8 x)[k] = x / 2 ^ (8 * k) % 256 := by simp [w8]
      have hXb : x / 2 ^ (8 * k) < 18446744073709551616 := Nat.lt_of_le_of_lt (Nat.div_le_self _ _) HX.out
      have HN := Lib.hid hN
      have HG := Lib.hid hG
      clear hN hG
      obtain ⟨y, hy⟩ : ∃ y, y = x / 2 ^ (8 * k) := ⟨_, rfl⟩
      rw [← hy] at hXb ⊢
      have HY := Lib.hid hy
      clear hy
      go_upto_region 5 with (fail)
      refine wp_region_lit ?_
      iterate 4 (refine wpList_plain rfl fun K hK => ?_; go_big_op; refine hK _ _ ?_; clear hK K)
      refine wpList_push (c := y % 256) rfl rfl _ _ _ rfl rfl (by simp [Act.eval]) (fun _ => rfl) (fun _ => rfl) ho (by have := tk_len (w8 x) k; omega) hBr.size fun v5 v6 w6 o6 hB6 => ?_
      have o6' : OwB w.heap.size w6 v6 (tk (k + 1) (w8 x)) := by rw [← tk_next (w8 x) k (y % 256) hlt' (by rw [HG.out, ← HY.out])]; exact o6
      have B6 := hBr.trans hB6
      clear o6 ho hBr hB6
      obtain ⟨A6, c6, rfl⟩ := o6'.len
      go_wp2_with fail
      exact ⟨⟨k + 1, by omega, by go_num, by rw [HN.out, ← HY.out]; go_num, o6', B6⟩, by simp [intOf]; omega⟩
    · obtain rfl : k = 8 := by omega
      rw [tk_all (w8 x) 8 (w8_length x)] at ho ⊢
      have HO := Lib.hid ho
      clear ho
      obtain ⟨y, hy⟩ : ∃ y, y = x / 2 ^ (8 * 8) := ⟨_, rfl⟩
      rw [← hy]
      clear hy
      go_wp2_with fail
      refine bodyPost_ret (v := .slice A (w8 x).length cap) (by simp [results, Tryz.results126, go_sem]) rfl ⟨_, rfl, ?_, hBr⟩
      exact HO.out.bys (by rw [w8_length]; decide) (Nat.le_refl _)
set_option maxRecDepth 100000 in
set_option maxHeartbeats 4000000 in
theorem rValue (b : List Nat) (h8 : ∀ x ∈ b, x < 256) (o : Nat) (ho : o + 8 ≤ b.length) (hn : b.length ≤ 1000000) (v : Value) (lo hi : Nat) (w : World) (h : ByS lo hi w v b) : Calls Tryz.prog 95 #[v, .int .i64 (o : Int)] w (Ret (.int .u64 (le8 b o 8 : Nat)) w) := by
  obtain ⟨g, off, cap, rfl, hc, hg1, hg2, hg3, hcell⟩ := bys_cells h (by omega)
  have HC := Lib.hid hcell
  have H8 := Lib.hid h8
  clear hcell h8 h
  obtain ⟨L, hL⟩ : ∃ L, L = b.length := ⟨_, rfl⟩
  rw [← hL] at ho hn hc ⊢
  have HL := Lib.hid hL
  clear hL
  go_enter Tryz.func95, Tryz.ntmps95
  go_wp2_with fail
  go_loopw [5, 6] (fun x i wr => ∃ k : Nat, k ≤ 8 ∧ i = .int .i64 (7 - (k : Int)) ∧ x = .int .u64 ((le8 b o k : Nat) : Int) ∧ Below w.heap.size w wr) (fun _ i _ => (intOf i + 1).toNat)
  case atStart => exact ⟨0, Nat.zero_le _, rfl, rfl, Below.refl _ _⟩
  case round =>
    obtain ⟨k, hk, rfl, rfl, hBr⟩ := hrel
    by_cases hlt : k < 8
    · obtain ⟨j, hj⟩ : ∃ j, k + j = 7 := ⟨7 - k, by omega⟩
      rw [show 7 - (k : Int) = (j : Int) by omega]
      have hoj : o + j < b.length := by rw [← HL.out]; omega
      have c1 := hBr.cell (p := ⟨g, off + (o + j), none⟩) hg3
      rw [HC.out (o + j) b[o + j] (List.getElem?_eq_getElem hoj)] at c1
      have hN : le8 b o (k + 1) = le8 b o k * 256 + b[o + j] := by
        rw [le8, show 7 - k = j by omega, List.getD_eq_getElem?_getD, List.getElem?_eq_getElem hoj]
        rfl
      have hx8 : b[o + j] < 256 := H8.out _ (List.getElem_mem hoj)
      have hle : le8 b o k < 72057594037927936 := by
        have h1 := le8_lt b H8.out o k
        have h2 : 256 ^ k ≤ 256 ^ 7 := Nat.pow_le_pow_right (by decide) (by omega)
        omega
      have HN := Lib.hid hN
      clear hN
      generalize b[o + j] = x at *
      generalize le8 b o k = y at *
      go_wp2_with fail
      exact ⟨⟨k + 1, by omega, by congr 1; omega, by rw [HN.out]; rfl, hBr⟩, by simp [intOf]⟩
    · obtain rfl : k = 8 := by omega
      go_wp2_with fail
      exact bodyPost_ret (v := .int .u64 (le8 b o 8 : Nat)) (by simp [results, Tryz.results95, go_sem]) rfl ⟨rfl, hBr⟩
end Go.Proofs.YtkgglhakimkkhaaGreatDoor
namespace Go.Proofs.YtkgglhakimkkhaaGreatDoor
open Go.RowKit

def tsc (st : List Nat) (cnt : Nat) : List Value := byc st ++ [.int .u64 (cnt : Int)]
def tsV (st : List Nat) (cnt : Nat) : Value := .agg (tsc st cnt).toArray
theorem tsc_len (st : List Nat) (cnt : Nat) (h : st.length = 32) : (tsc st cnt).length = 33 := by unfold tsc; rw [List.length_append, byc_length, h]; rfl
theorem tr_size : (Tryz.prog.info? 60).map (·.size) = some 33 := by kernel_rfl
theorem ts_one (st : List Nat) (cnt : Nat) : (tsc st cnt).all (·.oneCell') = true := by
  unfold tsc
  rw [List.all_append, byc_all]
  rfl
theorem built_tr : ∀ (cs : List Value), cs.length = 32 → Tryz.prog.built 60 [(0, .agg cs.toArray)] = some (cs ++ [Value.int .u64 0]).toArray
  | [a0, a1, a2, a3, a4, a5, a6, a7, a8, a9, a10, a11, a12, a13, a14, a15, a16, a17, a18, a19, a20, a21, a22, a23, a24, a25, a26, a27, a28, a29, a30, a31], _ => by kernel_rfl
theorem bys_blk {W : World} {g lo hi : Nat} {t : TypeId} {l : List Nat} (h : Blk W g t (byc l).toArray) (hb : l.length ≤ 1000000) (hlo : lo ≤ g) (hhi : g < hi) : ByS lo hi W (.slice (some ⟨g, 0, none⟩) l.length l.length) l := by
  refine ⟨by rw [byc_length]; omega, by omega, some ⟨g, 0, none⟩, l.length, rfl, Nat.le_refl _, fun _ => ⟨g, 0, rfl, hlo, hhi, h.lt, fun j u hu => ?_⟩⟩
  rw [Nat.zero_add, h.cell]
  simpa using hu
theorem step_litB {o : Oper} {a : Act} {w : World} {len : Nat} {parts : List (Nat × Operand)} (l : List Nat) (hl : l.length = len) (h0 : 0 < len) (hs : len ≤ 1000000) (ho : o.op = .buildSlice 92 len parts.toArray)
    (hv : (parts.map fun x => (x.1, a.eval x.2)) = ((byc l).zipIdx 0).map fun x => (x.2, x.1)) : stepAt Tryz.prog o a w fun v w' => ByS w.heap.size w'.heap.size w' v l ∧ Below w.heap.size w w' := by
  obtain ⟨iu8, hu8, uz0, uz1, uz2⟩ := info_parts u8_info
  refine stepAt_mono (fun v w' hh => ?_) (step_litF u8_slice hu8 uz0 uz1 (by rw [byc_length]; exact hl) h0 (by omega) ho hv (fun v hv => ?_))
  · obtain ⟨⟨rfl, h1, h2⟩, h3⟩ := hh
    subst hl
    exact ⟨bys_blk h2 hs (Nat.le_refl _) h1, h3⟩
  · obtain ⟨x, _, rfl⟩ := List.mem_map.1 hv
    rfl
theorem tsc_state {W : World} {g : Nat} {t : TypeId} {st : List Nat} {cnt : Nat} (h : Blk W g t (tsc st cnt).toArray) : W.rangeAt g 0 (byc st) := fun j v hv => by
  rw [Nat.zero_add, h.cell]
  unfold tsc
  have hj := (List.getElem?_eq_some_iff.1 hv).1
  simpa [List.getElem?_append_left hj] using hv
theorem tsc_count {W : World} {g : Nat} {t : TypeId} {st : List Nat} {cnt : Nat} (h : Blk W g t (tsc st cnt).toArray) (hl : st.length = 32) : W.cell? ⟨g, 32, none⟩ = some (.int .u64 (cnt : Int)) := by
  rw [h.cell]
  unfold tsc
  simp [byc_length, hl]
theorem step_trB {o : Oper} {a : Act} {w : World} {x : Operand} (l : List Nat) (hl : l.length = 32) (ho : o.op = .build 60 #[(0, x)]) (hx : a.eval x = dgv l) : stepAt Tryz.prog o a w fun v w' => v = tsV l 0 ∧ w' = w := by
  have hr := run_build (P := Tryz.prog) w 60 #[(0, dgv l)] _ (built_tr (byc l) (by rw [byc_length]; exact hl))
  unfold stepAt execOp
  simp only [ho, Sem.run_bind, List.map_toArray, List.map_cons, List.map_nil, hx, hr, Result.andThen_ok]
  exact ⟨rfl, rfl⟩
theorem res_two {P : Program} {fn : Func} {a : Act} {w : World} {s1 s2 : Tmp} {t1 t2 : TypeId} {g1 g2 : Nat} {u1 u2 : TypeId} {c1 c2 : List Value} {d1 d2 : TypeDesc} (hres : fn.results = #[.cell s1 t1, .cell s2 t2]) (hp1 : a.tmps[s1]? = some (.pointer (some ⟨g1, 0, none⟩))) (hp2 : a.tmps[s2]? = some (.pointer (some ⟨g2, 0, none⟩)))
    (hu1 : P.underlying t1 = some d1) (hd1 : d1.isRow = true) (hi1 : (P.info? t1).map (·.size) = some c1.length) (hb1 : Blk w g1 u1 c1.toArray) (hu2 : P.underlying t2 = some d2) (hd2 : d2.isRow = true) (hi2 : (P.info? t2).map (·.size) = some c2.length) (hb2 : Blk w g2 u2 c2.toArray) :
    (results fn a.tmps).run P w = .ok (.tuple #[.agg c1.toArray, .agg c2.toArray]) w := by
  simp [results, hres, hp1, hp2, Sem.run_bind, asAddr, run_loadVar_mid w g1 0 t1 c1 d1 (blk_range hb1) hu1 hd1 hi1, run_loadVar_mid w g2 0 t2 c2 d2 (blk_range hb2) hu2 hd2 hi2]
end Go.Proofs.YtkgglhakimkkhaaGreatDoor
namespace Go.Proofs.YtkgglhakimkkhaaGreatDoor
open Go.RowKit

theorem en_attestor_attestorref10_tagged : ∀ args w, (callFunc 125 args).run Tryz.prog w = .ok (.enter 125 args) w := enters_of Tryz.func125 (by kernel_rfl) rfl
attribute [local irreducible] wpRg
set_option maxRecDepth 100000 in
set_option maxHeartbeats 4000000 in
theorem rTagged (st : List Nat) (cnt tag : Nat) (hst : st.length = 32) (htag : tag < 256) (b : ByteArray) (hb : b.size ≤ 200) (w : World) : Calls Tryz.prog 125 #[tsV st cnt, .int .u8 (tag : Int), .string b] w (RetR (fun lo hi v w => ByS lo hi w v (st ++ [tag, b.size] ++ stB b)) w) := by
  obtain ⟨S, hS⟩ : ∃ S, S = tsV st cnt := ⟨_, rfl⟩
  rw [← hS]
  have HST := Lib.hid hst
  have HSZ := Lib.hid hb
  clear hst
  go_enter Tryz.func125, Tryz.ntmps125
  go_upto_region 1 with (fail)
  refine wp_stk1 fun W hB hz b1 => ?_
  have b1' : Blk W w.heap.size 60 (tsc st cnt).toArray := by first | exact b1 | (rw [hS] at b1; exact b1)
  clear b1 hz
  refine wp_region_lit ?_
  iterate 1 (refine wpList_plain rfl fun K hK => ?_; go_big_op; refine hK _ _ ?_; clear hK K)
  refine wpList_plain rfl fun K2 hK2 => wp_of_step (stepAt_mono (fun v9 w9 hh => ?_) (step_loadR0 (cs := byc st) b32_under rfl (by rw [b32_size, byc_length, HST.out]) rfl rfl (tsc_state b1')))
  obtain ⟨rfl, rfl⟩ := hh
  refine hK2 _ _ ?_
  clear hK2 K2
  try simp only [Act.put, List.setIfInBounds_toArray, List.set_cons_succ, List.set_cons_zero]
  refine wpList_plain rfl fun K3 hK3 => wp_of_step (stepAt_mono (fun v10 w10 hh => ?_) (step_callr en_attestor_attestorref07_Bytes (rBytes st HST.out _) rfl rfl))
  obtain ⟨s10, B10⟩ := hh
  refine hK3 _ _ ?_
  clear hK3 K3
  try simp only [Act.put, List.setIfInBounds_toArray, List.set_cons_succ, List.set_cons_zero]
  iterate 4 (refine wpList_plain rfl fun K hK => ?_; go_big_op; refine hK _ _ ?_; clear hK K)
  refine wpList_plain rfl fun K5 hK5 => wp_of_step (stepAt_mono (fun v15 w15 hh => ?_) (step_litB [tag, b.size] rfl (by simp) (by simp) rfl (by simp [Act.eval, Act.put, byc])))
  obtain ⟨s15, B15⟩ := hh
  refine hK5 _ _ ?_
  clear hK5 K5
  try simp only [Act.put, List.setIfInBounds_toArray, List.set_cons_succ, List.set_cons_zero]
  refine wpList_plain rfl fun K6 hK6 => wp_of_step (stepAt_mono (fun v16 w16 hh => ?_) (step_callr en_attestor_attestorref07_Join (rJoin st [tag, b.size] (by rw [HST.out]; decide) (by simp) _ _ _ _ _ _ _ (s10.keep B15) s15) rfl rfl))
  obtain ⟨s16, B16⟩ := hh
  refine hK6 _ _ ?_
  clear hK6 K6
  try simp only [Act.put, List.setIfInBounds_toArray, List.set_cons_succ, List.set_cons_zero]
  have B2 := hB.trans ((B10.trans ((B15.trans (B16.mono B15.size)).mono B10.size)).mono hB.size)
  obtain ⟨A16, c16, rfl⟩ := s16.len
  have hL16 : (st ++ [tag, b.size]).length = 34 := by rw [List.length_append, HST.out]; rfl
  have H16 := Lib.hid s16
  have HL16 := Lib.hid hL16
  rw [hL16]
  rw [hL16] at s16
  clear B10 B15 B16 s10 s15 hL16
  go_upto_region 2 with (fail)
  refine wp_region_lit ?_
  iterate 2 (refine wpList_plain rfl fun K hK => ?_; go_big_op; refine hK _ _ ?_; clear hK K)
  refine wpList_plain rfl fun K8 hK8 => wp_of_step (stepAt_mono (fun v19 w19 hh => ?_) (step_bytes rfl rfl (Nat.le_trans HSZ.out (by decide))))
  obtain ⟨s19, B19⟩ := hh
  refine hK8 _ _ ?_
  clear hK8 K8
  try simp only [Act.put, List.setIfInBounds_toArray, List.set_cons_succ, List.set_cons_zero]
  have H34 : ByS w15.heap.size w16.heap.size w16 (.slice A16 34 c16) (st ++ [tag, b.size]) := by rw [show (34 : Nat) = (st ++ [tag, b.size]).length from HL16.out.symm]; exact H16.out
  refine wpList_plain rfl fun K9 hK9 => wp_of_step (stepAt_mono (fun v20 w20 hh => ?_) (step_callr en_attestor_attestorref07_Join (rJoin (st ++ [tag, b.size]) (stB b) (by rw [HL16.out]; decide) (by rw [stB_len]; have := HSZ.out; omega) _ _ _ _ _ _ _ (H34.keep B19) s19) rfl rfl))
  obtain ⟨s20, B20⟩ := hh
  refine hK9 _ _ ?_
  clear hK9 K9
  try simp only [Act.put, List.setIfInBounds_toArray, List.set_cons_succ, List.set_cons_zero]
  have B3 := B2.trans ((B19.trans (B20.mono B19.size)).mono B2.size)
  have hw19 : w.heap.size ≤ w19.heap.size := by have := B2.size; have := B19.size; omega
  obtain ⟨A20, c20, rfl⟩ := s20.len
  obtain ⟨L20, hL20⟩ : ∃ L, L = (st ++ [tag, b.size] ++ stB b).length := ⟨_, rfl⟩
  have H20 := Lib.hid s20
  rw [← hL20]
  have HL20 := Lib.hid hL20
  clear s20 hL20 s19 B19 B20 B2 s16 H34 H16
  go_wp2_with fail
  refine bodyPost_ret (v := .slice A20 L20 c20) (by simp [results, Tryz.results125, go_sem]) rfl ⟨_, rfl, ?_, B3⟩
  rw [HL20.out]
  exact H20.out.wide hw19 (Nat.le_refl _)
end Go.Proofs.YtkgglhakimkkhaaGreatDoor
namespace Go.Proofs.YtkgglhakimkkhaaGreatDoor
open Go.RowKit

theorem exB_len (l : List E) : (exB l).length = 16 * l.length := by
  unfold exB
  induction l with
  | nil => rfl
  | cons x l ih => rw [List.flatMap_cons, List.length_append, ih, List.length_append, w8_length, w8_length, List.length_cons]; omega
def exK (k : Nat) (l : List E) : List Nat := exB (l.take k)
theorem exK_zero (l : List E) : exK 0 l = [] := rfl
theorem exK_next (l : List E) (k : Nat) (x : E) (h : l[k]? = some x) : exK k l ++ (w8 (fv x.a).toNat ++ w8 (fv x.b).toNat) = exK (k + 1) l := by
  unfold exK exB
  rw [List.take_add_one, h, List.flatMap_append]
  simp
theorem exK_all (l : List E) : exK l.length l = exB l := by
  unfold exK
  rw [List.take_length]
theorem exK_len (l : List E) (k : Nat) : (exK k l).length ≤ 16 * k := by
  unfold exK
  rw [exB_len, List.length_take]
  omega
theorem fv_nat (x : Fp) : ((fv x).toNat : Int) = fv x ∧ (fv x).toNat < 18446744073709551616 := by
  have h1 := fv_lo x
  have h2 := fv_hi x
  omega
theorem en_attestor_attestorref10_Bytes : ∀ args w, (callFunc 99 args).run Tryz.prog w = .ok (.enter 99 args) w := enters_of Tryz.func99 (by kernel_rfl) rfl
attribute [local irreducible] wpRg
set_option maxRecDepth 100000 in
set_option maxHeartbeats 4000000 in
theorem rExB (l : List E) (hl : l.length ≤ 10000) (v : Value) (lo hi : Nat) (w : World) (h : ExtS lo hi w v l) : Calls Tryz.prog 99 #[v] w (RetR (fun lo hi v w => ByS lo hi w v (exB l)) w) := by
  obtain ⟨A, cap, rfl⟩ := Rd.len h
  have HV := Lib.hid h
  clear h
  go_enter Tryz.func99, Tryz.ntmps99
  go_upto_region 1 with (fail)
  refine wp_region_lit ?_
  refine wpList_new0 rfl rfl fun v1 w1 o1 B1 => ?_
  go_wp2_with fail
  go_loopw [3, 4] (fun u i wr => ∃ k : Nat, k ≤ l.length ∧ i = .int .i64 k ∧ OwB w.heap.size wr u (exK k l) ∧ Below w.heap.size w wr) (fun _ i _ => l.length - (intOf i).toNat)
  case atStart => exact ⟨0, Nat.zero_le _, rfl, by rw [exK_zero]; exact o1, B1⟩
  case round =>
    obtain ⟨k, hk, rfl, ho, hBr⟩ := hrel
    obtain ⟨A1, c1, rfl⟩ := ho.len
    by_cases hlt : k < l.length
    · obtain ⟨g, off, cap', hA, hc, hg1, hg2, hg3, hcell⟩ := exts_cells HV.out (by omega)
      cases hA
      obtain ⟨x, hx⟩ : ∃ x, l[k]? = some x := ⟨_, List.getElem?_eq_getElem hlt⟩
      obtain ⟨q1, q2⟩ := hcell k x hx
      have e1 := hBr.cell (p := ⟨g, off + k * 2, none⟩) hg3
      have e2 := hBr.cell (p := ⟨g, off + k * 2 + 1, none⟩) hg3
      rw [q1] at e1
      rw [q2] at e2
      have hex := exK_len l k
      have hex2 := exK_len l (k + 1)
      have hnx := exK_next l k x hx
      have hbase := hBr.size
      have HK := Lib.hid hnx
      have HQ := Lib.hid q2
      clear hcell q1 q2 hnx e2
      go_upto_region 5 with (fail)
      refine wp_region_lit ?_
      iterate 6 (refine wpList_plain rfl fun K hK => ?_; go_big_op; refine hK _ _ ?_; clear hK K)
      refine wpList_plain rfl fun K2 hK2 => wp_of_step (stepAt_mono (fun v18 w18 hh => ?_) (step_callr en_attestor_attestorref10_Word (rWord (fv x.a).toNat (fv_nat x.a).2 _) rfl (by simp [Act.eval, (fv_nat x.a).1])))
      obtain ⟨s18, B18⟩ := hh
      refine hK2 _ _ ?_
      clear hK2 K2
      try simp only [Act.put, List.setIfInBounds_toArray, List.set_cons_succ, List.set_cons_zero]
      refine wpList_cat rfl _ _ rfl rfl rfl s18 (ho.keep B18) (by omega) (by rw [w8_length]; decide) (by have := B18.size; omega) fun v19 w19 o19 B19 => ?_
      obtain ⟨D, hD⟩ : ∃ D, D = exK k l ++ w8 (fv x.a).toNat := ⟨_, rfl⟩
      rw [← hD] at o19
      have hDl : D.length ≤ 16 * k + 8 := by rw [hD, List.length_append, w8_length]; omega
      have B2 := (hBr.trans ((B18.mono hBr.size).trans B19))
      have e2 := B2.cell (p := ⟨g, off + k * 2 + 1, none⟩) hg3
      rw [HQ.out] at e2
      obtain ⟨A19, c19, rfl⟩ := o19.len
      have hb19 := B2.size
      have HD := Lib.hid hD
      clear hD e1 B19 B18 s18 ho hBr
      go_upto_region 6 with (fail)
      refine wp_region_lit ?_
      iterate 6 (refine wpList_plain rfl fun K hK => ?_; go_big_op; refine hK _ _ ?_; clear hK K)
      refine wpList_plain rfl fun K4 hK4 => wp_of_step (stepAt_mono (fun v26 w26 hh => ?_) (step_callr en_attestor_attestorref10_Word (rWord (fv x.b).toNat (fv_nat x.b).2 _) rfl (by simp [Act.eval, (fv_nat x.b).1])))
      obtain ⟨s26, B26⟩ := hh
      refine hK4 _ _ ?_
      clear hK4 K4
      try simp only [Act.put, List.setIfInBounds_toArray, List.set_cons_succ, List.set_cons_zero]
      refine wpList_cat rfl _ _ rfl rfl rfl s26 (o19.keep B26) (by omega) (by rw [w8_length]; decide) (by have := B26.size; omega) fun v27 w27 o27 B27 => ?_
      rw [HD.out, List.append_assoc, HK.out] at o27
      have B3 := B2.trans ((B26.mono B2.size).trans B27)
      clear o19 B26 B27 s26 B2 e2
      obtain ⟨A27, c27, rfl⟩ := o27.len
      go_wp2_with fail
      exact ⟨⟨k + 1, by omega, by go_num, o27, B3⟩, by simp [intOf]; omega⟩
    · obtain rfl : k = l.length := by omega
      have hlen := exK_len l l.length
      rw [exK_all] at ho hlen ⊢
      obtain ⟨D, hD⟩ : ∃ D, D = exB l := ⟨_, rfl⟩
      rw [← hD] at ho hlen ⊢
      have HD := Lib.hid hD
      clear hD
      go_wp2_with fail
      refine bodyPost_ret (v := .slice A1 D.length c1) (by simp [results, Tryz.results99, go_sem]) rfl ⟨_, rfl, ?_, hBr⟩
      show ByS _ _ _ _ (exB l)
      rw [← HD.out]
      exact ho.bys (by omega) (Nat.le_refl _)
end Go.Proofs.YtkgglhakimkkhaaGreatDoor
namespace Go.Proofs.YtkgglhakimkkhaaGreatDoor
open Go.RowKit

theorem en_attestor_attestorref10_output : ∀ args w, (callFunc 94 args).run Tryz.prog w = .ok (.enter 94 args) w := enters_of Tryz.func94 (by kernel_rfl) rfl
theorem en_attestor_attestorref10_Absorb : ∀ args w, (callFunc 98 args).run Tryz.prog w = .ok (.enter 98 args) w := enters_of Tryz.func98 (by kernel_rfl) rfl
theorem tagL_len (st lab rest : List Nat) (tag : Nat) : (tagL st tag lab rest).length = st.length + 2 + lab.length + rest.length := by unfold tagL; simp; omega
theorem tagL_lt (st lab rest : List Nat) (tag : Nat) (h1 : ∀ x ∈ st, x < 256) (h2 : tag < 256) (h3 : lab.length < 256) (h4 : ∀ x ∈ lab, x < 256) (h5 : ∀ x ∈ rest, x < 256) : ∀ x ∈ tagL st tag lab rest, x < 256 := by
  intro x hx
  unfold tagL at hx
  simp only [List.mem_append, List.mem_cons, List.not_mem_nil, or_false] at hx
  rcases hx with ((hx | hx | hx) | hx) | hx
  · exact h1 x hx
  · omega
  · omega
  · exact h4 x hx
  · exact h5 x hx
def ByA (l : List Nat) (lo hi : Nat) (v : Value) (w : World) : Prop := ByS lo hi w v l
theorem by_st {l : List Nat} : Stable (ByA l) := fun _ _ _ _ _ h hb => Rd.below h hb (Nat.le_refl _)
attribute [local irreducible] wpRg
set_option maxRecDepth 100000 in
set_option maxHeartbeats 4000000 in
theorem rOut (st : List Nat) (cnt tag : Nat) (hst : st.length = 32) (hs8 : ∀ x ∈ st, x < 256) (hcnt : cnt < 18446744073709551616) (htag : tag < 256) (b : ByteArray) (hb : b.size ≤ 200) (w : World) :
    Calls Tryz.prog 94 #[tsV st cnt, .int .u8 (tag : Int), .string b] w (RetR (fun lo hi v w => ByS lo hi w v (sha (tagL st tag (stB b) (w8 cnt)))) w) := by
  obtain ⟨S, hS⟩ : ∃ S, S = tsV st cnt := ⟨_, rfl⟩
  rw [← hS]
  have hlb : (stB b).length = b.size := stB_len b
  have HT8 := Lib.hid (tagL_lt st (stB b) (w8 cnt) tag hs8 htag (by omega) (stB_lt b) (w8_lt cnt))
  have HTL := Lib.hid (tagL_len st (stB b) (w8 cnt) tag)
  have HJ0 := Lib.hid (show st ++ [tag, b.size] ++ stB b ++ w8 cnt = tagL st tag (stB b) (w8 cnt) by unfold tagL; rw [hlb])
  have HJ1 := Lib.hid (show (st ++ [tag, b.size] ++ stB b).length ≤ 5000000 by simp [hst, hlb]; omega)
  have HJ2 := Lib.hid (show (st ++ [tag, b.size] ++ stB b ++ w8 cnt).length ≤ 1000000 by simp [hst, hlb, w8_length]; omega)
  have HJ3 := Lib.hid (show ∀ x ∈ st ++ [tag, b.size] ++ stB b ++ w8 cnt, x < 256 by rw [HJ0.out]; exact HT8.out)
  have HST := Lib.hid hst
  have HSZ := Lib.hid hb
  clear hst hs8 hlb
  go_enter Tryz.func94, Tryz.ntmps94
  go_upto_region 1 with (fail)
  refine wp_stk1 fun W hB hz b1 => ?_
  have b1' : Blk W w.heap.size 60 (tsc st cnt).toArray := by first | exact b1 | (rw [hS] at b1; exact b1)
  have hWs : W.heap.size = w.heap.size + 1 := hz.out
  clear b1 hz
  have c32 := gw_cell b1'.lt (tsc_count b1' HST.out)
  refine wp_region_rg 10 [(0, Spec.val (tsV st cnt)), (3, Spec.rel (ByA (st ++ [tag, b.size] ++ stB b)) AnyV), (6, Spec.rel (ByA (w8 cnt)) AnyV), (7, Spec.rel (ByA (st ++ [tag, b.size] ++ stB b ++ w8 cnt)) AnyV), (8, Spec.val (dgv (sha (st ++ [tag, b.size] ++ stB b ++ w8 cnt)))), (9, Spec.rel (ByA (sha (st ++ [tag, b.size] ++ stB b ++ w8 cnt))) AnyV)] (by kernel_rfl) (by kernel_rfl) (by kernel_rfl) ⟨fit_of (by_st), fit_of (by_st), fit_of (by_st), fit_of (by_st), trivial⟩ ?_
  refine rg_val rfl rfl (fun W1 hW1 hF => step_loadR (cs := tsc st cnt) Tryz.underlying60 rfl (by rw [tr_size, tsc_len _ _ HST.out]) rfl rfl (blk_range (b1'.below (grw_below hW1) b1'.lt))) ?_
  intro a' ha
  simp only [Act.put, List.setIfInBounds_toArray, List.set_cons_succ, List.set_cons_zero] at ha
  subst ha
  iterate 2 (refine rg_det rfl rfl rfl (fun K hK => ?_); go_big_quiet_op; refine hK _ ?_; clear hK K)
  refine rg_rel rfl rfl (fun W1 hW1 hF => step_callr en_attestor_attestorref10_tagged (rTagged st cnt tag HST.out htag b HSZ.out W1) rfl rfl) ?_
  intro n3 m3 v3 hn3 hm3 hd3 hf3 a' ha
  simp only [Act.put, List.setIfInBounds_toArray, List.set_cons_succ, List.set_cons_zero] at ha
  subst ha
  iterate 2 (refine rg_det rfl rfl rfl (fun K hK => ?_); go_big_quiet_op; refine hK _ ?_; clear hK K)
  refine rg_rel rfl rfl (fun W1 hW1 hF => step_callr en_attestor_attestorref10_Word (rWord cnt hcnt W1) rfl rfl) ?_
  intro n6 m6 v6 hn6 hm6 hd6 hf6 a' ha
  simp only [Act.put, List.setIfInBounds_toArray, List.set_cons_succ, List.set_cons_zero] at ha
  subst ha
  refine rg_rel rfl rfl (fun W1 hW1 hF => step_callr en_attestor_attestorref07_Join (rJoin (st ++ [tag, b.size] ++ stB b) (w8 cnt) (HJ1.out) (by rw [w8_length]; decide) _ _ _ _ _ _ W1 (pick_last (pick_init hF) (by kernel_rfl)).2 (pick_last hF (by kernel_rfl)).2) rfl rfl) ?_
  intro n7 m7 v7 hn7 hm7 hd7 hf7 a' ha
  simp only [Act.put, List.setIfInBounds_toArray, List.set_cons_succ, List.set_cons_zero] at ha
  subst ha
  refine rg_val rfl rfl (fun W1 hW1 hF => step_callv en_attestor_attestorref07_Sum (rSum (st ++ [tag, b.size] ++ stB b ++ w8 cnt) HJ2.out HJ3.out _ _ _ W1 (pick_last hF (by kernel_rfl)).2) rfl rfl) ?_
  intro a' ha
  simp only [Act.put, List.setIfInBounds_toArray, List.set_cons_succ, List.set_cons_zero] at ha
  subst ha
  refine rg_rel rfl rfl (fun W1 hW1 hF => step_callr en_attestor_attestorref07_Bytes (rBytes (sha (st ++ [tag, b.size] ++ stB b ++ w8 cnt)) (sha_length _) W1) rfl rfl) ?_
  intro n9 m9 v9 hn9 hm9 hd9 hf9 a' ha
  simp only [Act.put, List.setIfInBounds_toArray, List.set_cons_succ, List.set_cons_zero] at ha
  subst ha
  refine rg_nil (fun w' hw' hF => ?_)
  obtain ⟨z, rfl⟩ := hw'
  simp only [List.drop_succ_cons, List.drop_zero]
  obtain ⟨hm, t9⟩ := end_last hF
  clear hF c32
  have hBz := hB.trans (z.h.mono hB.size)
  have hn9' : w.heap.size ≤ n9 := by omega
  have T9 := Lib.hid t9
  clear t9 hd3 hd6 hd7 hd9 hf3 hf6 hf7 hf9
  go_wp2_with fail
  refine bodyPost_ret (v := v9) (by simp [results, Tryz.results94, go_sem]) rfl ⟨_, rfl, ?_, hBz⟩
  show ByS _ _ _ _ _
  rw [← HJ0.out]
  exact (T9.out).wide hn9' hm
end Go.Proofs.YtkgglhakimkkhaaGreatDoor
namespace Go.Proofs.YtkgglhakimkkhaaGreatDoor
open Go.RowKit

theorem absT_len (st lab l : List Nat) : (absT st lab l).length = 32 := sha_length _
theorem absT_eq (st l : List Nat) (b : ByteArray) : sha (st ++ [1, b.size] ++ stB b ++ w8 l.length ++ l) = absT st (stB b) l := by
  unfold absT tagL
  rw [stB_len, List.append_assoc _ (w8 l.length) l]
attribute [local irreducible] wpRg
set_option maxRecDepth 100000 in
set_option maxHeartbeats 4000000 in
theorem rAbsorb (st l : List Nat) (cnt : Nat) (hst : st.length = 32) (hs8 : ∀ x ∈ st, x < 256) (b : ByteArray) (hb : b.size ≤ 200) (hl : l.length ≤ 200000) (hl8 : ∀ x ∈ l, x < 256) (v : Value) (lo hi : Nat) (w : World) (h : ByS lo hi w v l) :
    Calls Tryz.prog 98 #[tsV st cnt, .string b, v] w (Ret (tsV (absT st (stB b) l) 0) w) := by
  obtain ⟨S, hS⟩ : ∃ S, S = tsV st cnt := ⟨_, rfl⟩
  rw [← hS]
  obtain ⟨A, cap, rfl⟩ := h.len
  have hlb : (stB b).length = b.size := stB_len b
  have HJ1 := Lib.hid (show (st ++ [1, b.size] ++ stB b).length ≤ 5000000 by simp [hst, hlb]; omega)
  have HJ2 := Lib.hid (show (st ++ [1, b.size] ++ stB b ++ w8 l.length).length ≤ 5000000 by simp [hst, hlb, w8_length]; omega)
  have HJ3 := Lib.hid (show (st ++ [1, b.size] ++ stB b ++ w8 l.length ++ l).length ≤ 1000000 by simp [hst, hlb, w8_length]; omega)
  have HJ4 := Lib.hid (show ∀ x ∈ st ++ [1, b.size] ++ stB b ++ w8 l.length ++ l, x < 256 by
    have := tagL_lt st (stB b) (w8 l.length ++ l) 1 hs8 (by decide) (by omega) (stB_lt b) (fun x hx => by rcases List.mem_append.1 hx with h | h; exact w8_lt _ x h; exact hl8 x h)
    unfold tagL at this
    rw [hlb, ← List.append_assoc _ (w8 l.length) l] at this
    exact this)
  have HV := Lib.hid h
  have HST := Lib.hid hst
  have HSZ := Lib.hid hb
  clear hst hs8 hlb h hl8
  go_enter Tryz.func98, Tryz.ntmps98
  go_upto_region 1 with (fail)
  refine wp_stk2 fun W hB hz b1 b2 => ?_
  have b1' : Blk W w.heap.size 60 (tsc st cnt).toArray := by first | exact b1 | (rw [hS] at b1; exact b1)
  obtain ⟨cs0, hcs0, b2'⟩ : ∃ cs : Array Value, cs.size = 33 ∧ Blk W (w.heap.size + 1) 60 cs := ⟨_, rfl, b2⟩
  have hWs : W.heap.size = w.heap.size + 1 + 1 := hz.out
  clear b1 b2 hz
  refine wp_region_lit ?_
  refine wpList_plain rfl fun K1 hK1 => wp_of_step (stepAt_mono (fun v8 w8' hh => ?_) (step_loadR0 (cs := tsc st cnt) Tryz.underlying60 rfl (by rw [tr_size, tsc_len _ _ HST.out]) rfl rfl (blk_range b1')))
  obtain ⟨rfl, rfl⟩ := hh
  refine hK1 _ _ ?_
  clear hK1 K1
  try simp only [Act.put, List.setIfInBounds_toArray, List.set_cons_succ, List.set_cons_zero]
  iterate 1 (refine wpList_plain rfl fun K hK => ?_; go_big_op; refine hK _ _ ?_; clear hK K)
  refine wpList_plain rfl fun K3 hK3 => wp_of_step (stepAt_mono (fun v10 w10 hh => ?_) (step_callr en_attestor_attestorref10_tagged (rTagged st cnt 1 HST.out (by decide) b HSZ.out _) rfl rfl))
  obtain ⟨s10, B10⟩ := hh
  refine hK3 _ _ ?_
  clear hK3 K3
  try simp only [Act.put, List.setIfInBounds_toArray, List.set_cons_succ, List.set_cons_zero]
  iterate 3 (refine wpList_plain rfl fun K hK => ?_; go_big_op; refine hK _ _ ?_; clear hK K)
  refine wpList_plain rfl fun K5 hK5 => wp_of_step (stepAt_mono (fun v14 w14 hh => ?_) (step_callr en_attestor_attestorref10_Word (rWord l.length (by omega) _) rfl rfl))
  obtain ⟨s14, B14⟩ := hh
  refine hK5 _ _ ?_
  clear hK5 K5
  try simp only [Act.put, List.setIfInBounds_toArray, List.set_cons_succ, List.set_cons_zero]
  refine wpList_plain rfl fun K6 hK6 => wp_of_step (stepAt_mono (fun v15 w15 hh => ?_) (step_callr en_attestor_attestorref07_Join (rJoin (st ++ [1, b.size] ++ stB b) (w8 l.length) HJ1.out (by rw [w8_length]; decide) _ _ _ _ _ _ _ (s10.keep B14) s14) rfl rfl))
  obtain ⟨s15, B15⟩ := hh
  refine hK6 _ _ ?_
  clear hK6 K6
  try simp only [Act.put, List.setIfInBounds_toArray, List.set_cons_succ, List.set_cons_zero]
  have B2 := hB.trans ((B10.trans ((B14.trans (B15.mono B14.size)).mono B10.size)).mono hB.size)
  have b15 := b2'.keep (B10.trans ((B14.trans (B15.mono B14.size)).mono B10.size))
  have HS15 := Lib.hid s15
  clear s15 s14 s10 B10 B14 B15 b2' b1'
  go_upto_region 2 with (fail)
  refine wp_region_lit ?_
  iterate 2 (refine wpList_plain rfl fun K hK => ?_; go_big_op; refine hK _ _ ?_; clear hK K)
  refine wpList_plain rfl fun K8 hK8 => wp_of_step (stepAt_mono (fun v18 w18 hh => ?_) (step_callr en_attestor_attestorref07_Join (rJoin (st ++ [1, b.size] ++ stB b ++ w8 l.length) l HJ2.out (by omega) _ _ _ _ _ _ _ HS15.out (HV.out.keep B2)) rfl rfl))
  obtain ⟨s18, B18⟩ := hh
  refine hK8 _ _ ?_
  clear hK8 K8
  try simp only [Act.put, List.setIfInBounds_toArray, List.set_cons_succ, List.set_cons_zero]
  refine wpList_plain rfl fun K9 hK9 => wp_of_step (stepAt_mono (fun v19 w19 hh => ?_) (step_callv en_attestor_attestorref07_Sum (rSum _ HJ3.out HJ4.out _ _ _ _ s18) rfl rfl))
  obtain ⟨rfl, B19⟩ := hh
  refine hK9 _ _ ?_
  clear hK9 K9
  try simp only [Act.put, List.setIfInBounds_toArray, List.set_cons_succ, List.set_cons_zero]
  refine wpList_plain rfl fun K10 hK10 => wp_of_step (stepAt_mono (fun v20 w20 hh => ?_) (step_trB _ (sha_length _) rfl rfl))
  obtain ⟨rfl, rfl⟩ := hh
  refine hK10 _ _ ?_
  clear hK10 K10
  try simp only [Act.put, List.setIfInBounds_toArray, List.set_cons_succ, List.set_cons_zero]
  rw [absT_eq]
  have b20 := (b15.keep B18).keep B19
  refine wpList_put rfl 60 (.tmp 6) (.tmp 20) rfl rfl (cells := tsc (absT st (stB b) l) 0) rfl b20 (by rw [tsc_len _ _ (absT_len _ _ _), hcs0]; decide) (by rw [tr_size, tsc_len _ _ (absT_len _ _ _)]) (ts_one _ _) (spl_all _ _ (by rw [hcs0, tsc_len _ _ (absT_len _ _ _)])) fun Y hY bY => ?_
  have hBY := below_put (B2.trans ((B18.trans (B19.mono B18.size)).mono B2.size)) hY (Nat.le_succ _)
  clear s18 B18 B19 b20 b15 B2 HS15
  go_wp2_with fail
  exact bodyPost_ret (v := tsV (absT st (stB b) l) 0) (res_row (g := w.heap.size + 1) rfl rfl Tryz.underlying60 rfl (by rw [tr_size, tsc_len _ _ (absT_len _ _ _)]) bY) rfl ⟨rfl, hBY⟩
end Go.Proofs.YtkgglhakimkkhaaGreatDoor
