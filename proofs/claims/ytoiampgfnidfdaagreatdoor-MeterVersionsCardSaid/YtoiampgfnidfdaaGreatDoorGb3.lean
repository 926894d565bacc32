/-
  Rows of bytes in the reference: joined, drawn from a digest, from a word and from a label.
  Rows of bytes in the reference: of a digest, of a word; the number that 8 bytes encode.
  A transcript as a value, and the laws of its making.
  Transcripts of the reference: the tagged bytes.
  Transcripts of the reference: the bytes of elements, the hash output, the challenge.
  Transcripts of the reference: the hash output, absorbing, the challenge.
  Transcripts of the reference: absorbing.
  The law of a region that draws its order, for a region in which one operation of the head may come behind the first of the forced ones: the two orders are walked one by one.
  Transcripts of the reference: absorbing elements, the challenge.
  Transcripts of the reference: a new one.
  The program's rotation, and bytes: a copy, a word appended, a word read.
  The program's bytes: a word appended, a word read.
  The library's Grow of nil and Concat, of bytes.
-/
import Derived.Test.YtoiampgfnidfdaaGreatDoorSe
import Derived.Lib.ConvBytes
import Derived.Lib.AppendStr
import Derived.Test.YtoiampgfnidfdaaGreatDoorZv
import Derived.Lib.AppendZeros
import Derived.Lib.AppendZerosOnto
namespace Go.Proofs.YtoiampgfnidfdaaGreatDoor
open Go.RowKit

def OwB (base : Nat) (w : World) (v : Value) (l : List Nat) : Prop := w.ownsRow base 5 1 v l.length (byc l)
theorem OwB.len {base : Nat} {w : World} {v : Value} {l : List Nat} (h : OwB base w v l) : ∃ A cap, v = .slice A l.length cap := by
  rcases h.2 with ⟨rfl, e⟩ | ⟨g, cap, cur, rfl, _⟩
  · exact ⟨none, 0, by rw [e]⟩
  · exact ⟨_, cap, rfl⟩
theorem OwB.bys {base hi : Nat} {w : World} {v : Value} {l : List Nat} (h : OwB base w v l) (hn : l.length ≤ 10000000) (hh : w.heap.size ≤ hi) : ByS base hi w v l := Rd.of_own h (by omega) hh
theorem OwB.keep {base : Nat} {w X : World} {v : Value} {l : List Nat} (h : OwB base w v l) (hb : Below w.heap.size w X) : OwB base X v l := own_below h (Nat.le_refl _) hb
theorem wpList_new0 {ops : Array Oper} {rest : List Oper} {o : Oper} {a : Act} {Q : Exit → Act → World → Prop} {X : World} (g : o.guard = none) (ho : o.op = .buildSlice 56 0 #[])
    (h : ∀ v w', OwB X.heap.size w' v [] → Below X.heap.size X w' → wpList Tryz.prog ops Q rest (a.put o.dst v) w') : wpList Tryz.prog ops Q (o :: rest) a X := by
  obtain ⟨iu8, hu8, uz0, uz1, uz2⟩ := info_parts u8_info
  refine wpList_plain g fun K hK => wp_of_step (stepAt_mono (fun v0 w1 hh => ?_) (step_lit0 u8_slice hu8 uz0 ho))
  obtain ⟨⟨rfl, hl1, b1⟩, hB1⟩ := hh
  exact hK _ _ (h _ _ ⟨rfl, .inr ⟨X.heap.size, 0, #[], rfl, Nat.le_refl _, b1, Nat.le_refl _, by simp, by simp [byc]⟩⟩ hB1)
theorem wpList_cat {ops : Array Oper} {rest : List Oper} {o : Oper} {a : Act} {Q : Exit → Act → World → Prop} {X : World} {base lo hi : Nat} {l m : List Nat} {u v : Value} (g : o.guard = none) (s x : Operand)
    (ho : o.op = .call { callee := .builtin .append, args := #[s, x], argTypes := #[56, 56] }) (hs : a.eval s = u) (hx : a.eval x = v) (hr : ByS lo hi X v m) (hown : OwB base X u l) (hl : l.length ≤ 10000000) (hm : m.length ≤ 10000000) (hbase : base ≤ X.heap.size)
    (h : ∀ v' w', OwB base w' v' (l ++ m) → Below base X w' → wpList Tryz.prog ops Q rest (a.put o.dst v') w') : wpList Tryz.prog ops Q (o :: rest) a X := by
  obtain ⟨iu8, hu8, uz0, uz1, uz2⟩ := info_parts u8_info
  refine wpList_appB g s x ho u8_slice hu8 uz0 uz1 uz2 rfl (by decide) (byc_one m) hs hx hr hown (by unfold maxLen; omega) (by omega) hbase fun v2 w2 hown1 _ hB2 => ?_
  refine h _ _ ?_ hB2
  unfold OwB
  rw [byc_app, List.length_append]
  exact hown1
theorem u8_under : Tryz.prog.underlying 5 = some (.int .u8) := by kernel_rfl
theorem en_attestor_attestorref07_Join : ∀ args w, (callFunc 117 args).run Tryz.prog w = .ok (.enter 117 args) w := enters_of Tryz.func117 (by kernel_rfl) rfl
attribute [local irreducible] wpRg
set_option maxRecDepth 100000 in
set_option maxHeartbeats 4000000 in
theorem rJoin (a b : List Nat) (ha : a.length ≤ 5000000) (hb : b.length ≤ 5000000) (v u : Value) (lo hi lo2 hi2 : Nat) (w : World) (h : ByS lo hi w v a) (k : ByS lo2 hi2 w u b) : Calls Tryz.prog 117 #[v, u] w (RetR (fun lo hi v w => ByS lo hi w v (a ++ b)) w) := by
  obtain ⟨Aa, ca, rfl⟩ := h.len
  obtain ⟨Ab, cb, rfl⟩ := k.len
  have HV := Lib.hid h
  have HU := Lib.hid k
  have HA := Lib.hid ha
  have HB := Lib.hid hb
  clear h k ha hb
  go_enter Tryz.func117, Tryz.ntmps117
  go_upto_region 1 with (fail)
  refine wp_region_lit ?_
  refine wpList_new0 rfl rfl fun v1 w1 o1 hB1 => ?_
  refine wpList_plain rfl fun K2 hK2 => wp_of_step (stepAt_mono (fun v2 w2 hh => ?_) (step_move (u := .slice Aa a.length ca) rfl rfl))
  obtain ⟨rfl, hw1⟩ := hh
  rw [hw1]
  refine hK2 _ _ ?_
  clear hK2 K2 hw1
  refine wpList_cat rfl _ _ rfl rfl rfl (HV.out.keep hB1) o1 (by decide) (by have := HA.out; omega) hB1.size fun v3 w3 o3 hB3 => ?_
  rw [List.nil_append] at o3
  have B3 := hB1.trans hB3
  clear o1 hB1 hB3
  go_upto_region 2 with (fail)
  refine wp_region_lit ?_
  refine wpList_plain rfl fun K2 hK2 => wp_of_step (stepAt_mono (fun v2 w2 hh => ?_) (step_move (u := v3) rfl rfl))
  obtain ⟨rfl, hw1⟩ := hh
  rw [hw1]
  refine hK2 _ _ ?_
  clear hK2 K2 hw1
  refine wpList_plain rfl fun K2 hK2 => wp_of_step (stepAt_mono (fun v2 w2 hh => ?_) (step_move (u := .slice Ab b.length cb) rfl rfl))
  obtain ⟨rfl, hw1⟩ := hh
  rw [hw1]
  refine hK2 _ _ ?_
  clear hK2 K2 hw1
  refine wpList_cat rfl _ _ rfl rfl rfl (HU.out.keep B3) o3 (by have := HA.out; omega) (by have := HB.out; omega) B3.size fun v4 w4 o4 hB4 => ?_
  have B4 := B3.trans hB4
  clear o3 B3 hB4
  obtain ⟨A4, c4, rfl⟩ := o4.len
  have HO := Lib.hid o4
  clear o4
  go_wp2_with fail
  refine bodyPost_ret (v := .slice A4 (a ++ b).length c4) (by simp [results, Tryz.results117, go_sem]) rfl ⟨_, rfl, ?_, B4⟩
  exact HO.out.bys (by rw [List.length_append]; have := HA.out; have := HB.out; omega) (Nat.le_refl _)
end Go.Proofs.YtoiampgfnidfdaaGreatDoor
namespace Go.Proofs.YtoiampgfnidfdaaGreatDoor
open Go.RowKit

theorem take_next {α : Type} (l : List α) (k : Nat) (h : k < l.length) : l.take (k + 1) = l.take k ++ [l[k]] := by
  rw [List.take_add_one, List.getElem?_eq_getElem h]
  rfl
def tk (k : Nat) (l : List Nat) : List Nat := l.take k
theorem tk_zero (l : List Nat) : tk 0 l = [] := List.take_zero
theorem tk_next (l : List Nat) (k x : Nat) (h : k < l.length) (hx : l[k] = x) : tk k l ++ [x] = tk (k + 1) l := by
  unfold tk
  rw [take_next l k h, hx]
theorem tk_all (l : List Nat) (k : Nat) (h : l.length = k) : tk k l = l := List.take_of_length_le (by omega)
theorem tk_len (l : List Nat) (k : Nat) : (tk k l).length ≤ k := by
  unfold tk
  rw [List.length_take]
  omega
theorem en_attestor_attestorref07_Bytes : ∀ args w, (callFunc 75 args).run Tryz.prog w = .ok (.enter 75 args) w := enters_of Tryz.func75 (by kernel_rfl) rfl
attribute [local irreducible] wpRg
set_option maxRecDepth 100000 in
set_option maxHeartbeats 4000000 in
theorem rBytes (l : List Nat) (hl : l.length = 32) (w : World) : Calls Tryz.prog 75 #[dgv l] w (RetR (fun lo hi v w => ByS lo hi w v l) w) := by
  obtain ⟨S, hS⟩ : ∃ S, S = dgv l := ⟨_, rfl⟩
  rw [← hS]
  have HL := Lib.hid hl
  go_enter Tryz.func75, Tryz.ntmps75
  go_upto_region 1 with (fail)
  refine wp_stk1 fun W hB hz b1 => ?_
  have b1' : Blk W w.heap.size 23 (byc l).toArray := by first | exact b1 | (rw [hS] at b1; exact b1)
  have hWs : W.heap.size = w.heap.size + 1 := hz.out
  clear b1 hz hl
  go_upto_region 1 with (fail)
  refine wp_region_lit ?_
  refine wpList_new0 rfl rfl fun v1 w1 o1 hB1 => ?_
  have b2 := b1'.keep hB1
  have B1 := hB.trans (hB1.mono hB.size)
  rw [hWs] at o1
  clear b1' hB1 hB hWs
  go_wp2_with fail
  go_loopw [3, 4] (fun u i wr => ∃ k : Nat, k ≤ 32 ∧ i = .int .i64 k ∧ OwB (w.heap.size + 1) wr u (tk k l) ∧ Blk wr w.heap.size 23 (byc l).toArray ∧ Below w.heap.size w wr) (fun _ i _ => 32 - (intOf i).toNat)
  case atStart => exact ⟨0, Nat.zero_le _, rfl, by rw [tk_zero]; exact o1, b2, B1⟩
  case round =>
    obtain ⟨k, hk, rfl, ho, hb, hBr⟩ := hrel
    obtain ⟨A, cap, rfl⟩ := ho.len
    by_cases hlt : k < 32
    · have hlt' : k < l.length := by rw [HL.out]; exact hlt
      have c1 : wr.cell? ⟨w.heap.size, k, none⟩ = some (.int .u8 (l[k] : Nat)) := by
        rw [hb.cell]
        simp [byc, List.getElem?_map, List.getElem?_eq_getElem hlt']
      generalize hx : l[k] = x at c1
      go_upto_region 5 with (fail)
      refine wp_region_lit ?_
      iterate 4 (refine wpList_plain rfl fun K hK => ?_; go_big_op; refine hK _ _ ?_; clear hK K)
      refine wpList_push (c := x) rfl rfl _ _ _ rfl rfl rfl (fun _ => rfl) (fun _ => rfl) ho (by have := tk_len l k; omega) (by have := hb.lt; omega) fun v5 v6 w6 o6 hB6 => ?_
      have o6' : OwB (w.heap.size + 1) w6 v6 (tk (k + 1) l) := by rw [← tk_next l k x hlt' hx]; exact o6
      have b6 := hb.below hB6 (by omega)
      have B6 := hBr.trans (hB6.mono (by omega))
      clear o6 ho hb hBr c1 hB6
      obtain ⟨A6, c6, rfl⟩ := o6'.len
      go_wp2_with fail
      exact ⟨⟨k + 1, by omega, by go_num, o6', b6, B6⟩, by simp [intOf]; omega⟩
    · obtain rfl : k = 32 := by omega
      rw [tk_all l 32 HL.out] at ho ⊢
      have HO := Lib.hid ho
      clear ho
      go_wp2_with fail
      refine bodyPost_ret (v := .slice A l.length cap) (by simp [results, Tryz.results75, go_sem]) rfl ⟨_, rfl, ?_, hBr⟩
      exact (HO.out.bys (by rw [HL.out]; decide) (Nat.le_refl _)).wide (by omega) (Nat.le_refl _)
end Go.Proofs.YtoiampgfnidfdaaGreatDoor
namespace Go.Proofs.YtoiampgfnidfdaaGreatDoor
open Go.RowKit

theorem bys_blk {W : World} {g lo hi : Nat} {t : TypeId} {l : List Nat} (h : Blk W g t (byc l).toArray) (hb : l.length ≤ 1000000) (hlo : lo ≤ g) (hhi : g < hi) : ByS lo hi W (.slice (some ⟨g, 0, none⟩) l.length l.length) l := by
  refine ⟨by rw [byc_length]; omega, by omega, some ⟨g, 0, none⟩, l.length, rfl, Nat.le_refl _, fun _ => ⟨g, 0, rfl, hlo, hhi, h.lt, fun j u hu => ?_⟩⟩
  rw [Nat.zero_add, h.cell]
  simpa using hu
theorem step_litB {o : Oper} {a : Act} {w : World} {len : Nat} {parts : List (Nat × Operand)} (l : List Nat) (hl : l.length = len) (h0 : 0 < len) (hs : len ≤ 1000000) (ho : o.op = .buildSlice 56 len parts.toArray)
    (hv : (parts.map fun x => (x.1, a.eval x.2)) = ((byc l).zipIdx 0).map fun x => (x.2, x.1)) : stepAt Tryz.prog o a w fun v w' => ByS w.heap.size w'.heap.size w' v l ∧ Below w.heap.size w w' := by
  obtain ⟨iu8, hu8, uz0, uz1, uz2⟩ := info_parts u8_info
  refine stepAt_mono (fun v w' hh => ?_) (step_litF u8_slice hu8 uz0 uz1 (by rw [byc_length]; exact hl) h0 (by omega) ho hv (fun v hv => ?_))
  · obtain ⟨⟨rfl, h1, h2⟩, h3⟩ := hh
    subst hl
    exact ⟨bys_blk h2 hs (Nat.le_refl _) h1, h3⟩
  · obtain ⟨x, _, rfl⟩ := List.mem_map.1 hv
    rfl
end Go.Proofs.YtoiampgfnidfdaaGreatDoor
namespace Go.Proofs.YtoiampgfnidfdaaGreatDoor
open Go.RowKit

attribute [local irreducible] wpRg
end Go.Proofs.YtoiampgfnidfdaaGreatDoor
namespace Go.Proofs.YtoiampgfnidfdaaGreatDoor
open Go.RowKit

theorem fv_nat (x : Fp) : ((fv x).toNat : Int) = fv x ∧ (fv x).toNat < 18446744073709551616 := by
  have h1 := fv_lo x
  have h2 := fv_hi x
  omega
attribute [local irreducible] wpRg
end Go.Proofs.YtoiampgfnidfdaaGreatDoor
namespace Go.Proofs.YtoiampgfnidfdaaGreatDoor
open Go.RowKit

def ByA (l : List Nat) (lo hi : Nat) (v : Value) (w : World) : Prop := ByS lo hi w v l
theorem by_st {l : List Nat} : Stable (ByA l) := fun _ _ _ _ _ h hb => Rd.below h hb (Nat.le_refl _)
attribute [local irreducible] wpRg
end Go.Proofs.YtoiampgfnidfdaaGreatDoor
namespace Go.Proofs.YtoiampgfnidfdaaGreatDoor
open Go.RowKit

attribute [local irreducible] wpRg
end Go.Proofs.YtoiampgfnidfdaaGreatDoor
namespace Go.Proofs.YtoiampgfnidfdaaGreatDoor
open Go Go.RowKit

def sinkS (ops : Array Oper) (n s : Nat) : Bool := (List.range n).all fun i => i == s || (List.range (n + 1)).any fun j => decide (i < j) && decide (j ≠ s) && Region.waitsFor .any ops j i
def firstNS (n s size : Nat) : Array Bool := (firstN n size).setIfInBounds s false
def rgSB (ops : Array Oper) (n s : Nat) : Bool :=
  let B := befores ops.toList []
  ops.toList.all noDefer && decide (n < ops.size) && decide (s < n) && (List.range n).all (headB ops n B) && sinkS ops n s && Region.chainB .any ops n &&
    (List.range n).all (fun i => !isBefore B s i) && (match ops[s]? with | some o => o.guard.isNone | none => false) &&
    Region.seqB .any ops (ops.size - n) n (firstN n ops.size) &&
    decide (Region.ready .any ops ((firstNS n s ops.size).setIfInBounds n true) = [s]) &&
    Region.seqB .any ops (ops.size - n - 1) (n + 1) (((firstNS n s ops.size).setIfInBounds n true).setIfInBounds s true)

section
variable {P : Program} {ops : Array Oper} {n s : Nat} {B : List Nat} {Sp : List (Nat × Spec)} {C : World → Prop} {N0 : Nat} {a0 : Act}

theorem tail_waitsS (hs : sinkS ops n s = true) (hc : Region.chainB .any ops n = true) (_hn : n < ops.size) {listed : Array Bool} (inv : HeadInv .any ops n listed) :
    ∀ (d i : Nat), n - i = d → i < n → i ≠ s → listed.getD i true = false → ∀ t, n ≤ t → t ∉ Region.ready .any ops listed := by
  intro d
  induction d using Nat.strongRecOn with
  | _ d ih =>
    intro i hd hi his hun t ht hr
    obtain ⟨_, ot, hot, hall⟩ := mem_ready.1 hr
    have htlt : t < ops.size := (Array.getElem?_eq_some_iff.1 hot).1
    have h1 := List.all_eq_true.1 hs i (List.mem_range.2 hi)
    simp only [Bool.or_eq_true, beq_iff_eq, his, false_or, List.any_eq_true, List.mem_range, Bool.and_eq_true, decide_eq_true_eq] at h1
    obtain ⟨j, hj, ⟨hij, hjs⟩, hw⟩ := h1
    obtain ⟨oj, hoj, e, he, hb, hon⟩ := Region.waitsFor_spec hw
    by_cases hjn : j = n
    · subst hjn
      by_cases htj : t = j
      · subst htj
        obtain rfl : ot = oj := Option.some.inj (hot.symm.trans hoj)
        have := hall e he hb
        rw [hon, listed_both hun] at this
        cases this
      · have h2 := List.all_eq_true.1 hc t (List.mem_range.2 htlt)
        simp only [Bool.or_eq_true, decide_eq_true_eq] at h2
        rcases h2 with h2 | h2
        · omega
        · obtain ⟨o2, ho2, e2, he2, hb2, hon2⟩ := Region.waitsFor_spec h2
          obtain rfl : ot = o2 := Option.some.inj (hot.symm.trans ho2)
          have := hall e2 he2 hb2
          rw [hon2, listed_both (inv.tail (t - 1) (by omega) (by omega))] at this
          cases this
    · have hjun : listed.getD j true = false := by
        cases hjl : listed.getD j false with
        | true =>
          have := inv.closed j oj hoj hjl e he hb
          rw [hon, listed_both hun] at this
          cases this
        | false =>
          have hjs : j < listed.size := by rw [inv.size]; omega
          simp [hjs] at hjl ⊢
          exact hjl
      exact ih (n - j) (by omega) j rfl (by omega) hjs hjun t ht hr

theorem wpRg_mono {F F' : Act → World → Prop} (hF : ∀ a w, F a w → F' a w) : ∀ (l : List Oper) (i : Nat) (a : Act) (G : List (Nat × (World → Prop))) (rs : List (Nat × Nat)), wpRg P ops B Sp C N0 F l i a G rs → wpRg P ops B Sp C N0 F' l i a G rs
  | [], _, _, _, _, h => fun w hw hg => hF _ _ (h w hw hg)
  | o :: l, i, a, G, rs, h => by
    unfold wpRg at h ⊢
    split at h
    · rename_i hw
      rw [if_pos hw]
      cases hs : specOf Sp i with
      | none =>
        rw [hs] at h
        obtain ⟨h1, v, h2, h3⟩ := h
        exact ⟨h1, v, h2, wpRg_mono hF l _ _ _ _ h3⟩
      | some s =>
        cases s with
        | skip u => rw [hs] at h; exact wpRg_mono hF l _ _ _ _ h
        | val u => rw [hs] at h; exact ⟨h.1, wpRg_mono hF l _ _ _ _ h.2⟩
        | rel A F => rw [hs] at h; exact ⟨h.1, fun n m v h1 h2 h3 h4 => wpRg_mono hF l _ _ _ _ (h.2 n m v h1 h2 h3 h4)⟩
    · rename_i hw
      rw [if_neg hw]
      exact wpRg_mono hF l _ _ _ _ h

theorem good_endS {Fin : Act → World → Prop} {d : Tmp} (hst : ∀ i A F, specOf Sp i = some (.rel A F) → Fit A F) (hns : ∀ i u, specOf Sp i ≠ some (.skip u)) (hN : ∀ w, C w → N0 ≤ w.heap.size)
    (hnd : ∀ (k : Nat) (o : Oper), ops[k]? = some o → noDefer o = true) (H : ∀ k, k < n → ∃ o d, HeadOk ops n B k o d) (hsz : ∀ (k : Nat) (d : Tmp), k < n → dstOf ops k = some d → d < a0.tmps.size)
    (hn : n ≤ ops.size) (hs : s < n) (hds : dstOf ops s = some d) (hbs : ∀ i, i < n → isBefore B s i = false)
    (htree : wpRg P ops B ((s, .skip (a0.tmps.getD d undef)) :: Sp) C N0 (fun a w => Fin (a.put (some d) (a0.tmps.getD d undef)) w) (ops.toList.take n) 0 a0 [] [])
    {listed : Array Bool} {a : Act} {w : World} {r : Nat → Nat × Nat} (hG : Good P ops n Sp C N0 a0 listed a w r) (hun : listed.getD s false = false) (hall : ∀ k, k < n → k ≠ s → listed.getD k false = true) : Fin a w := by
  have htl : (ops.toList.take n).length = n := by simp; omega
  have hsp : ∀ k, k ≠ s → specOf ((s, .skip (a0.tmps.getD d undef)) :: Sp) k = specOf Sp k := fun k hk => by simp only [specOf, if_neg hk]
  have hsr : ∀ a k, k ≠ s → (isRel ops Sp a k ↔ isRel ops ((s, .skip (a0.tmps.getD d undef)) :: Sp) a k) := fun a k hk => by unfold isRel; rw [hsp k hk]
  have hG' : Good P ops n ((s, .skip (a0.tmps.getD d undef)) :: Sp) C N0 a0 listed a w r := by
    refine ⟨hG.c, hG.defs, hG.size, hG.old, fun k o d' hk ho hd hl => ?_, fun k j hk hj hkj hlk hlj h1 h2 => ?_⟩
    · have hks : k ≠ s := fun e => by subst e; rw [hun] at hl; cases hl
      obtain ⟨q1, q2, q3, q4⟩ := hG.ok k o d' hk ho hd hl
      exact ⟨q1, fun h1 h2 => q2 h1 (by rw [← hsp k hks]; exact h2), fun h1 u h2 => q3 h1 u (by rw [← hsp k hks]; exact h2), fun h1 A F h2 => q4 h1 A F (by rw [← hsp k hks]; exact h2)⟩
    · have hks : k ≠ s := fun e => by subst e; rw [hun] at hlk; cases hlk
      have hjs : j ≠ s := fun e => by subst e; rw [hun] at hlj; cases hlj
      exact hG.apart k j hk hj hkj hlk hlj ((hsr a k hks).2 h1) ((hsr a j hjs).2 h2)
  obtain ⟨l', b, G, rs, hl1, _, R, hw⟩ := descend (Pi := fun k => k ≠ s) hnd H hsz hG' (fun k hk hks => hall k hk hks) (fun k j hk hks hb e => by subst e; rw [hbs k hk] at hb; cases hb)
    (fun i A F h => by
      by_cases his : i = s
      · subst his; simp [specOf] at h
      · rw [hsp i his] at h; exact hst i A F h)
    (fun k u h hks => hns k u (by rw [← hsp k hks]; exact h)) hN (Nat.le_refl _) (ops.toList.take n) 0 a0 [] [] (Nat.zero_le _) (by rw [htl]; omega)
    (fun j hj => by rw [htl] at hj; simp [hj]) ⟨rfl, rfl, fun _ _ => rfl, fun j hj => absurd hj (by omega), fun φ hφ => (by cases hφ), fun ρ hρ => (by cases hρ), fun φ hφ => (by cases hφ)⟩ htree
  obtain rfl : l' = [] := List.eq_nil_of_length_eq_zero (by omega)
  unfold wpRg at hw
  have hlt : d < a0.tmps.size := hsz s d hs hds
  have hab : b.put (some d) (a0.tmps.getD d undef) = a := by
    have hp : ∀ t, (b.put (some d) (a0.tmps.getD d undef)).tmps[t]? = a.tmps[t]? := fun t => by
      by_cases htd : t = d
      · subst htd
        rw [put_eq (by rw [R.size]; exact hlt), ← some_getD hlt]
        refine (hG.old t fun k hk hl e => ?_).symm
        have hks : k ≠ s := fun e => by subst e; rw [hun] at hl; cases hl
        obtain ⟨o, d', h⟩ := H s hs
        have : d' = t := Option.some.inj ((show dstOf ops s = some d' by unfold dstOf; rw [h.op]; exact h.dst).symm.trans hds)
        subst this
        exact h.own k hk hks e
      · rw [put_ne htd]
        by_cases hj : ∃ j, j < n ∧ dstOf ops j = some t
        · obtain ⟨j, hjn, hjd⟩ := hj
          have hjs : j ≠ s := fun e => by subst e; exact htd (Option.some.inj (hjd.symm.trans hds))
          exact R.new j hjn hjs t hjd
        · have h1 : ∀ j, j < n → dstOf ops j ≠ some t := fun j hj' e => hj ⟨j, hj', e⟩
          exact (R.old t fun j hj' => h1 j hj').trans (hG.old t fun j hj' _ => h1 j hj').symm
    obtain ⟨bt, bd⟩ := b
    obtain ⟨at', ad⟩ := a
    have e1 : bd = ad := R.defs.trans hG.defs.symm
    have e2 : (Act.put ⟨bt, bd⟩ (some d) (a0.tmps.getD d undef)).tmps = at' := Array.ext_getElem? hp
    simp only [Act.put] at e2 ⊢
    rw [e1, e2]
  have := hw w hG.c fun φ hφ => R.g φ hφ fun e => by
    obtain ⟨A, F, h⟩ := R.gi φ hφ
    rw [e] at h
    simp [specOf] at h
  rw [hab] at this
  exact this

theorem any_of_goodS {Q : Exit → Act → World → Prop} {os : Oper} {d : Tmp} (hst : ∀ i A F, specOf Sp i = some (.rel A F) → Fit A F) (hns : ∀ i u, specOf Sp i ≠ some (.skip u)) (hC : ∀ w w', C w → Below w.heap.size w w' → C w') (hN : ∀ w, C w → N0 ≤ w.heap.size)
    (hnd : ∀ (k : Nat) (o : Oper), ops[k]? = some o → noDefer o = true) (hn : n < ops.size) (hs : s < n) (hos : ops[s]? = some os) (hds : os.dst = some d) (hgs : os.guard = none) (H : ∀ k, k < n → ∃ o d, HeadOk ops n B k o d) (hsz : ∀ (k : Nat) (d : Tmp), k < n → dstOf ops k = some d → d < a0.tmps.size)
    (hsink : sinkS ops n s = true) (hchain : Region.chainB .any ops n = true) (hbs : ∀ i, i < n → isBefore B s i = false) (hseq : Region.seqB .any ops (ops.size - n) n (firstN n ops.size) = true)
    (hr1 : Region.ready .any ops ((firstNS n s ops.size).setIfInBounds n true) = [s]) (hseq2 : Region.seqB .any ops (ops.size - n - 1) (n + 1) (((firstNS n s ops.size).setIfInBounds n true).setIfInBounds s true) = true)
    (htree : wpRg P ops B Sp C N0 (fun a w => wpList P ops Q (ops.toList.drop n) a w) (ops.toList.take n) 0 a0 [] [])
    (htree2 : wpRg P ops B ((s, .skip (a0.tmps.getD d undef)) :: Sp) C N0 (fun a w => ∀ on, ops[n]? = some on → wpList P ops Q (on :: os :: ops.toList.drop (n + 1)) (a.put (some d) (a0.tmps.getD d undef)) w) (ops.toList.take n) 0 a0 [] []) :
    ∀ (f : Nat) (listed : Array Bool) (a : Act) (w : World) (r : Nat → Nat × Nat), unl n listed = f → HeadInv .any ops n listed → Good P ops n Sp C N0 a0 listed a w r → wpAny P .any ops Q (f + (ops.size - n)) listed a w := by
  have hds' : dstOf ops s = some d := by unfold dstOf; rw [hos]; exact hds
  have hle := Nat.le_of_lt hn
  intro f
  induction f with
  | zero =>
    intro listed a w r hf inv hG
    have hall : ∀ k, k < n → listed.getD k false = true := fun k hk => by
      have h1 := unl_zero hf k hk
      have h2 : k < listed.size := by rw [inv.size]; omega
      simp [h2] at h1 ⊢
      exact h1
    have hfin := good_end hst hns hN hnd H hsz hle htree hG hall
    have hls := firstN_of inv.size hf inv.tail
    have hdl : (ops.toList.drop n).length = ops.size - n := by simp
    have := wpAny_of_seq (md := .any) (Q' := Q) (ops.toList.drop n) n listed a w (fun j => by simp [List.getElem?_drop]) (by rw [hdl, hls]; exact hseq) hfin
    rw [hdl] at this
    rw [Nat.zero_add]
    exact this
  | succ f ih =>
    intro listed a w r hf inv hG
    rw [show f + 1 + (ops.size - n) = (f + (ops.size - n)) + 1 by omega]
    have hex : ∃ i, i < n ∧ listed.getD i true = false := by
      refine Classical.byContradiction fun hno => ?_
      have : unl n listed = 0 := List.countP_eq_zero.2 fun i hi => by
        have hi' := List.mem_range.1 hi
        cases hd : listed.getD i true with
        | true => simp
        | false => exact absurd ⟨i, hi', hd⟩ hno
      omega
    obtain ⟨i0, hi0, hun0⟩ := hex
    obtain ⟨j0, _, hj0⟩ := ready_head H inv.size hle i0 hi0 hun0
    refine ⟨fun h0 => (by rw [h0] at hj0; cases hj0), fun i hi => ?_⟩
    obtain ⟨hun, oi, hoi, _⟩ := mem_ready.1 hi
    rcases Nat.lt_or_ge i n with hin | hin
    · obtain ⟨o, d, h⟩ := H i hin
      have hs := good_step hst hns hC hN hnd H hsz hle htree hG inv hin h hi
      have hunl := unl_set (by rw [inv.size]; omega) hun n hin
      have next : ∀ a' w', (∃ r', Good P ops n Sp C N0 a0 (listed.setIfInBounds i true) a' w' r') → wpAny P .any ops Q (f + (ops.size - n)) (listed.setIfInBounds i true) a' w' :=
        fun a' w' ⟨r', hG'⟩ => ih _ a' w' r' (by omega) (inv.set hi hin) hG'
      unfold wpOp
      simp only [h.op]
      by_cases hw : Region.wanted o (yielded ops a.tmps) = true
      · rw [if_pos hw] at hs ⊢
        exact .inl (wp_of_step (stepAt_mono (fun v w' hv => next _ _ hv) hs))
      · rw [if_neg hw] at hs ⊢
        exact next _ _ hs
    · -- the first of the tail comes up while number s is still to come
      have hilt : i < ops.size := (Array.getElem?_eq_some_iff.1 hoi).1
      have honly : ∀ k, k < n → k ≠ s → listed.getD k true = true := fun k hk hks => by
        cases hd : listed.getD k true with
        | true => rfl
        | false => exact absurd hi (tail_waitsS hsink hchain hn inv _ k rfl hk hks hd i hin)
      have hi0s : i0 = s := Classical.byContradiction fun h => by rw [honly i0 hi0 h] at hun0; cases hun0
      subst hi0s
      have hlsz : listed.size = ops.size := inv.size
      have hlist : listed = firstNS n i0 ops.size := by
        apply Array.ext_getElem?
        intro k
        have e2 : (firstN n ops.size)[k]? = if k < ops.size then some (decide (k < n)) else none := by
          unfold firstN
          rw [List.getElem?_toArray, List.getElem?_map]
          by_cases hk : k < ops.size
          · rw [List.getElem?_range hk, if_pos hk]; rfl
          · rw [List.getElem?_eq_none (by simp; omega), if_neg hk]; rfl
        have e3 : (firstN n ops.size).size = ops.size := by simp [firstN]
        unfold firstNS
        rw [Array.getElem?_setIfInBounds]
        rcases Nat.lt_or_ge k ops.size with hk | hk
        · have e1 : listed[k]? = some (listed.getD k true) := by
            have : k < listed.size := by omega
            simp [this]
          rw [e1, e2, if_pos hk, e3]
          by_cases hki : i0 = k
          · subst hki
            rw [if_pos rfl, if_pos hk, hun0]
          · rw [if_neg hki]
            by_cases hkn : k < n
            · rw [honly k hkn (Ne.symm hki)]; simp [hkn]
            · rw [inv.tail k (by omega) hk]; simp [hkn]
        · rw [Array.getElem?_eq_none (by omega), e2, if_neg (by omega), if_neg (by omega)]
      have hin' : i = n := by
        refine Classical.byContradiction fun hne => ?_
        have h2 := List.all_eq_true.1 hchain i (List.mem_range.2 hilt)
        simp only [Bool.or_eq_true, decide_eq_true_eq] at h2
        rcases h2 with h2 | h2
        · omega
        · obtain ⟨o2, ho2, e2, he2, hb2, hon2⟩ := Region.waitsFor_spec h2
          obtain ⟨_, o3, ho3, hall3⟩ := mem_ready.1 hi
          obtain rfl : o2 = o3 := Option.some.inj (ho2.symm.trans ho3)
          have := hall3 e2 he2 hb2
          rw [hon2, listed_both (inv.tail (i - 1) (by omega) (by omega))] at this
          cases this
      subst hin'
      have hfin := good_endS (Fin := fun a w => ∀ on, ops[i]? = some on → wpList P ops Q (on :: os :: ops.toList.drop (i + 1)) a w) hst hns hN hnd H hsz hle hs hds' hbs htree2 hG (listed_both hun0) (fun k hk hks => by
        have h1 := honly k hk hks
        have h2 : k < listed.size := by omega
        simp [h2] at h1 ⊢
        exact h1) oi hoi
      have hf1 : f = 0 := by
        have hle1 : unl i listed ≤ 1 := by
          unfold unl
          have := List.countP_le_length (p := fun k => decide (k = i0)) (l := List.range i)
          refine Nat.le_trans (List.countP_mono_left (q := fun k => decide (k = i0)) fun k hk h => ?_) ?_
          · simp only [Bool.not_eq_true'] at h
            simp only [decide_eq_true_eq]
            exact Classical.byContradiction fun hne => by rw [honly k (List.mem_range.1 hk) hne] at h; cases h
          · have : (List.range i).countP (fun k => decide (k = i0)) = (List.range i).count i0 := by
              unfold List.count
              congr 1
            rw [this]
            exact List.nodup_iff_count.1 List.nodup_range i0
        omega
      subst hf1
      have hdl : (ops.toList.drop (i + 1)).length = ops.size - i - 1 := by simp; omega
      rw [Nat.zero_add]
      have hwl : wpOp P ops Q i (wpList P ops Q (os :: ops.toList.drop (i + 1))) a w := by
        unfold wpOp; simp only [hoi]; exact hfin
      refine wpOp_mono (fun a' w' h' => ?_) hwl
      rw [hlist]
      rw [show ops.size - i = (ops.size - i - 1) + 1 by omega]
      refine ⟨fun h0 => (by rw [h0] at hr1; cases hr1), fun k hk => ?_⟩
      rw [hr1] at hk
      have hks : k = i0 := by simpa using hk
      subst hks
      have hwl2 : wpOp P ops Q k (wpList P ops Q (ops.toList.drop (i + 1))) a' w' := by
        unfold wpOp; simp only [hos]; exact h'
      refine wpOp_mono (fun a2 w2 h2 => ?_) hwl2
      have := wpAny_of_seq (md := .any) (Q' := Q) (ops.toList.drop (i + 1)) (i + 1) _ a2 w2 (fun j => by simp [List.getElem?_drop]) (by rw [hdl]; exact hseq2) h2
      rw [hdl] at this
      exact this
end

theorem wp_region_swap {P : Program} {id : Nat} {l : List Oper} {Q : Exit → Act → World → Prop} {a : Act} {W : World} (n s : Nat) (u : Value) {os on : Oper} {d : Tmp} (Sp : List (Nat × Spec)) (hm : P.follows .mixedOrders = true) (hB : rgSB l.toArray n s = true) (hz : sizesB l.toArray n a.tmps.size = true)
    (hos : l[s]? = some os) (hon : l[n]? = some on) (hds : os.dst = some d) (hu : a.tmps.getD d undef = u) (st : stables Sp)
    (walk : wpRg P l.toArray (befores l []) Sp (Grw W) W.heap.size (fun a' w' => wpList P l.toArray Q (l.drop n) a' w') (l.take n) 0 a [] [])
    (walk2 : wpRg P l.toArray (befores l []) ((s, .skip u) :: Sp) (Grw W) W.heap.size (fun a' w' => wpList P l.toArray Q (on :: os :: l.drop (n + 1)) (a'.put (some d) u) w') (l.take n) 0 a [] []) :
    (Code.region id l.toArray true).wp P Q a W := by
  subst hu
  refine wp_region_any hm ?_
  unfold rgSB at hB
  simp only [Bool.and_eq_true, decide_eq_true_eq] at hB
  obtain ⟨⟨⟨⟨⟨⟨⟨⟨⟨⟨h1, h2⟩, h3⟩, h4⟩, h5⟩, h6⟩, h7⟩, h8⟩, h9⟩, h10⟩, h11⟩ := hB
  have hnd : ∀ (k : Nat) (o : Oper), l.toArray[k]? = some o → noDefer o = true := fun k o ho => List.all_eq_true.1 h1 o (by
    have : l[k]? = some o := by simpa using ho
    exact List.mem_of_getElem? this)
  have hH : ∀ k, k < n → ∃ o d, HeadOk l.toArray n (befores l []) k o d := fun k hk => headOk_of (List.all_eq_true.1 h4 k (List.mem_range.2 hk))
  have hos' : l.toArray[s]? = some os := by simpa using hos
  rw [hos'] at h8
  simp only [Option.isNone_iff_eq_none] at h8
  have hbs : ∀ i, i < n → isBefore (befores l []) s i = false := fun i hi => by
    have := List.all_eq_true.1 h7 i (List.mem_range.2 hi)
    simpa using this
  have h0 : unl n (Array.replicate l.toArray.size false) = n := by
    unfold unl
    have : (List.range n).countP (fun i => !(Array.replicate l.toArray.size false).getD i true) = (List.range n).length := List.countP_eq_length.2 fun i hi => by
      have hi' := List.mem_range.1 hi
      have h1 : i < l.length := by simp only [List.size_toArray] at h2; omega
      simp [h1]
    rw [this, List.length_range]
  have inv0 : HeadInv .any l.toArray n (Array.replicate l.toArray.size false) :=
    ⟨by simp, fun j oj _ hl => (by rw [getD_replicate_false] at hl; cases hl), fun t _ ht => getD_in (by simpa using ht) (getD_replicate_false _ _)⟩
  have := any_of_goodS (P := P) (Q := Q) (d := d) (stables_spec st) (stables_ns st) (fun w w' h h' => grw_next h h') (fun w h => (grw_below h).size) hnd h2 h3 hos' hds h8 hH (a0 := a) (sizesB_spec hz) h5 h6 hbs h9 h10 h11
    (by simpa using walk) (by
      have e : l.toArray.toList = l := by simp
      rw [e]
      refine wpRg_mono (fun a' w' hw on' hon' => ?_) _ _ _ _ _ walk2
      obtain rfl : on = on' := Option.some.inj (hon.symm.trans (by simpa using hon'))
      exact hw) n _ a { W with drawn := W.drawn + 1 } (fun _ => (0, 0)) h0 inv0
    ⟨grw_of (Below.refl _ W).drew, rfl, rfl, fun _ _ => rfl, fun k o d _ _ _ hl => (by rw [getD_replicate_false] at hl; cases hl), fun k j _ _ _ hl => (by rw [getD_replicate_false] at hl; cases hl)⟩
  rw [show n + (l.toArray.size - n) = l.toArray.size by omega] at this
  exact this
theorem rg_pass {P : Program} {ops : Array Oper} {B : List Nat} {Sp : List (Nat × Spec)} {W : World} {N0 : Nat} {Fin : Act → World → Prop} {o : Oper} {l : List Oper} {i : Nat} {a : Act} {G : List (Nat × (World → Prop))} {rs : List (Nat × Nat)} {u : Value}
    (hw : Region.wanted o (yielded ops a.tmps) = true) (hs : specOf Sp i = some (.skip u)) (h : ∀ a', a' = a.put o.dst u → wpRg P ops B Sp (Grw W) N0 Fin l (i + 1) a' G rs) : wpRg P ops B Sp (Grw W) N0 Fin (o :: l) i a G rs := by
  unfold wpRg; rw [if_pos hw, hs]; exact h _ rfl
theorem wpList_putS {P : Program} {ops : Array Oper} {l : List Oper} {Q : Exit → Act → World → Prop} {a : Act} {d : Option Tmp} {u : Value} {w : World} (h : ∀ a', a' = a.put d u → wpList P ops Q l a' w) : wpList P ops Q l (a.put d u) w := h _ rfl
end Go.Proofs.YtoiampgfnidfdaaGreatDoor
namespace Go.Proofs.YtoiampgfnidfdaaGreatDoor
open Go.RowKit

attribute [local irreducible] wpRg
end Go.Proofs.YtoiampgfnidfdaaGreatDoor
namespace Go.Proofs.YtoiampgfnidfdaaGreatDoor
open Go.RowKit

theorem freeze_size (w : World) (a : Addr) (n : Nat) : (w.freeze a n).heap.size = w.heap.size := by
  unfold World.freeze
  split <;> simp
theorem freeze_other (w : World) (a : Addr) (n k : Nat) (h : k ≠ a.block) : (w.freeze a n).heap[k]? = w.heap[k]? := by
  unfold World.freeze
  split
  · rfl
  · simp [Array.getElem?_modify, Ne.symm h]
theorem freeze_cell (w : World) (a p : Addr) (n : Nat) : (w.freeze a n).cell? p = w.cell? p := by
  by_cases h : p.block = a.block
  · unfold World.freeze
    split
    · rfl
    · unfold World.cell?
      simp only [Array.getElem?_modify, h, if_true]
      cases w.heap[a.block]? with
      | none => rfl
      | some o => cases o <;> rfl
  · unfold World.cell?
    rw [freeze_other w a n p.block h]
theorem freeze_below (w : World) (a : Addr) (n N : Nat) (h : N ≤ a.block) : Below N w (w.freeze a n) := by
  refine ⟨?_, ?_, ?_, by rw [freeze_size]; exact Nat.le_refl _, fun k hk => freeze_other w a n k (by omega)⟩
  all_goals
    unfold World.freeze
    split <;> rfl
theorem step_convB {o : Oper} {a : Act} {w : World} {x : Operand} {v : Value} {lo hi : Nat} {l : List Nat} (h : ByS lo hi w v l) (h0 : 0 < l.length) (ho : o.op = .convert 56 56 x) (hx : a.eval x = v) :
    stepAt Tryz.prog o a w fun v' w' => v' = v ∧ ByS lo hi w' v l ∧ Below lo w w' := by
  obtain ⟨g, off, cap, rfl, hc, hg1, hg2, hg3, hcell⟩ := bys_cells h h0
  have key : ∃ w', (convert 56 56 (.slice (some ⟨g, off, none⟩) l.length cap)).run Tryz.prog w = .ok (.slice (some ⟨g, off, none⟩) l.length cap) w' ∧ (w' = w ∨ ∃ k, w' = w.freeze ⟨g, k, none⟩ 1) := by
    cases hsh : w.shape? g with
    | none => exact ⟨w, by simp [convert, run_underlying u8_slice, run_underlying u8_under, markStringish, hsh], .inl rfl⟩
    | some q => exact ⟨w.freeze ⟨g, q.2, none⟩ 1, by simp [convert, run_underlying u8_slice, run_underlying u8_under, markStringish, hsh], .inr ⟨_, rfl⟩⟩
  obtain ⟨w', hr, hw⟩ := key
  unfold stepAt execOp
  simp only [ho, hx, Sem.run_bind, hr, Result.andThen_ok]
  refine ⟨rfl, ?_, ?_⟩
  · rcases hw with rfl | ⟨k, rfl⟩
    · exact h
    · obtain ⟨h1, h2, A, cap', h3, h4, h5⟩ := h
      refine ⟨h1, h2, A, cap', h3, h4, fun h0 => ?_⟩
      obtain ⟨g', off', q1, q2, q3, q4, q5⟩ := h5 h0
      exact ⟨g', off', q1, q2, q3, by rw [freeze_size]; exact q4, fun j u hu => by rw [freeze_cell]; exact q5 j u hu⟩
  · rcases hw with rfl | ⟨k, rfl⟩
    · exact Below.refl _ _
    · exact freeze_below _ _ _ _ hg1
attribute [local irreducible] wpRg
end Go.Proofs.YtoiampgfnidfdaaGreatDoor
namespace Go.Proofs.YtoiampgfnidfdaaGreatDoor
open Go.RowKit

theorem u64_31 (n : Nat) (h0 : 0 < n) (hn : n < 32) : bits .and .u64 (18446744073709551616 - (n : Int)) 31 = ((32 - n : Nat) : Int) := by
  rw [show (18446744073709551616 - (n : Int)) = ((18446744073709551616 - n : Nat) : Int) by omega, show (31 : Int) = ((31 : Nat) : Int) by rfl, u64_and_nat _ _ (by omega) (by omega)]
  congr 1
  rw [show (31 : Nat) = 2 ^ 5 - 1 by rfl, Nat.and_two_pow_sub_one_eq_mod]
  omega
set_option maxRecDepth 100000 in
set_option maxHeartbeats 1000000 in
theorem gRotL (x : B32) (n : Nat) (h0 : 0 < n) (hn : n < 32) (w : World) : Calls Tryz.prog 162 #[.int .u32 (bv x), .int .i64 (-(n : Int))] w (Ret (.int .u32 (bv (rotr x n))) w) := by
  obtain ⟨m, hm⟩ : ∃ m, m = 32 - n := ⟨_, rfl⟩
  have hA := u64_31 n h0 hn
  rw [← hm, show (18446744073709551616 - (n : Int)) = IntKind.u64.wrap (-(n : Int)) by rw [IntKind.wrap_u64]; omega] at hA
  have hm32 : m < 32 := by omega
  have hnm : (32 : Int) - (m : Int) = (n : Int) := by omega
  obtain ⟨b0, b1⟩ := bv_lt x
  have HR := Lib.hid (show bits .or .u32 (IntKind.u32.wrap (bv x * 2 ^ m)) (bv x / 2 ^ n) = bv (rotr x n) by rw [bv_shr, bv_shl, bv_or, hm, BitVec.or_comm]; rfl)
  clear hm
  go_enter Tryz.func162, Tryz.ntmps162
  go_wp2_with fail
  rw [← IntKind.wrap_u32', HR.out]
  go_ret
  exact ⟨rfl, Below.refl _ _⟩
theorem own_keep {base hi : Nat} {w X : World} {v : Value} {l : List Nat} (h : OwB base w v l) (hv : ∀ g, v.ownBlock = some g → g < hi) (hb : Below hi w X) : OwB base X v l := by
  obtain ⟨h1, h2⟩ := h
  refine ⟨h1, h2.imp id ?_⟩
  rintro ⟨g, cap, cur, rfl, q2, q3, q4⟩
  exact ⟨g, cap, cur, rfl, q2, (hb.block g (hv g rfl)).trans q3, q4⟩
def OwA (l : List Nat) (lo hi : Nat) (v : Value) (w : World) : Prop := OwB lo w v l ∧ ∀ g, v.ownBlock = some g → g < hi
theorem ow_st {l : List Nat} : Stable (OwA l) := fun _ _ _ _ _ h hb => ⟨own_keep h.1 h.2 hb, h.2⟩
theorem OwB.a {base : Nat} {w : World} {v : Value} {l : List Nat} (h : OwB base w v l) : OwA l base w.heap.size v w := ⟨h, fun _ hg => (own_block h hg).2⟩
theorem wpList_pushG {ops : Array Oper} {rest : List Oper} {o1 o2 : Oper} {a : Act} {Q : Exit → Act → World → Prop} {X0 X : World} {base g0 : Nat} {l : List Nat} {u : Value} {c : Nat} (g1 : o1.guard = none) (g2 : o2.guard = none) (s p x : Operand)
    (h1 : o1.op = .buildSlice 56 1 #[(0, x)]) (h2 : o2.op = .call { callee := .builtin .append, args := #[s, p], argTypes := #[56, 56] })
    (hx : a.eval x = .int .u8 (c : Int)) (hs : ∀ v, (a.put o1.dst v).eval s = u) (hp : ∀ v, (a.put o1.dst v).eval p = v) (hown : OwB base X u l) (hat : OwnAt X0 g0 u) (hgr : X0.grownBy X (some g0)) (hk : l.length ≤ 10000000) (hbase : base ≤ X.heap.size)
    (h : ∀ v v' w', OwB base w' v' (l ++ [c]) → OwnAt X0 g0 v' → X0.grownBy w' (some g0) → wpList Tryz.prog ops Q rest ((a.put o1.dst v).put o2.dst v') w') : wpList Tryz.prog ops Q (o1 :: o2 :: rest) a X := by
  obtain ⟨iu8, hu8, uz0, uz1, uz2⟩ := info_parts u8_info
  refine wpList_plain g1 fun K hK => wp_of_step (stepAt_mono (fun v0 w1 hh => ?_) (step_lit1 (cs := #[.int .u8 (c : Int)]) u8_slice hu8 uz0 uz1 (by decide) (by decide) h1 (by rw [hx]; rfl) rfl))
  obtain ⟨⟨rfl, hl1, b1⟩, hB1⟩ := hh
  refine hK _ _ ?_
  refine wpList_app2 g2 s p h2 u8_slice hu8 uz0 uz1 uz2 rfl (by decide) (cl := [.int .u8 (c : Int)]) rfl (fun v hv => by rw [List.mem_singleton.1 hv]; rfl) (hs _) (hp _) (own_below hown (Nat.le_refl _) hB1) hat (grown_below hgr hB1) b1 (by unfold maxLen; omega) (by omega) (Nat.le_trans hbase hB1.size) fun v' w' hown' hat' hgr' => ?_
  refine h _ v' w' ?_ hat' hgr'
  unfold OwB
  rw [byc_app, List.length_append]
  exact hown'
theorem en_slices_Clone : ∀ args w, (callFunc 160 args).run Tryz.prog w = .ok (.enter 160 args) w := enters_of Tryz.func160 (by kernel_rfl) rfl
set_option maxRecDepth 100000 in
set_option maxHeartbeats 1000000 in
theorem gClone (l : List Nat) (hl : l.length ≤ 1000000) (v : Value) (lo hi : Nat) (w : World) (h : ByS lo hi w v l) : Calls Tryz.prog 160 #[v] w (RetR (OwA l) w) := by
  obtain ⟨A, cap, rfl⟩ := h.len
  have HV := Lib.hid h
  clear h
  have q22 : ∀ (w : World) (a : Option Addr) (n c n' c' : Nat), (binOp .eql 56 (.slice a n c) (.slice none n' c')).run Tryz.prog w = .ok (.bool a.isNone) w := fun w a n c n' c' => Lib.run_eql_slice_nil w _ _ a n c n' c' u8_slice
  go_enter Tryz.func160, Tryz.ntmps160
  cases A with
  | none =>
    have h0 : l = [] := by
      obtain ⟨h1, h2, A, c', h3, h4, h5⟩ := HV.out
      cases h3
      cases l with
      | nil => rfl
      | cons x l =>
        obtain ⟨g, off, q, _⟩ := h5 (by simp)
        cases q
    subst h0
    go_wp2_with fail
    refine bodyPost_ret (v := .slice none 0 0) (by simp [results, Tryz.results160, go_sem]) rfl ⟨_, rfl, ⟨⟨rfl, .inl ⟨rfl, rfl⟩⟩, fun g hg => by cases hg⟩, Below.refl _ _⟩
  | some a =>
    go_upto_region 3 with (fail)
    refine wp_region_lit ?_
    refine wpList_new0 rfl rfl fun v1 w1 o1 B1 => ?_
    try simp only [Act.put, List.setIfInBounds_toArray, List.set_cons_succ, List.set_cons_zero]
    iterate 1 (refine wpList_plain rfl fun K hK => ?_; go_big_op; refine hK _ _ ?_; clear hK K)
    refine wpList_cat rfl _ _ rfl rfl rfl (HV.out.keep B1) o1 (by decide) (by omega) B1.size fun v3 w3 o3 B3 => ?_
    rw [List.nil_append] at o3
    have B4 := B1.trans B3
    clear o1 B1 B3
    obtain ⟨A3, c3, rfl⟩ := o3.len
    have HO := Lib.hid o3
    clear o3
    go_wp2_with fail
    exact bodyPost_ret (v := .slice A3 l.length c3) (by simp [results, Tryz.results160, go_sem]) rfl ⟨_, rfl, HO.out.a, B4⟩
end Go.Proofs.YtoiampgfnidfdaaGreatDoor
namespace Go.Proofs.YtoiampgfnidfdaaGreatDoor
open Go.RowKit

attribute [local irreducible] wpRg
theorem u64_shl_or (y x : Nat) (hy : y < 72057594037927936) (hx : x < 256) : bits .or .u64 ((y : Int) * 256) (x : Int) = ((y * 256 + x : Nat) : Int) := by
  rw [show (y : Int) * 256 = ((y * 256 : Nat) : Int) by omega, u64_or_nat _ _ (by omega) (by omega)]
  congr 1
  rw [show y * 256 = 2 ^ 8 * y by omega]
  exact (Nat.two_pow_add_eq_or_of_lt (i := 8) (by omega) y).symm
end Go.Proofs.YtoiampgfnidfdaaGreatDoor
namespace Go.Proofs.YtoiampgfnidfdaaGreatDoor
open Go.RowKit

theorem en_slices_Concat : ∀ args w, (callFunc 124 args).run Tryz.prog w = .ok (.enter 124 args) w := enters_of Tryz.func124 (by kernel_rfl) rfl
theorem int_under : Tryz.prog.underlying 3 = some (.int .i64) := by kernel_rfl
attribute [local irreducible] wpRg
set_option maxRecDepth 100000 in
set_option maxHeartbeats 4000000 in
theorem gGrow0 (n : Nat) (hn : n ≤ 10000000) (w : World) : Calls Tryz.prog 146 #[.slice none 0 0, .int .i64 (n : Int)] w (RetR (OwA []) w) := by
  obtain ⟨iu8, hu8, uz0, uz1, uz2⟩ := info_parts u8_info
  by_cases h0 : n = 0
  · subst h0
    go_enter Tryz.func146, Tryz.ntmps146
    go_wp2_with fail
    exact bodyPost_ret (v := .slice none 0 0) (by simp [results, Tryz.results146, go_sem]) rfl ⟨_, rfl, ⟨⟨rfl, .inl ⟨rfl, rfl⟩⟩, fun g hg => by cases hg⟩, Below.refl _ _⟩
  · obtain ⟨G, hG⟩ : ∃ G, G = grownCap w n 0 5 := ⟨_, rfl⟩
    have hG1 : n ≤ G := by rw [hG]; exact grownCap_ge _ _ _ _
    have hG2 : G ≤ maxLen := by rw [hG]; exact grownCap_le_maxLen _ _ _ _ (by unfold maxLen; omega)
    have hG3 : G ≤ 9223372036854775807 := by unfold maxLen at hG2; omega
    have hpos : (n : Int) > 0 := by omega
    have hrz := fun ty => Lib.run_append_nil_zeros (P := Tryz.prog) w 56 3 ty _ iu8 _ .i64 .i64 u8_slice int_under hu8 uz0 n (by omega) (by rw [uz1]; decide) (by omega) (by rw [uz2]; omega)
    rw [← hG] at hrz
    obtain ⟨C, hC⟩ : ∃ C, C = Builtin.zeroCells (Value.int .u8 0).cells n ++ Builtin.zeroCells (Value.int .u8 0).cells (G - n) := ⟨_, rfl⟩
    have hCs : C.size = G := by
      rw [hC]
      simp [Builtin.zeroCells, Value.cells]
      omega
    rw [← hC] at hrz
    have HR := Lib.hid hrz
    clear hC hG hrz
    go_enter Tryz.func146, Tryz.ntmps146
    go_wp2_with (at_builtin; refine Lib.wpList_append_run _ rfl _ _ _ _ rfl _ _ rfl rfl _ _ (HR.out _) ?_)
    refine bodyPost_ret (v := .slice (some ⟨w.heap.size, 0, none⟩) 0 G) (by simp [results, Tryz.results146, go_sem]) rfl ⟨_, rfl, ⟨⟨rfl, .inr ⟨w.heap.size, G, C, rfl, Nat.le_refl _, ?_, Nat.zero_le _, hG2, by rw [hCs, Nat.mul_one], by simp [byc]⟩⟩, fun g hg => ?_⟩, ?_⟩
    · exact World.alloc_heap_new w _
    · cases hg
      show w.heap.size < (w.alloc (.cells C 5)).heap.size
      simp
    · have hb := (Below.refl w.heap.size w).alloc (Nat.le_refl _) (.cells C 5)
      exact ⟨hb.os, hb.tape, hb.output, hb.size, hb.block⟩
def BylS (lo hi : Nat) (w : World) (v : Value) (ps : List (List Nat)) : Prop := ∃ us : List Value, us.length = ps.length ∧ Rd lo hi 1 w v ps.length us ∧ ∀ (i : Nat) (u : Value) (p : List Nat), us[i]? = some u → ps[i]? = some p → ∃ lo hi, ByS lo hi w u p
theorem BylS.len {lo hi : Nat} {w : World} {v : Value} {ps : List (List Nat)} (h : BylS lo hi w v ps) : ∃ A cap, v = .slice A ps.length cap := by
  obtain ⟨us, _, h2, _⟩ := h
  exact Rd.len h2
theorem BylS.keep {lo hi : Nat} {w X : World} {v : Value} {ps : List (List Nat)} (h : BylS lo hi w v ps) (hb : Below w.heap.size w X) : BylS lo hi X v ps := by
  obtain ⟨us, h1, h2, h3⟩ := h
  refine ⟨us, h1, h2.keep hb, fun i u p hu hp => ?_⟩
  obtain ⟨l, r, h4⟩ := h3 i u p hu hp
  exact ⟨l, r, h4.keep hb⟩
theorem byls_at {lo hi : Nat} {w : World} {v : Value} {ps : List (List Nat)} (h : BylS lo hi w v ps) (i : Nat) (hi' : i < ps.length) : ∃ g off cap B c, v = .slice (some ⟨g, off, none⟩) ps.length cap ∧ ps.length ≤ cap ∧ g < w.heap.size ∧ w.cell? ⟨g, off + i, none⟩ = some (.slice B (ps[i]).length c) ∧ ∃ lo hi, ByS lo hi w (.slice B (ps[i]).length c) ps[i] := by
  obtain ⟨us, h1, h2, h3⟩ := h
  obtain ⟨g, off, cap, q1, q2, q3, q4, q5, q6⟩ := Rd.form h2 (by omega)
  obtain ⟨u, hu⟩ : ∃ u, us[i]? = some u := ⟨_, List.getElem?_eq_getElem (by omega)⟩
  obtain ⟨l, r, hb⟩ := h3 i u ps[i] hu (List.getElem?_eq_getElem hi')
  obtain ⟨B, c, rfl⟩ := hb.len
  exact ⟨g, off, cap, B, c, q1, q2, q5, q6 i _ hu, l, r, hb⟩
def catK (k : Nat) (ps : List (List Nat)) : List Nat := (ps.take k).flatten
theorem catK_zero (ps : List (List Nat)) : catK 0 ps = [] := rfl
theorem catK_next (ps : List (List Nat)) (k : Nat) (h : k < ps.length) : catK k ps ++ ps[k] = catK (k + 1) ps := by
  unfold catK
  rw [List.take_add_one, List.getElem?_eq_getElem h, List.flatten_append]
  simp
theorem catK_all (ps : List (List Nat)) : catK ps.length ps = ps.flatten := by unfold catK; rw [List.take_length]
theorem catK_le (ps : List (List Nat)) (k : Nat) : (catK k ps).length ≤ ps.flatten.length := by
  unfold catK
  conv => rhs; rw [← List.take_append_drop k ps]
  rw [List.flatten_append, List.length_append]
  omega
set_option maxRecDepth 100000 in
set_option maxHeartbeats 4000000 in
theorem gConcat (ps : List (List Nat)) (hn : ps.flatten.length ≤ 1000000) (hp : ps.length ≤ 1000000) (v : Value) (lo hi : Nat) (w : World) (h : BylS lo hi w v ps) : Calls Tryz.prog 124 #[v] w (RetR (OwA ps.flatten) w) := by
  obtain ⟨A, cap, rfl⟩ := h.len
  have HV := Lib.hid h
  have HN := Lib.hid hn
  clear h hn
  go_enter Tryz.func124, Tryz.ntmps124
  go_wp2_with fail
  go_loopw [3, 5, 11] (fun t s i wr => ∃ k : Nat, k ≤ ps.length ∧ i = .int .i64 k ∧ t = .int .i64 ((catK k ps).length : Int) ∧ Below w.heap.size w wr) (fun _ _ i _ => ps.length - (intOf i).toNat)
  case atStart => exact ⟨0, Nat.zero_le _, rfl, rfl, Below.refl _ _⟩
  case round =>
    obtain ⟨k, hk, rfl, rfl, hBr⟩ := hrel
    by_cases hlt : k < ps.length
    · obtain ⟨g, off, cap', B, c, hv, hc1, hg, hcell, l1, r1, hby⟩ := byls_at HV.out k hlt
      cases hv
      have e1 := (hBr.cell (p := ⟨g, off + k, none⟩) hg).trans hcell
      have hle := catK_le ps (k + 1)
      have hnx := catK_next ps k hlt
      have hnl : (catK (k + 1) ps).length = (catK k ps).length + (ps[k]).length := by rw [← hnx, List.length_append]
      have hNo := HN.out
      generalize ps[k] = p at *
      clear hnx hcell hby
      have HNL := Lib.hid hnl
      obtain ⟨D, hD⟩ : ∃ D, D = (catK k ps).length := ⟨_, rfl⟩
      rw [← hD] at hnl ⊢
      have hDs : D + p.length ≤ 1000000 := by omega
      have HDD := Lib.hid hD
      clear hnl hD hle hNo
      go_wp2_with fail
      exact ⟨⟨k + 1, by omega, by go_num, by rw [HNL.out, ← HDD.out]; go_num, hBr⟩, by simp [intOf]; omega⟩
    · obtain rfl : k = ps.length := by omega
      have hNo := HN.out
      have hDs := catK_le ps ps.length
      obtain ⟨D, hD⟩ : ∃ D, D = (catK ps.length ps).length := ⟨_, rfl⟩
      rw [← hD] at hDs ⊢
      replace hDs : D ≤ 1000000 := by omega
      clear hD hNo
      go_wp2_with fail
      refine (gGrow0 D (by omega) wr).mono ?_
      rintro e w1 ⟨v1, rfl, ⟨o1, -⟩, B1⟩
      simp only []
      have BX := hBr.trans (B1.mono hBr.size)
      have o1' : OwB w.heap.size w1 v1 (catK 0 ps) := by
        rw [catK_zero]
        exact ⟨o1.1, o1.2.imp id fun ⟨g, cap, cur, q1, q2, q3⟩ => ⟨g, cap, cur, q1, Nat.le_trans hBr.size q2, q3⟩⟩
      clear o1 B1 hBr
      go_wp2_with fail
      go_loopw [6, 8, 27] (fun t s i wr => ∃ k : Nat, k ≤ ps.length ∧ i = .int .i64 k ∧ OwB w.heap.size wr t (catK k ps) ∧ Below w.heap.size w wr) (fun _ _ i _ => ps.length - (intOf i).toNat)
      case atStart => exact ⟨0, Nat.zero_le _, rfl, o1', BX⟩
      case round =>
        obtain ⟨k, hk, rfl, ho, hBr⟩ := hrel
        obtain ⟨A1, c1, rfl⟩ := ho.len
        by_cases hlt : k < ps.length
        · obtain ⟨g, off, cap', B, c, hv, hc1, hg, hcell, l1, r1, hby⟩ := byls_at HV.out k hlt
          cases hv
          have e1 := (hBr.cell (p := ⟨g, off + k, none⟩) hg).trans hcell
          have hle := catK_le ps (k + 1)
          have hle0 := catK_le ps k
          have hnx := catK_next ps k hlt
          have hNo := HN.out
          have hpl : (ps[k]).length ≤ 1000000 := by
            have : (catK (k + 1) ps).length = (catK k ps).length + (ps[k]).length := by rw [← hnx, List.length_append]
            omega
          have hBz := hBr.size
          generalize ps[k] = p at *
          have HNX := Lib.hid hnx
          clear hnx hcell
          go_upto_region 13 with (fail)
          refine wp_region_lit ?_
          iterate 2 (refine wpList_plain rfl fun K hK => ?_; go_big_op; refine hK _ _ ?_; clear hK K)
          refine wpList_cat rfl _ _ rfl rfl rfl (Rd.keep hby hBr) ho (by omega) (by omega) hBz fun v3 w3 o3 B3 => ?_
          rw [HNX.out] at o3
          have B4 := hBr.trans B3
          clear ho B3 e1 hby hBr hle hle0 hBz
          obtain ⟨A3, c3, rfl⟩ := o3.len
          go_wp2_with fail
          exact ⟨⟨k + 1, by omega, by go_num, o3, B4⟩, by simp [intOf]; omega⟩
        · obtain rfl : k = ps.length := by omega
          rw [catK_all] at ho ⊢
          obtain ⟨L, hL⟩ : ∃ L, L = ps.flatten := ⟨_, rfl⟩
          rw [← hL] at ho ⊢
          have HLL := Lib.hid hL
          have HO := Lib.hid ho
          clear ho
          go_wp2_with fail
          exact bodyPost_ret (v := .slice A1 L.length c1) (by simp [results, Tryz.results124, go_sem]) rfl ⟨_, rfl, by rw [← HLL.out]; exact HO.out.a, hBr⟩
end Go.Proofs.YtoiampgfnidfdaaGreatDoor
