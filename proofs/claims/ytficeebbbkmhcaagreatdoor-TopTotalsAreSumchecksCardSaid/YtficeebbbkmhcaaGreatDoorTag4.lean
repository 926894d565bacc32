/-
  The parser of queries: the next token.
  The parser of queries: accept.
  The parser of queries: the name of a column.
  Numbers of one digit: Atoi at the two that the fixed text holds.
  The parser of queries: a number.
  The parser of queries: a condition of one value.
  SHA-256 in mathematics, and what the machine's operations on 32 bits say in it.
  The padded message in two parts, as the program yields it; transcripts in mathematics.
  Arrays of words and of bytes that are filled from the front; bytes in memory.
  SHA-256 of the reference, by contract.
  SHA-256 of the reference: the constants, the beginning, one block.
  SHA-256 of the reference: one block.
  SHA-256 of the reference: the digest.
  SHA-256 of the reference: the padding.
  SHA-256 of the reference, whole.
  Rows of bytes in the reference: joined, drawn from a digest, from a word and from a label.
  Rows of bytes in the reference: of a digest, of a word; the number that 8 bytes encode.
  A transcript as a value, and the laws of its making.
  Transcripts of the reference: the tagged bytes.
  Transcripts of the reference: the bytes of elements, the hash output, the challenge.
  Transcripts of the reference: the hash output, absorbing, the challenge.
  Transcripts of the reference: absorbing.
-/
import Derived.Test.YtficeebbbkmhcaaGreatDoorPn
import Derived.Test.YtficeebbbkmhcaaGreatDoorZv
import Derived.Deep.RegionHeld3
import Derived.Lib.ConvBytes
import Derived.Test.YtficeebbbkmhcaaGreatDoorProg
import Derived.Laws.BitsAllLaws
import Derived.Test.YtficeebbbkmhcaaGreatDoorEn
import Derived.Test.YtficeebbbkmhcaaGreatDoorQy
import Derived.Test.YtficeebbbkmhcaaGreatDoorGrow
import Derived.Lib.AppendStr
namespace Go.Proofs.YtficeebbbkmhcaaGreatDoor
open Go.RowKit

def cellN (w : World) (b i : Nat) : Nat := match w.cell? ⟨b, i, none⟩ with | some (.int _ z) => z.toNat | _ => 0
theorem cellN_of {w : World} {b i : Nat} {k : IntKind} {z : Nat} (h : w.cell? ⟨b, i, none⟩ = some (.int k (z : Int))) : cellN w b i = z := by
  unfold cellN; rw [h]; simp
theorem PrB.set {w : World} {b : Nat} {s : ByteArray} {p : Nat} (h : PrB w b s p) (q : Nat) : PrB (w.setCell ⟨b, 1, none⟩ (.int .i64 (q : Int))) b s q := by
  have := Blk.set_ h 1 (.int .i64 (q : Int))
  exact this
theorem PrB.keep {w X : World} {b : Nat} {s : ByteArray} {p : Nat} (h : PrB w b s p) (hb : Below w.heap.size w X) : PrB X b s p := Blk.keep h hb
def Onl (b : Nat) (w w' : World) : Prop := w.grownBy w' (some b)
theorem Onl.refl (b : Nat) (w : World) : Onl b w w := ⟨rfl, rfl, rfl, Nat.le_refl _, fun _ _ _ => rfl⟩
theorem Onl.trans {b : Nat} {w a c : World} (h : Onl b w a) (k : Onl b a c) : Onl b w c :=
  ⟨k.os.trans h.os, k.tape.trans h.tape, k.output.trans h.output, Nat.le_trans h.size k.size, fun i hi hn => (k.block i (Nat.lt_of_lt_of_le hi h.size) hn).trans (h.block i hi hn)⟩
theorem Onl.of (b : Nat) {w a : World} (k : Below w.heap.size w a) : Onl b w a := ⟨k.os, k.tape, k.output, k.size, fun i hi _ => k.block i hi⟩
theorem Onl.below {b : Nat} {w a c : World} (h : Onl b w a) (k : Below a.heap.size a c) : Onl b w c := h.trans (Onl.of b k)
theorem Onl.put {b : Nat} {w a c : World} (h : Onl b w a) (k : Put a c b) : Onl b w c :=
  h.trans ⟨k.os, k.tape, k.output, Nat.le_of_eq k.size.symm, fun i _ hn => k.other i fun e => hn (by rw [e])⟩
theorem Onl.new {b g : Nat} {w a c : World} (h : Onl b w a) (k : Put a c g) (hg : w.heap.size ≤ g) : Onl b w c :=
  ⟨k.os.trans h.os, k.tape.trans h.tape, k.output.trans h.output, by rw [k.size]; exact h.size, fun i hi hn => (k.other i (by omega)).trans (h.block i hi hn)⟩
theorem Onl.to {b N : Nat} {w a : World} (h : Onl b w a) (hN : N ≤ b) (hw : b < w.heap.size) : Below N w a := ⟨h.os, h.tape, h.output, h.size, fun i hi => h.block i (by omega) (by simp; omega)⟩
theorem Onl.blk {b g : Nat} {w a : World} {t : TypeId} {cs : Array Value} (h : Onl b w a) (hb : Blk w g t cs) (hne : g ≠ b) : Blk a g t cs := (h.block g hb.lt (by simpa using hne)).trans hb
def PkC (s : ByteArray) (q : Nat) (k : Int) (t : ByteArray) : Prop :=
  (∃ r, q < r ∧ r ≤ s.size ∧ (∀ i, i < r → q ≤ i → inR s 97 122 i = true) ∧ inR s 97 122 r = false ∧ k = 1 ∧ t = s.extract q r) ∨
  (∃ r, q < r ∧ r ≤ s.size ∧ (∀ i, i < r → q ≤ i → inR s 48 57 i = true) ∧ inR s 48 57 r = false ∧ k = 2 ∧ t = s.extract q r) ∨
  (s.data[q]? = some 61 ∧ k = 3 ∧ t = ⟨#[61]⟩) ∨ (q = s.size ∧ k = 0 ∧ t = ⟨#[]⟩)
def Blank (s : ByteArray) (p q : Nat) : Prop := p ≤ q ∧ ∀ i, i < q → p ≤ i → s.data[i]? = some 32
theorem idxW (c : Nat) (hc : 48 ≤ c) (h : c < 256) : Lib.indexByte [32, 9, 13, 10] (Int.toNat c).toUInt8 = -1 := by
  have key : ∀ x : Fin 256, 48 ≤ x.val → Lib.indexByte [32, 9, 13, 10] x.val.toUInt8 = -1 := by decide +kernel
  exact key ⟨c, h⟩ hc
theorem ext_data (s : ByteArray) (a b : Nat) : (s.extract a b).data = s.data.extract a b := ByteArray.data_extract
theorem tk_size : (Tryz.prog.info? 114).map (·.size) = some 2 := by kernel_rfl
set_option maxRecDepth 100000 in
set_option maxHeartbeats 4000000 in
theorem gPeek (s : ByteArray) (hs : s.size ≤ 400) (b p q : Nat) (k : Int) (t : ByteArray) (hB : Blank s p q) (hC : PkC s q k t) (w : World) (hP : PrB w b s p) :
    Calls Tryz.prog 47 #[prV b] w fun e w' => e = .returned (tkV k t) ∧ PrB w' b s q ∧ Onl b w w' := by
  obtain ⟨hpq, hbl⟩ := hB
  have HBL := Lib.hid hbl
  have HC := Lib.hid hC
  obtain ⟨n, hn⟩ : ∃ n, n = s.size := ⟨_, rfl⟩
  have HNS := Lib.hid hn
  have hn4 : n ≤ 400 := by rw [hn]; exact hs
  have hlt := hP.lt
  have HP := Lib.hid hP
  have hne : w.heap.size ≠ b := by omega
  clear hbl hC hs hP hn
  unfold prV
  go_enter Tryz.func47, Tryz.ntmps47
  go_upto_region 1 with (fail)
  refine wp_stk1 fun W hW hz b2 => ?_
  have hPW := HP.out.keep hW
  have HWW := Lib.hid (Onl.of b hW)
  have HPW := Lib.hid hPW
  have HB2 := Lib.hid b2
  clear hz hW hPW b2
  go_loopw [7] (fun _ wr => ∃ j : Nat, p ≤ j ∧ j ≤ q ∧ PrB wr b s j ∧ Blk wr w.heap.size 114 #[.int .i64 0, .string { data := #[] }] ∧ Onl b w wr) (fun _ wr => q - cellN wr b 1)
  case atStart => exact ⟨p, Nat.le_refl _, hpq, HPW.out, HB2.out, HWW.out⟩
  case round =>
    obtain ⟨j, hj1, hj2, hPr, hb2, hbw⟩ := hrel
    have f0 := gw_blk hPr
    by_cases hjq : j < q
    · have hc := HBL.out j hjq hj1
      have hjs : j < s.size := (Array.getElem?_eq_some_iff.1 hc).1
      have ix := idx_str hc
      have HX : ∀ W1, Calls Tryz.prog 88 #[.string { data := #[32, 9, 13, 10] }, .int .u8 32] W1 (Ret (.int .i64 0) W1) := fun W1 => lIndexByte _ _ W1
      rw [← HNS.out] at hjs
      have hj4 : (j : Int) < (s.size : Int) := by rw [← HNS.out]; omega
      have ix2 : ∀ w, (Instr.index 9 (.string s) (.int .i64 (j : Int))).run Tryz.prog w = .ok (.int .u8 32) w := fun w => idx_str hc w
      clear hc ix
      go_upto_region 1 with (fail)
      refine wp_region_rg 23 [(20, Spec.val (.int .i64 0))] (by kernel_rfl) (by kernel_rfl) (by kernel_rfl) trivial ?_
      iterate 20 (refine rg_det rfl rfl rfl (fun K hK => ?_); go_big_quiet_op; refine hK _ ?_; clear hK K)
      refine rg_val rfl rfl (fun W1 hW1 hF => step_callv en_strings_IndexByte (HX W1) rfl rfl) ?_
      intro a' ha
      simp only [Act.put, List.setIfInBounds_toArray, List.set_cons_succ, List.set_cons_zero] at ha
      subst ha
      iterate 2 (refine rg_det rfl rfl rfl (fun K hK => ?_); go_big_quiet_op; refine hK _ ?_; clear hK K)
      refine rg_nil (fun w' hw' hF => ?_)
      obtain ⟨z, rfl⟩ := hw'
      simp only [List.drop_succ_cons, List.drop_zero]
      obtain ⟨V, hV⟩ : ∃ V, V = z.w := ⟨_, rfl⟩
      have hPV := hPr.keep z.h
      have hb2V := hb2.keep z.h
      have hbV := hbw.below z.h
      rw [← hV] at hPV hb2V hbV ⊢
      have hPS := hPV.set (j + 1)
      have hbS := Blk.far (p := ⟨b, 1, none⟩) hb2V hne (.int .i64 ((j + 1 : Nat) : Int))
      have HbS := Lib.hid (hbV.put (Put.set V b 1 (.int .i64 ((j + 1 : Nat) : Int))))
      have c0 := hPV.cell 0
      have c1 := hPV.cell 1
      simp only [List.getElem?_toArray, List.getElem?_cons_zero, List.getElem?_cons_succ] at c0 c1
      have c9 := hPV.frozen
      have hm0 := cellN_of (w := wr) (hPr.cell 1)
      have hm1 := cellN_of (w := V.setCell ⟨b, 1, none⟩ (.int .i64 ((j + 1 : Nat) : Int))) (hPS.cell 1)
      have HM0 := Lib.hid hm0
      have HM1 := Lib.hid hm1
      have HPS := Lib.hid hPS
      have HBS := Lib.hid hbS
      have lV := hPV.lt
      clear hF hV z f0 hm0 hm1 hPS hbS hPV hb2V hbV hPr hb2 hbw ix2
      go_wp2_with fail
      rw [HM0.out]
      refine ⟨⟨j + 1, by omega, by omega, HPS.out, HBS.out, HbS.out⟩, ?_⟩
      exact Nat.lt_of_le_of_lt (Nat.le_of_eq (congrArg (fun x => q - x) HM1.out)) (by omega)
    · obtain rfl : j = q := by omega
      obtain ⟨c, hc, hC⟩ | ⟨hj, rfl, rfl⟩ : (∃ c, s.data[j]? = some c ∧ 48 ≤ c.toNat) ∨ (j = s.size ∧ k = 0 ∧ t = ⟨#[]⟩) := by
        rcases HC.out with ⟨r, h1, h2, h3, h4, h5, h6⟩ | ⟨r, h1, h2, h3, h4, h5, h6⟩ | ⟨h1, h2, h3⟩ | h
        · have := h3 j h1 (Nat.le_refl _)
          unfold inR at this
          cases hc : s.data[j]? with
          | none => rw [hc] at this; cases this
          | some c => rw [hc] at this; simp only [Bool.and_eq_true, decide_eq_true_eq] at this; exact .inl ⟨c, rfl, by omega⟩
        · have := h3 j h1 (Nat.le_refl _)
          unfold inR at this
          cases hc : s.data[j]? with
          | none => rw [hc] at this; cases this
          | some c => rw [hc] at this; simp only [Bool.and_eq_true, decide_eq_true_eq] at this; exact .inl ⟨c, rfl, by omega⟩
        · exact .inl ⟨_, h1, by decide⟩
        · exact .inr h
      · have hjs : j < s.size := (Array.getElem?_eq_some_iff.1 hc).1
        have ix := idx_str hc
        have hcl : c.toNat < 256 := c.toNat_lt
        have HD := Lib.hid hc
        obtain ⟨x, hx⟩ : ∃ x, x = c.toNat := ⟨_, rfl⟩
        have HCX := Lib.hid hx
        rw [← hx] at ix hC hcl
        have HX : ∀ W1, Calls Tryz.prog 88 #[.string { data := #[32, 9, 13, 10] }, .int .u8 (x : Int)] W1 (Ret (.int .i64 (-1)) W1) := fun W1 => by
          have := lIndexByte { data := #[32, 9, 13, 10] } (x : Int) W1
          rwa [show Lib.indexByte ({ data := #[32, 9, 13, 10] } : ByteArray).data.toList (Int.toNat (x : Int)).toUInt8 = -1 from idxW x hC hcl] at this
        have hj4 : (j : Int) < (s.size : Int) := by omega
        clear hc hx
        go_upto_region 1 with (fail)
        refine wp_region_rg 23 [(20, Spec.val (.int .i64 (-1)))] (by kernel_rfl) (by kernel_rfl) (by kernel_rfl) trivial ?_
        iterate 20 (refine rg_det rfl rfl rfl (fun K hK => ?_); go_big_quiet_op; refine hK _ ?_; clear hK K)
        refine rg_val rfl rfl (fun W1 hW1 hF => step_callv en_strings_IndexByte (HX W1) rfl rfl) ?_
        intro a' ha
        simp only [Act.put, List.setIfInBounds_toArray, List.set_cons_succ, List.set_cons_zero] at ha
        subst ha
        iterate 2 (refine rg_det rfl rfl rfl (fun K hK => ?_); go_big_quiet_op; refine hK _ ?_; clear hK K)
        refine rg_nil (fun w' hw' hF => ?_)
        obtain ⟨z, rfl⟩ := hw'
        simp only [List.drop_succ_cons, List.drop_zero]
        obtain ⟨V, hV⟩ : ∃ V, V = z.w := ⟨_, rfl⟩
        have hPV := hPr.keep z.h
        have hb2V := hb2.keep z.h
        have hbV := hbw.below z.h
        rw [← hV] at hPV hb2V hbV ⊢
        clear hF hV z f0 hPr hb2 hbw HX
        have f0 := gw_blk hPV
        go_upto_region 3 with (fail)
        refine wp_region_rg 9 [] (by kernel_rfl) (by kernel_rfl) (by kernel_rfl) trivial ?_
        iterate 9 (refine rg_det rfl rfl rfl (fun K hK => ?_); go_big_quiet_op; refine hK _ ?_; clear hK K)
        refine rg_nil (fun w' hw' hF => ?_)
        obtain ⟨z3, rfl⟩ := hw'
        simp only [List.drop_succ_cons, List.drop_zero]
        obtain ⟨X, hX⟩ : ∃ X, X = z3.w := ⟨_, rfl⟩
        have hPX := hPV.keep z3.h
        have hb2X := hb2V.keep z3.h
        have hbX := hbV.below z3.h
        rw [← hX] at hPX hb2X hbX ⊢
        clear hF hX z3 f0 hPV hb2V hbV
        obtain ⟨R, hR⟩ : ∃ R, R = s.extract j s.size := ⟨_, rfl⟩
        have hR0 : R.data[0]? = some c := by
          rw [hR, ext_data, Array.getElem?_extract_of_lt (by have e : s.data.size = s.size := rfl; omega)]
          refine (Array.getElem?_eq_getElem (show j + 0 < s.data.size from hjs)).symm.trans ?_
          exact HD.out
        have ix0 : ∀ w, (Instr.index 9 (.string R) (.int .i64 0)).run Tryz.prog w = .ok (.int .u8 (x : Int)) w := fun w => by
          rw [HCX.out]
          exact idx_str hR0 w
        have hRs : 0 < R.size := (Array.getElem?_eq_some_iff.1 hR0).1
        have hRe : R.toList.isEmpty = false := by
          rw [ByteArray.toList_eq]
          have hm : c ∈ R.data.toList := by simpa using Array.mem_of_getElem? hR0
          cases hl : R.data.toList with
          | nil => rw [hl] at hm; cases hm
          | cons y ys => rfl
        have HR := Lib.hid hR
        rw [← hR]
        clear hR hR0 ix
        have f0 := gw_blk hPX
        rcases HC.out with ⟨r, h1, h2, h3, h4, rfl, rfl⟩ | ⟨r, h1, h2, h3, h4, rfl, rfl⟩ | ⟨h1, rfl, rfl⟩ | ⟨h1, h2, h3⟩
        · have hxr : 97 ≤ x ∧ x ≤ 122 := by
            have := h3 j h1 (Nat.le_refl _)
            unfold inR at this
            rw [HD.out] at this
            simp only [Bool.and_eq_true, decide_eq_true_eq] at this
            rw [HCX.out]
            exact this
          obtain ⟨hx1, hx2⟩ := hxr
          have hx1' : (97 : Int) ≤ (x : Int) := by omega
          have hx2' : (x : Int) ≤ 122 := by omega
          have HSp : ∀ W1, Below X.heap.size X W1 → Calls Tryz.prog 89 #[.pointer (some ⟨b, 0, none⟩), .int .u8 97, .int .u8 122] W1 (Ret (.int .i64 (r : Int)) W1) := fun W1 hW1 => (gSpan s (by rw [← HNS.out]; exact hn4) b j r 97 122 (Nat.le_of_lt h1) h2 h3 h4 W1 (hPX.keep hW1)).mono fun e w' ⟨he, hw⟩ => by
            subst hw
            exact ⟨he, Below.refl _ _⟩
          have HSP := Lib.hid HSp
          clear HSp h3 h4
          go_upto_region 7 with (fail)
          refine wp_region_rg 12 [(9, Spec.val (.int .i64 (r : Int)))] (by kernel_rfl) (by kernel_rfl) (by kernel_rfl) trivial ?_
          iterate 9 (refine rg_det rfl rfl rfl (fun K hK => ?_); go_big_quiet_op; refine hK _ ?_; clear hK K)
          refine rg_val rfl rfl (fun W1 hW1 hF => step_callv en___attestor_query_parser__span (HSP.out W1 (grw_below hW1)) rfl rfl) ?_
          intro a' ha
          simp only [Act.put, List.setIfInBounds_toArray, List.set_cons_succ, List.set_cons_zero] at ha
          subst ha
          iterate 2 (refine rg_det rfl rfl rfl (fun K hK => ?_); go_big_quiet_op; refine hK _ ?_; clear hK K)
          refine rg_nil (fun w' hw' hF => ?_)
          obtain ⟨z7, rfl⟩ := hw'
          simp only [List.drop_succ_cons, List.drop_zero]
          obtain ⟨Y, hY⟩ : ∃ Y, Y = z7.w := ⟨_, rfl⟩
          have hPY := hPX.keep z7.h
          have hb2Y := hb2X.keep z7.h
          have hbY := hbX.below z7.h
          rw [← hY] at hPY hb2Y hbY ⊢
          clear hF hY z7 f0 hPX hb2X hbX
          have e2 := hb2Y.cell
          have e9 := hb2Y.frozen
          have HPY := Lib.hid hPY
          have HBY := Lib.hid hb2Y
          have HbY := Lib.hid hbY
          have lY := hb2Y.lt
          clear hPY hb2Y hbY
          go_wp2_with fail
          refine set2 (M := fun W => bodyPost _ _ _ _ _ W) HBY.out fun Z hZ bZ => ?_
          exact bodyPost_ret (v := tkV 1 (s.extract j r)) (res_row (cs := [.int .i64 1, .string (s.extract j r)]) (g := w.heap.size) rfl rfl tk_struct rfl (by rw [tk_size]; rfl) bZ) rfl ⟨rfl, hZ.blk HPY.out (Ne.symm hne), HbY.out.new hZ (Nat.le_refl _)⟩
        · have hxr : 48 ≤ x ∧ x ≤ 57 := by
            have := h3 j h1 (Nat.le_refl _)
            unfold inR at this
            rw [HD.out] at this
            simp only [Bool.and_eq_true, decide_eq_true_eq] at this
            rw [HCX.out]
            exact this
          obtain ⟨hx1, hx2⟩ := hxr
          have hx1' : (48 : Int) ≤ (x : Int) := by omega
          have hx2' : (x : Int) ≤ 57 := by omega
          have hx3' : ¬ (97 : Int) ≤ (x : Int) := by omega
          have HSp : ∀ W1, Below X.heap.size X W1 → Calls Tryz.prog 89 #[.pointer (some ⟨b, 0, none⟩), .int .u8 48, .int .u8 57] W1 (Ret (.int .i64 (r : Int)) W1) := fun W1 hW1 => (gSpan s (by rw [← HNS.out]; exact hn4) b j r 48 57 (Nat.le_of_lt h1) h2 h3 h4 W1 (hPX.keep hW1)).mono fun e w' ⟨he, hw⟩ => by
            subst hw
            exact ⟨he, Below.refl _ _⟩
          have HSP := Lib.hid HSp
          clear HSp h3 h4
          go_upto_region 9 with (fail)
          refine wp_region_rg 12 [(9, Spec.val (.int .i64 (r : Int)))] (by kernel_rfl) (by kernel_rfl) (by kernel_rfl) trivial ?_
          iterate 9 (refine rg_det rfl rfl rfl (fun K hK => ?_); go_big_quiet_op; refine hK _ ?_; clear hK K)
          refine rg_val rfl rfl (fun W1 hW1 hF => step_callv en___attestor_query_parser__span (HSP.out W1 (grw_below hW1)) rfl rfl) ?_
          intro a' ha
          simp only [Act.put, List.setIfInBounds_toArray, List.set_cons_succ, List.set_cons_zero] at ha
          subst ha
          iterate 2 (refine rg_det rfl rfl rfl (fun K hK => ?_); go_big_quiet_op; refine hK _ ?_; clear hK K)
          refine rg_nil (fun w' hw' hF => ?_)
          obtain ⟨z7, rfl⟩ := hw'
          simp only [List.drop_succ_cons, List.drop_zero]
          obtain ⟨Y, hY⟩ : ∃ Y, Y = z7.w := ⟨_, rfl⟩
          have hPY := hPX.keep z7.h
          have hb2Y := hb2X.keep z7.h
          have hbY := hbX.below z7.h
          rw [← hY] at hPY hb2Y hbY ⊢
          clear hF hY z7 f0 hPX hb2X hbX
          have e2 := hb2Y.cell
          have e9 := hb2Y.frozen
          have HPY := Lib.hid hPY
          have HBY := Lib.hid hb2Y
          have HbY := Lib.hid hbY
          have lY := hb2Y.lt
          clear hPY hb2Y hbY
          go_wp2_with fail
          refine set2 (M := fun W => bodyPost _ _ _ _ _ W) HBY.out fun Z hZ bZ => ?_
          exact bodyPost_ret (v := tkV 2 (s.extract j r)) (res_row (cs := [.int .i64 2, .string (s.extract j r)]) (g := w.heap.size) rfl rfl tk_struct rfl (by rw [tk_size]; rfl) bZ) rfl ⟨rfl, hZ.blk HPY.out (Ne.symm hne), HbY.out.new hZ (Nat.le_refl _)⟩
        · have hx3 : x = 61 := by
            rw [HCX.out]
            have := HD.out.symm.trans h1
            rw [Option.some.inj this]
            rfl
          have hx1' : ¬ (97 : Int) ≤ (x : Int) := by omega
          have hx2' : ¬ (x : Int) ≤ 57 := by omega
          have hx4' : (48 : Int) ≤ (x : Int) := by omega
          have hx5' : ((x : Int) == 61) = true := by rw [hx3]; rfl
          clear hx3
          have e2 := hb2X.cell
          have e9 := hb2X.frozen
          have HPY := Lib.hid hPX
          have HBY := Lib.hid hb2X
          have HbY := Lib.hid hbX
          have lY := hb2X.lt
          clear hPX hb2X hbX f0
          go_wp2_with fail
          refine set2 (M := fun W => bodyPost _ _ _ _ _ W) HBY.out fun Z hZ bZ => ?_
          exact bodyPost_ret (v := tkV 3 (⟨#[61]⟩)) (res_row (cs := [.int .i64 3, .string (⟨#[61]⟩)]) (g := w.heap.size) rfl rfl tk_struct rfl (by rw [tk_size]; rfl) bZ) rfl ⟨rfl, hZ.blk HPY.out (Ne.symm hne), HbY.out.new hZ (Nat.le_refl _)⟩
        · omega
      · have hjn : ¬ (j : Int) < (s.size : Int) := by omega
        have HJ := Lib.hid hj
        have hjn2 : ¬ j < s.size := by omega
        have hjle : j ≤ s.size := by omega
        clear hj
        go_upto_region 1 with (fail)
        refine wp_region_rg 23 [] (by kernel_rfl) (by kernel_rfl) (by kernel_rfl) trivial ?_
        iterate 11 (refine rg_det rfl rfl rfl (fun K hK => ?_); go_big_quiet_op; refine hK _ ?_; clear hK K)
        simp only [List.take_succ_cons, List.take_zero]
        iterate 11 (with_reducible refine rg_skip (by kernel_rfl) ?_; intro a' ha; simp only [Act.put, List.setIfInBounds_toArray, List.set_cons_succ, List.set_cons_zero] at ha; subst ha)
        refine rg_det rfl rfl rfl (fun K hK => ?_)
        go_big_quiet_op
        refine hK _ ?_; clear hK K
        refine rg_nil (fun w' hw' hF => ?_)
        obtain ⟨z, rfl⟩ := hw'
        simp only [List.drop_succ_cons, List.drop_zero]
        obtain ⟨V, hV⟩ : ∃ V, V = z.w := ⟨_, rfl⟩
        have hPV := hPr.keep z.h
        have hb2V := hb2.keep z.h
        have hbV := hbw.below z.h
        rw [← hV] at hPV hb2V hbV ⊢
        clear hF hV z f0 hPr hb2 hbw
        have f0 := gw_blk hPV
        go_upto_region 3 with (fail)
        refine wp_region_rg 9 [] (by kernel_rfl) (by kernel_rfl) (by kernel_rfl) trivial ?_
        iterate 9 (refine rg_det rfl rfl rfl (fun K hK => ?_); go_big_quiet_op; refine hK _ ?_; clear hK K)
        refine rg_nil (fun w' hw' hF => ?_)
        obtain ⟨z3, rfl⟩ := hw'
        simp only [List.drop_succ_cons, List.drop_zero]
        obtain ⟨X, hX⟩ : ∃ X, X = z3.w := ⟨_, rfl⟩
        have hPX := hPV.keep z3.h
        have hb2X := hb2V.keep z3.h
        have hbX := hbV.below z3.h
        rw [← hX] at hPX hb2X hbX ⊢
        clear hF hX z3 f0 hPV hb2V hbV
        obtain ⟨R, hR⟩ : ∃ R, R = s.extract j s.size := ⟨_, rfl⟩
        have hRe : R.toList.isEmpty = true := by
          rw [ByteArray.toList_eq, hR, ext_data, HJ.out, List.isEmpty_iff]
          simp
        rw [← hR]
        clear hR
        have f0 := gw_blk hPX
        have e2 := hb2X.cell
        have e9 := hb2X.frozen
        have HPY := Lib.hid hPX
        have HBY := Lib.hid hb2X
        have HbY := Lib.hid hbX
        have lY := hb2X.lt
        clear hPX hb2X hbX f0
        go_wp2_with fail
        refine set2 (M := fun W => bodyPost _ _ _ _ _ W) HBY.out fun Z hZ bZ => ?_
        exact bodyPost_ret (v := tkV 0 (⟨#[]⟩)) (res_row (cs := [.int .i64 0, .string (⟨#[]⟩)]) (g := w.heap.size) rfl rfl tk_struct rfl (by rw [tk_size]; rfl) bZ) rfl ⟨rfl, hZ.blk HPY.out (Ne.symm hne), HbY.out.new hZ (Nat.le_refl _)⟩
end Go.Proofs.YtficeebbbkmhcaaGreatDoor
namespace Go.Proofs.YtficeebbbkmhcaaGreatDoor
open Go.RowKit

theorem below_Dx (w : World) : Below w.heap.size w w.drew := (Below.refl _ _).drew
set_option maxRecDepth 100000 in
set_option maxHeartbeats 1000000 in
theorem gAccept (s : ByteArray) (hs : s.size ≤ 400) (b p q : Nat) (hq : q ≤ 1000) (k : Int) (t : ByteArray) (hB : Blank s p q) (hC : PkC s q k t) (k2 : Int) (t2 : ByteArray) (ht2 : t2.size ≤ 1000) (r : Bool) (hr : (k == k2 && t.toList == t2.toList) = r) (w : World) (hP : PrB w b s p) :
    Calls Tryz.prog 83 #[prV b, tkV k2 t2] w fun e w' => e = .returned (.bool r) ∧ PrB w' b s (if r = true then q + t2.size else q) ∧ Onl b w w' := by
  have he : ∀ w, (Op.equalIn 10000 114 (.agg #[.int .i64 k, .string t]) (.agg #[.int .i64 k2, .string t2])).run Tryz.prog w = .ok r w := fun w => by rw [← hr]; exact run_eqTk k k2 t t2 w
  have hgd := tk_guard
  have HP := Lib.hid hP
  have HBL := Lib.hid hB
  have HC := Lib.hid hC
  have hlt := hP.lt
  clear hP hB hC hr
  unfold prV tkV
  go_enter Tryz.func83, Tryz.ntmps83
  go_upto_region 1 with (fail)
  refine wp_stk1 fun W hW hz b3 => ?_
  have hPW := HP.out.keep hW
  have HWW := Lib.hid (Onl.of b hW)
  obtain ⟨g3, hg3⟩ : ∃ g, g = w.heap.size := ⟨_, rfl⟩
  rw [← hg3] at b3 ⊢
  have hne : g3 ≠ b := by omega
  have HG := Lib.hid hg3
  clear hg3
  have K0 : W.cell? ⟨b, 3, none⟩ = some (.int .i64 0) ∧ W.cell? ⟨g3, 0, none⟩ = some (.int .i64 k2) ∧ W.cell? ⟨g3, 1, none⟩ = some (.string t2) := ⟨(Blk.cell hPW 3).trans rfl, (b3.cell 0).trans rfl, (b3.cell 1).trans rfl⟩
  have KD : W.drew.cell? ⟨b, 3, none⟩ = some (.int .i64 0) ∧ W.drew.cell? ⟨g3, 0, none⟩ = some (.int .i64 k2) ∧ W.drew.cell? ⟨g3, 1, none⟩ = some (.string t2) := K0
  have HPW := Lib.hid (hPW.keep (below_Dx W))
  have HB3 := Lib.hid (b3.keep (below_Dx W))
  have HPK := gPeek s hs b p q k t HBL.out HC.out W.drew HPW.out
  unfold prV tkV at HPK
  replace HPK := Lib.hid HPK
  clear hz hW hPW b3
  go_region_held3 (fun X => X.cell? ⟨b, 3, none⟩ = some (.int .i64 0) ∧ X.cell? ⟨g3, 0, none⟩ = some (.int .i64 k2) ∧ X.cell? ⟨g3, 1, none⟩ = some (.string t2))
    (first | with_reducible exact KD | with_reducible exact K4 | with_reducible exact K0)
    (first
      | (go_at_call 47
         with_reducible refine Calls.mono HPK.out ?_
         rintro e w4 ⟨he4, P4, B4⟩
         subst he4
         have hb34 := B4.blk HB3.out hne
         have K4 : w4.cell? ⟨b, 3, none⟩ = some (.int .i64 0) ∧ w4.cell? ⟨g3, 0, none⟩ = some (.int .i64 k2) ∧ w4.cell? ⟨g3, 1, none⟩ = some (.string t2) := ⟨(Blk.cell P4 3).trans rfl, (hb34.cell 0).trans rfl, (hb34.cell 1).trans rfl⟩))
  all_goals
    have HBW := Lib.hid ((HWW.out.below (below_Dx W)).trans B4)
    have HP4 := Lib.hid P4
    cases r with
    | false =>
      clear K0 KD K4 P4 B4 hb34
      go_wp2_with fail
      exact bodyPost_ret (v := .bool false) (by simp [results, Tryz.results83, go_sem]) rfl ⟨rfl, HP4.out, HBW.out⟩
    | true =>
      have f0 := gw_blk P4
      have f1 := gw_blk hb34
      clear K0 KD K4 P4 B4 hb34
      go_upto_region 3 with (fail)
      refine wp_region_rg 10 [] (by kernel_rfl) (by kernel_rfl) (by kernel_rfl) trivial ?_
      iterate 10 (refine rg_det rfl rfl rfl (fun K hK => ?_); go_big_quiet_op; refine hK _ ?_; clear hK K)
      refine rg_nil (fun w' hw' hF => ?_)
      obtain ⟨z, rfl⟩ := hw'
      simp only [List.drop_succ_cons, List.drop_zero]
      obtain ⟨V, hV⟩ : ∃ V, V = z.w := ⟨_, rfl⟩
      have hPV := HP4.out.keep z.h
      have hbV := HBW.out.below z.h
      rw [← hV] at hPV hbV ⊢
      have HPS := Lib.hid (hPV.set (q + t2.size))
      have HBS := Lib.hid (hbV.put (Put.set V b 1 (.int .i64 ((q + t2.size : Nat) : Int))))
      have e9 := hPV.frozen
      have c1 := hPV.cell 1
      have lV := hPV.lt
      clear hF hV z f0 f1 hPV hbV
      go_wp2_with fail
      exact bodyPost_ret (v := .bool true) (by simp [results, Tryz.results83, go_sem]) rfl ⟨rfl, HPS.out, HBS.out⟩
end Go.Proofs.YtficeebbbkmhcaaGreatDoor
namespace Go.Proofs.YtficeebbbkmhcaaGreatDoor
open Go.RowKit

def nmC : Nat → ByteArray
  | 0 => { data := #[119, 104, 111] }
  | 1 => { data := #[119, 104, 101, 110] }
  | 2 => { data := #[107, 105, 110, 100] }
  | _ => { data := #[118, 97, 108, 117, 101] }
theorem nmC_size (k : Nat) : (nmC k).size ≤ 5 := by
  match k with
  | 0 => decide
  | 1 => decide
  | 2 => decide
  | _ + 3 => exact (by decide : (nmC 3).size ≤ 5)
theorem nmC_eq : ∀ c k : Fin 4, ((1 : Int) == 1 && (nmC c.val).toList == (nmC k.val).toList) = decide (k.val = c.val) := by decide +kernel
theorem blank_self (s : ByteArray) (q : Nat) : Blank s q q := ⟨Nat.le_refl _, fun i h1 h2 => by omega⟩
def nmV : Array Value := #[.string (nmC 0), .string (nmC 1), .string (nmC 2), .string (nmC 3)]
theorem gColumns15 (w : World) : Calls Tryz.prog 115 #[] w fun e w' => e = .returned (.slice (some ⟨w.heap.size, 0, none⟩) 4 4) ∧ Blk w' w.heap.size 9 nmV ∧ Below w.heap.size w w' := by
  go_enter Tryz.func115, Tryz.ntmps115
  go_wp2
  refine stk1 (M := fun W => bodyPost _ _ _ _ _ W) fun W hB hz b1 => ?_
  go_ret
  exact ⟨rfl, b1, hB⟩
set_option maxRecDepth 100000 in
set_option maxHeartbeats 1000000 in
theorem gColumn15 (c : Nat) (hc : c < 4) (s : ByteArray) (hs : s.size ≤ 400) (b p q : Nat) (hq : q ≤ 900) (hB : Blank s p q) (hC : PkC s q 1 (nmC c)) (w : World) (hP : PrB w b s p) :
    Calls Tryz.prog 84 #[prV b] w fun e w' => e = .returned (.int .i64 (c : Int)) ∧ PrB w' b s (q + (nmC c).size) ∧ Onl b w w' := by
  have HP := Lib.hid hP
  have HBL := Lib.hid hB
  have HC := Lib.hid hC
  have hlt := hP.lt
  clear hP hB hC
  unfold prV
  go_enter Tryz.func84, Tryz.ntmps84
  go_wp2_with fail
  refine (gColumns15 w).mono ?_
  rintro e W ⟨rfl, b5, hW⟩
  have hPW := HP.out.keep hW
  have HWW := Lib.hid (Onl.of b hW)
  obtain ⟨g, hg⟩ : ∃ g, g = w.heap.size := ⟨_, rfl⟩
  rw [← hg] at b5 ⊢
  have hne : g ≠ b := by omega
  have HG := Lib.hid hg
  have HPW := Lib.hid hPW
  have HB5 := Lib.hid b5
  clear hg hPW hW b5
  go_wp2_with fail
  go_loopw [7] (fun i wr => ∃ k : Nat, k ≤ c ∧ i = .int .i64 (k : Int) ∧ (∃ p', Blank s p' q ∧ PrB wr b s p') ∧ Blk wr g 9 nmV ∧ Onl b w wr) (fun i _ => c + 1 - (intOf i).toNat)
  case atStart => exact ⟨0, Nat.zero_le _, rfl, ⟨p, HBL.out, HPW.out⟩, HB5.out, HWW.out⟩
  case round =>
    obtain ⟨k, hk, rfl, ⟨p', hBl, hPr⟩, hb5, hbw⟩ := hrel
    have e5 : wr.cell? ⟨g, k, none⟩ = some (.string (nmC k)) := by
      rw [hb5.cell]
      obtain rfl | rfl | rfl | rfl : k = 0 ∨ k = 1 ∨ k = 2 ∨ k = 3 := by omega
      all_goals rfl
    have l5 := hb5.lt
    have HA := fun r hr => gAccept s hs b p' q (by omega) 1 (nmC c) hBl HC.out 1 (nmC k) (by have := nmC_size k; omega) r hr wr hPr
    unfold prV tkV at HA
    have HB5R := Lib.hid hb5
    have HBW := Lib.hid hbw
    have hk4 : k < 4 := by omega
    by_cases hkc : k = c
    · subst hkc
      replace HA := Lib.hid (HA true (by simp))
      clear hPr hBl hb5 hbw
      go_wp2_with fail
      refine HA.out.mono ?_
      rintro e w4 ⟨rfl, P4, B4⟩
      have HP4 := Lib.hid P4
      have HB4 := Lib.hid (HBW.out.trans B4)
      clear P4 B4 e5
      go_wp2_with fail
      exact bodyPost_ret (v := .int .i64 (k : Int)) (by simp [results, Tryz.results84, go_sem]) rfl ⟨rfl, HP4.out, HB4.out⟩
    · replace HA := Lib.hid (HA false (by have := nmC_eq ⟨c, hc⟩ ⟨k, hk4⟩; simpa [hkc] using this))
      clear hPr hBl hb5 hbw
      go_wp2_with fail
      refine HA.out.mono ?_
      rintro e w4 ⟨rfl, P4, B4⟩
      have HP4 := Lib.hid P4
      have HB4 := Lib.hid (HBW.out.trans B4)
      have HB5R := Lib.hid (B4.blk HB5R.out hne)
      clear P4 B4 e5
      go_wp2_with fail
      exact ⟨⟨k + 1, by omega, by go_num, ⟨q, blank_self s q, HP4.out⟩, HB5R.out, HB4.out⟩, by simp [intOf]; omega⟩
end Go.Proofs.YtficeebbbkmhcaaGreatDoor
namespace Go.Proofs.YtficeebbbkmhcaaGreatDoor
open Go.RowKit

theorem str_under15 : Tryz.prog.underlying 9 = some .string := by kernel_rfl
theorem u8_under15 : Tryz.prog.underlying 5 = some (.int .u8) := by kernel_rfl
theorem u8s_slice15 : Tryz.prog.underlying 127 = some (.slice 5) := by kernel_rfl
theorem step_bytes1 {o : Oper} {a : Act} {w : World} {x : Operand} {c : UInt8} (ho : o.op = .convert 9 127 x) (hx : a.eval x = .string { data := #[c] }) :
    stepAt Tryz.prog o a w fun v w' => (∃ cap, v = .slice (some ⟨w.heap.size, 0, none⟩) 1 cap ∧ 1 ≤ cap) ∧ w'.cell? ⟨w.heap.size, 0, none⟩ = some (.int .u8 (c.toNat : Int)) ∧ w.heap.size < w'.heap.size ∧ Below w.heap.size w w' := by
  have hr := Lib.run_convert_string_bytes (P := Tryz.prog) w _ _ _ { data := #[c] } str_under15 u8s_slice15 u8_under15
  unfold stepAt execOp
  simp only [ho, hx, Sem.run_bind, hr, Result.andThen_ok]
  have hB : Below w.heap.size w (Lib.bytesWorld w 5 { data := #[c] }) := ⟨rfl, rfl, rfl, by rw [Lib.bytesWorld_size]; omega, fun k hk => Lib.bytesWorld_at_old w _ _ k hk⟩
  refine ⟨⟨_, rfl, grownCap_ge w _ _ _⟩, ?_, by rw [Lib.bytesWorld_size]; omega, hB⟩
  have := Lib.bytesWorld_cell w 5 { data := #[c] } 0 (show 0 < 1 by decide)
  exact this
set_option maxRecDepth 100000 in
theorem gAtoi2 (w : World) : Calls Tryz.prog 130 #[.string { data := #[50] }] w (Ret (.tuple #[.int .i64 2, .nilIface]) w) := by
  have ix : ∀ w, (Instr.index 9 (.string { data := #[50] }) (.int .i64 0)).run Tryz.prog w = .ok (.int .u8 50) w := fun w => idx_str (s := { data := #[50] }) (p := 0) (c := 50) rfl w
  go_enter Tryz.func130, Tryz.ntmps130
  go_upto_region 9 with (fail)
  refine wp_region_lit ?_
  iterate 1 (refine wpList_plain rfl fun K hK => ?_; go_big_op; refine hK _ _ ?_; clear hK K)
  refine wpList_plain rfl fun K3 hK3 => wp_of_step (stepAt_mono (fun v47 W hh => ?_) (step_bytes1 (c := 50) rfl rfl))
  obtain ⟨⟨cap, rfl, hcap⟩, c47, l47, hB⟩ := hh
  refine hK3 _ _ ?_
  clear hK3 K3
  iterate 2 (try simp only [Act.put, List.setIfInBounds_toArray, List.set_cons_succ, List.set_cons_zero])
  replace c47 : W.cell? ⟨w.heap.size, 0, none⟩ = some (.int .u8 50) := c47
  have HB := Lib.hid hB
  obtain ⟨g, hg⟩ : ∃ g, g = w.heap.size := ⟨_, rfl⟩
  rw [← hg] at c47 l47 ⊢
  clear hg hB
  go_wp2_with fail
  go_loopw [6, 49] (fun n i wr => (n = .int .i64 0 ∧ i = .int .i64 0 ∨ n = .int .i64 2 ∧ i = .int .i64 1) ∧ wr = W) (fun _ i _ => 2 - (intOf i).toNat)
  case atStart => exact ⟨.inl ⟨rfl, rfl⟩, rfl⟩
  case round =>
    obtain ⟨⟨rfl, rfl⟩ | ⟨rfl, rfl⟩, rfl⟩ := hrel
    · go_wp2
      exact ⟨⟨.inr ⟨rfl, rfl⟩, trivial⟩, by simp [intOf]⟩
    · go_wp2
      exact bodyPost_ret (v := .tuple #[.int .i64 2, .nilIface]) (by simp [results, Tryz.results130, go_sem]) rfl ⟨rfl, HB.out⟩
set_option maxRecDepth 100000 in
theorem gAtoi5 (w : World) : Calls Tryz.prog 130 #[.string { data := #[53] }] w (Ret (.tuple #[.int .i64 5, .nilIface]) w) := by
  have ix : ∀ w, (Instr.index 9 (.string { data := #[53] }) (.int .i64 0)).run Tryz.prog w = .ok (.int .u8 53) w := fun w => idx_str (s := { data := #[53] }) (p := 0) (c := 53) rfl w
  go_enter Tryz.func130, Tryz.ntmps130
  go_upto_region 9 with (fail)
  refine wp_region_lit ?_
  iterate 1 (refine wpList_plain rfl fun K hK => ?_; go_big_op; refine hK _ _ ?_; clear hK K)
  refine wpList_plain rfl fun K7 hK7 => wp_of_step (stepAt_mono (fun v47 W hh => ?_) (step_bytes1 (c := 53) rfl rfl))
  obtain ⟨⟨cap, rfl, hcap⟩, c47, l47, hB⟩ := hh
  refine hK7 _ _ ?_
  clear hK7 K7
  iterate 2 (try simp only [Act.put, List.setIfInBounds_toArray, List.set_cons_succ, List.set_cons_zero])
  replace c47 : W.cell? ⟨w.heap.size, 0, none⟩ = some (.int .u8 53) := c47
  have HB := Lib.hid hB
  obtain ⟨g, hg⟩ : ∃ g, g = w.heap.size := ⟨_, rfl⟩
  rw [← hg] at c47 l47 ⊢
  clear hg hB
  go_wp2_with fail
  go_loopw [6, 49] (fun n i wr => (n = .int .i64 0 ∧ i = .int .i64 0 ∨ n = .int .i64 5 ∧ i = .int .i64 1) ∧ wr = W) (fun _ i _ => 2 - (intOf i).toNat)
  case atStart => exact ⟨.inl ⟨rfl, rfl⟩, rfl⟩
  case round =>
    obtain ⟨⟨rfl, rfl⟩ | ⟨rfl, rfl⟩, rfl⟩ := hrel
    · go_wp2
      exact ⟨⟨.inr ⟨rfl, rfl⟩, trivial⟩, by simp [intOf]⟩
    · go_wp2
      exact bodyPost_ret (v := .tuple #[.int .i64 5, .nilIface]) (by simp [results, Tryz.results130, go_sem]) rfl ⟨rfl, HB.out⟩
def Dig (t : ByteArray) (d : Nat) : Prop := t = { data := #[50] } ∧ d = 2 ∨ t = { data := #[53] } ∧ d = 5
theorem gAtoiI (t : ByteArray) (d : Nat) (h : Dig t d) (w : World) : Calls Tryz.prog 130 #[.string t] w (Ret (.tuple #[.int .i64 (d : Int), .nilIface]) w) := by
  obtain ⟨rfl, rfl⟩ | ⟨rfl, rfl⟩ := h
  · exact gAtoi2 w
  · exact gAtoi5 w
theorem gAtoi (t : ByteArray) (d : Nat) (h : Dig t d) (w : World) : Calls Tryz.prog 116 #[.string t] w (Ret (.tuple #[.int .i64 (d : Int), .nilIface]) w) := by
  have HA := Lib.hid (gAtoiI t d h)
  clear h
  go_enter Tryz.func116, Tryz.ntmps116
  go_wp2_with fail
  refine (HA.out _).mono ?_
  rintro e w2 ⟨rfl, hb⟩
  have HB := Lib.hid hb
  clear hb
  go_wp2
  exact bodyPost_ret (v := .tuple #[.int .i64 (d : Int), .nilIface]) (by simp [results, Tryz.results116, go_sem]) rfl ⟨rfl, HB.out⟩
end Go.Proofs.YtficeebbbkmhcaaGreatDoor
namespace Go.Proofs.YtficeebbbkmhcaaGreatDoor
open Go.RowKit

theorem Dig.small {t : ByteArray} {d : Nat} (h : Dig t d) : t.size = 1 ∧ d ≤ 5 := by
  obtain ⟨rfl, rfl⟩ | ⟨rfl, rfl⟩ := h
  · exact ⟨rfl, by decide⟩
  · exact ⟨rfl, by decide⟩
set_option maxRecDepth 100000 in
set_option maxHeartbeats 1000000 in
theorem gNumber (t : ByteArray) (d lo hi : Nat) (hd : Dig t d) (hlo : lo ≤ d) (hhi : d ≤ hi) (s : ByteArray) (hs : s.size ≤ 400) (b p q : Nat) (hq : q ≤ 900) (hB : Blank s p q) (hC : PkC s q 2 t) (w : World) (hP : PrB w b s p) :
    Calls Tryz.prog 85 #[prV b, .int .i64 (lo : Int), .int .i64 (hi : Int)] w fun e w' => e = .returned (.int .i64 (d : Int)) ∧ PrB w' b s (q + 1) ∧ Onl b w w' := by
  obtain ⟨ht1, hd5⟩ := hd.small
  have HA := Lib.hid (gAtoi t d hd)
  have HPK := gPeek s hs b p q 2 t hB hC w hP
  have hlt := hP.lt
  unfold prV tkV at HPK
  replace HPK := Lib.hid HPK
  clear hP hB hC hd
  unfold prV
  go_enter Tryz.func85, Tryz.ntmps85
  go_wp2_with fail
  refine HPK.out.mono ?_
  rintro e W ⟨rfl, hPW, hW⟩
  go_upto_region 2 with (fail)
  refine wp_stk1 fun V hV hz b7 => ?_
  have hPV := hPW.keep hV
  have HVV := Lib.hid (hW.below hV)
  have e7 := b7.cell
  have l7 := b7.lt
  obtain ⟨g, hg⟩ : ∃ g, g = W.heap.size := ⟨_, rfl⟩
  rw [← hg] at b7 e7 l7 ⊢
  have hWs := hW.size
  have hne : g ≠ b := by omega
  have HPV := Lib.hid hPV
  have HB7 := Lib.hid b7
  have lb := hPV.lt
  clear hz hg hV hPV hPW hW b7 hWs
  go_wp2_with fail
  refine (HA.out V).mono ?_
  rintro e X ⟨rfl, hX⟩
  have hPX := HPV.out.keep hX
  have HXX := Lib.hid (HVV.out.below hX)
  have b7 := HB7.out.keep hX
  have f0 := gw_blk hPX
  have f1 := gw_blk b7
  have e0 := (hPX.cell 0).trans rfl
  have e1 := (hPX.cell 1).trans rfl
  have e3 := (hPX.cell 3).trans rfl
  have lX := hPX.lt
  have HPX := Lib.hid hPX
  have hd6 : ¬ (d : Int) > 1073741824 := by omega
  have hd7 : ¬ (1073741824 : Int) < (d : Int) := by omega
  have hd8 : ¬ (d : Int) < (lo : Int) := by omega
  have hd9 : ¬ (hi : Int) < (d : Int) := by omega
  clear e7 l7 lb hX hPX
  go_upto_region 11 with (fail)
  clear e0 e1 e3
  refine wp_region_rg 10 [] (by kernel_rfl) (by kernel_rfl) (by kernel_rfl) trivial ?_
  iterate 10 (refine rg_det rfl rfl rfl (fun K hK => ?_); go_big_quiet_op; refine hK _ ?_; clear hK K)
  refine rg_nil (fun w' hw' hF => ?_)
  obtain ⟨z, rfl⟩ := hw'
  simp only [List.drop_succ_cons, List.drop_zero]
  obtain ⟨V2, hV2⟩ : ∃ V, V = z.w := ⟨_, rfl⟩
  have hP2 := HPX.out.keep z.h
  have hb2 := HXX.out.below z.h
  rw [← hV2] at hP2 hb2 ⊢
  have HPS := Lib.hid (hP2.set (q + 1))
  have HBS := Lib.hid (hb2.put (Put.set V2 b 1 (.int .i64 ((q + 1 : Nat) : Int))))
  have e9 := hP2.frozen
  have c1 := hP2.cell 1
  have lV := hP2.lt
  clear hF hV2 z f0 f1 hP2 hb2 b7
  go_wp2_with fail
  exact bodyPost_ret (v := .int .i64 (d : Int)) (by simp [results, Tryz.results85, go_sem]) rfl ⟨rfl, HPS.out, HBS.out⟩
end Go.Proofs.YtficeebbbkmhcaaGreatDoor
namespace Go.Proofs.YtficeebbbkmhcaaGreatDoor
open Go.RowKit

theorem en_attestor_query_columnMax : ∀ args w, (callFunc 120 args).run Tryz.prog w = .ok (.enter 120 args) w := enters_of Tryz.func120 (by kernel_rfl) rfl
theorem gColMax (c : Nat) (hc : c = 0 ∨ c = 2) (w : World) : Calls Tryz.prog 120 #[.int .i64 (c : Int)] w (Ret (.int .i64 15) w) := by
  obtain rfl | rfl := hc
  · skip
    go_enter Tryz.func120, Tryz.ntmps120
    go_wp2
    go_ret
    exact ⟨rfl, Below.refl _ _⟩
  · skip
    go_enter Tryz.func120, Tryz.ntmps120
    go_wp2
    go_ret
    exact ⟨rfl, Below.refl _ _⟩
theorem cond_under : Tryz.prog.underlying 136 = some (.struct (Tryz.prog.fieldsOf 136)) := by kernel_rfl
theorem cond_size : (Tryz.prog.info? 136).map (·.size) = some 3 := by kernel_rfl
def cdc (c lo hi : Int) : List Value := [.int .i64 c, .int .i64 lo, .int .i64 hi]
theorem set3P {M : World → Prop} {w : World} {g : Nat} {t : TypeId} {cs : Array Value} {i j k : Nat} {v u x : Value} (b : Blk w g t cs) (h : ∀ X, Put w X g → Blk X g t (((cs.setIfInBounds i v).setIfInBounds j u).setIfInBounds k x) → M X) : M (((w.setCell ⟨g, i, none⟩ v).setCell ⟨g, j, none⟩ u).setCell ⟨g, k, none⟩ x) :=
  h _ (((Put.set w g i v).trans (Put.set _ g j u)).trans (Put.set _ g k x)) (((b.set_ i v).set_ j u).set_ k x)
theorem en___attestor_query_parser__cond : ∀ args w, (callFunc 117 args).run Tryz.prog w = .ok (.enter 117 args) w := enters_of Tryz.func117 (by kernel_rfl) rfl
def txt15 : ByteArray := { data := #[109, 111, 109, 101, 110, 116, 32, 118, 97, 108, 117, 101, 32, 50, 32, 119, 104, 101, 114, 101, 32, 107, 105, 110, 100, 32, 61, 32, 53] }
theorem txt_size : txt15.size ≤ 400 := by decide
theorem pk0 : PkC txt15 0 1 { data := #[109, 111, 109, 101, 110, 116] } := .inl ⟨6, by decide, by decide, by decide +kernel, by decide +kernel, rfl, by decide +kernel⟩
theorem pk7 : PkC txt15 7 1 (nmC 3) := .inl ⟨12, by decide, by decide, by decide +kernel, by decide +kernel, rfl, by decide +kernel⟩
theorem pk13 : PkC txt15 13 2 { data := #[50] } := .inr (.inl ⟨14, by decide, by decide, by decide +kernel, by decide +kernel, rfl, by decide +kernel⟩)
theorem pk15 : PkC txt15 15 1 { data := #[119, 104, 101, 114, 101] } := .inl ⟨20, by decide, by decide, by decide +kernel, by decide +kernel, rfl, by decide +kernel⟩
theorem pk21 : PkC txt15 21 1 (nmC 2) := .inl ⟨25, by decide, by decide, by decide +kernel, by decide +kernel, rfl, by decide +kernel⟩
theorem pk26 : PkC txt15 26 3 { data := #[61] } := .inr (.inr (.inl ⟨by decide +kernel, rfl, rfl⟩))
theorem pk28 : PkC txt15 28 2 { data := #[53] } := .inr (.inl ⟨29, by decide, by decide, by decide +kernel, by decide +kernel, rfl, by decide +kernel⟩)
theorem pk29 : PkC txt15 29 0 { data := #[] } := .inr (.inr (.inr ⟨by decide +kernel, rfl, rfl⟩))
theorem bl6 : Blank txt15 6 7 := ⟨by decide, by decide +kernel⟩
theorem bl12 : Blank txt15 12 13 := ⟨by decide, by decide +kernel⟩
theorem bl14 : Blank txt15 14 15 := ⟨by decide, by decide +kernel⟩
theorem bl20 : Blank txt15 20 21 := ⟨by decide, by decide +kernel⟩
theorem bl25 : Blank txt15 25 26 := ⟨by decide, by decide +kernel⟩
theorem bl27 : Blank txt15 27 28 := ⟨by decide, by decide +kernel⟩
set_option maxRecDepth 100000 in
set_option maxHeartbeats 1000000 in
theorem gCond (b : Nat) (w : World) (hP : PrB w b txt15 20) : Calls Tryz.prog 117 #[prV b] w fun e w' => e = .returned (.agg (cdc 2 5 5).toArray) ∧ PrB w' b txt15 29 ∧ Onl b w w' := by
  have hlt := hP.lt
  have HP := Lib.hid hP
  have HA := Lib.hid (fun W hW => gAccept txt15 txt_size b 25 26 (by decide) 3 { data := #[61] } bl25 pk26 3 { data := #[61] } (by decide) true (by decide +kernel) W hW)
  have HCo := Lib.hid (fun W hW => gColumn15 2 (by decide) txt15 txt_size b 20 21 (by decide) bl20 pk21 W hW)
  have HNu := Lib.hid (fun W hW => gNumber { data := #[53] } 5 0 15 (.inr ⟨rfl, rfl⟩) (by decide) (by decide) txt15 txt_size b 27 28 (by decide) bl27 pk28 W hW)
  unfold prV tkV at HA
  unfold prV at HCo HNu
  clear hP
  unfold prV
  go_enter Tryz.func117, Tryz.ntmps117
  go_upto_region 1 with (fail)
  refine wp_stk1 fun W hW hz b2 => ?_
  have hPW := HP.out.keep hW
  have HWW := Lib.hid (Onl.of b hW)
  obtain ⟨g2, hg2⟩ : ∃ g, g = w.heap.size := ⟨_, rfl⟩
  rw [← hg2] at b2 ⊢
  have hne2 : g2 ≠ b := by omega
  have hw2 : w.heap.size ≤ g2 := by omega
  have HB2 := Lib.hid b2
  have HPW := Lib.hid hPW
  have lb := hPW.lt
  clear hg2 hW hPW b2 hz
  go_wp2_with fail
  refine (HCo.out W HPW.out).mono ?_
  rintro e W1 ⟨rfl, hP1, hW1⟩
  go_upto_region 2 with (fail)
  refine wp_stk1 fun V hV hz b3 => ?_
  have hPV : PrB V b txt15 25 := hP1.keep hV
  have hb2 := (hW1.blk HB2.out hne2).keep hV
  have HVV := Lib.hid ((HWW.out.trans hW1).below hV)
  obtain ⟨g3, hg3⟩ : ∃ g, g = W1.heap.size := ⟨_, rfl⟩
  rw [← hg3] at b3 ⊢
  have hs1 := hW1.size
  have hl2 := (hW1.blk HB2.out hne2).lt
  have hne3 : g3 ≠ b := by omega
  have hne23 : g2 ≠ g3 := by omega
  have hw3 : w.heap.size ≤ g3 := by omega
  have HB2 := Lib.hid hb2
  have HB3 := Lib.hid b3
  have HPV := Lib.hid hPV
  have e3 := b3.cell
  clear hz hV hP1 hPV hb2 hW1 hs1 hl2 hg3 b3
  go_wp2_with fail
  refine (gColMax 2 (.inr rfl) V).mono ?_
  rintro e V1 ⟨rfl, hb⟩
  have HPV := Lib.hid (HPV.out.keep hb)
  have HB2 := Lib.hid (HB2.out.keep hb)
  have HB3 := Lib.hid (HB3.out.keep hb)
  have HVV := Lib.hid (HVV.out.below hb)
  clear e3 hb
  go_wp2_with fail
  refine (HA.out V1 HPV.out).mono ?_
  rintro e V2 ⟨rfl, P2, O2⟩
  replace P2 : PrB V2 b txt15 27 := P2
  have HB2 := Lib.hid (O2.blk HB2.out hne2)
  have HB3 := Lib.hid (O2.blk HB3.out hne3)
  have HVV := Lib.hid (HVV.out.trans O2)
  have HP2 := Lib.hid P2
  clear P2 O2
  go_wp2_with fail
  refine (HNu.out V2 HP2.out).mono ?_
  rintro e V3 ⟨rfl, P2, O2⟩
  have b2 := O2.blk HB2.out hne2
  have b3 := O2.blk HB3.out hne3
  have HVV := Lib.hid (HVV.out.trans O2)
  have HP2 := Lib.hid P2
  have HB2 := Lib.hid b2
  have HB3 := Lib.hid b3
  have e3 := b3.frozen
  have l3 := b3.lt
  have c30 := b3.cell 0
  have c31 := b3.cell 1
  clear P2 O2 b2 b3
  go_upto_region 5 with (fail)
  refine set1 (M := fun W => Code.wp _ _ _ _ W) HB3.out fun X hX bX => ?_
  have HPX := Lib.hid (hX.blk HP2.out (Ne.symm hne3))
  have HB2 := Lib.hid (hX.blk HB2.out hne23)
  have HB3 := Lib.hid bX
  have HVX := Lib.hid (HVV.out.new hX hw3)
  clear e3 l3 c30 c31
  have e3 := bX.frozen
  have l3 := bX.lt
  have c3x := bX.cell
  clear bX hX
  go_upto_region 6 with (fail)
  refine set1 (M := fun W => Code.wp _ _ _ _ W) HB3.out fun Y hY bY => ?_
  have HPY := Lib.hid (hY.blk HPX.out (Ne.symm hne3))
  have b2 := hY.blk HB2.out hne23
  have HVY := Lib.hid (HVX.out.new hY hw3)
  clear e3 l3 c3x
  have c3 := bY.cell
  have e2 := b2.frozen
  have c2 := b2.cell
  have l2 := b2.lt
  have HB2 := Lib.hid b2
  clear bY hY b2
  go_wp2_with fail
  refine set3P (M := fun W => bodyPost _ _ _ _ _ W) HB2.out fun Z hZ bZ => ?_
  exact bodyPost_ret (v := .agg (cdc 2 5 5).toArray) (res_row (cs := cdc 2 5 5) (g := g2) rfl rfl cond_under rfl (by rw [cond_size]; rfl) bZ) rfl ⟨rfl, hZ.blk HPY.out (Ne.symm hne2), HVY.out.new hZ hw2⟩
end Go.Proofs.YtficeebbbkmhcaaGreatDoor
namespace Go.Proofs.YtficeebbbkmhcaaGreatDoor

abbrev B32 := BitVec 32
def bv (x : B32) : Int := (x.toNat : Int)
def rotr (x : B32) (n : Nat) : B32 := x >>> n ||| x <<< (32 - n)
def sg0 (x : B32) : B32 := rotr x 7 ^^^ rotr x 18 ^^^ x >>> 3
def sg1 (x : B32) : B32 := rotr x 17 ^^^ rotr x 19 ^^^ x >>> 10
def schN (m : List B32) : Nat → List B32
  | 0 => m
  | k + 1 => schN m k ++ [(schN m k).getD k 0 + sg0 ((schN m k).getD (k + 1) 0) + (schN m k).getD (k + 9) 0 + sg1 ((schN m k).getD (k + 14) 0)]
def word4 (b : List Nat) (i : Nat) : B32 := BitVec.ofNat 32 (b.getD (4 * i) 0 * 16777216 + b.getD (4 * i + 1) 0 * 65536 + b.getD (4 * i + 2) 0 * 256 + b.getD (4 * i + 3) 0)
def words16 (b : List Nat) (k : Nat) : List B32 := (List.range k).map (word4 b)
def sched (b : List Nat) : List B32 := schN (words16 b 16) 48
def kTab : List Nat := [0x428a2f98, 0x71374491, 0xb5c0fbcf, 0xe9b5dba5, 0x3956c25b, 0x59f111f1, 0x923f82a4, 0xab1c5ed5,
  0xd807aa98, 0x12835b01, 0x243185be, 0x550c7dc3, 0x72be5d74, 0x80deb1fe, 0x9bdc06a7, 0xc19bf174,
  0xe49b69c1, 0xefbe4786, 0x0fc19dc6, 0x240ca1cc, 0x2de92c6f, 0x4a7484aa, 0x5cb0a9dc, 0x76f988da,
  0x983e5152, 0xa831c66d, 0xb00327c8, 0xbf597fc7, 0xc6e00bf3, 0xd5a79147, 0x06ca6351, 0x14292967,
  0x27b70a85, 0x2e1b2138, 0x4d2c6dfc, 0x53380d13, 0x650a7354, 0x766a0abb, 0x81c2c92e, 0x92722c85,
  0xa2bfe8a1, 0xa81a664b, 0xc24b8b70, 0xc76c51a3, 0xd192e819, 0xd6990624, 0xf40e3585, 0x106aa070,
  0x19a4c116, 0x1e376c08, 0x2748774c, 0x34b0bcb5, 0x391c0cb3, 0x4ed8aa4a, 0x5b9cca4f, 0x682e6ff3,
  0x748f82ee, 0x78a5636f, 0x84c87814, 0x8cc70208, 0x90befffa, 0xa4506ceb, 0xbef9a3f7, 0xc67178f2]
def kTabB : List B32 := kTab.map (BitVec.ofNat 32)
structure S8 where
  a : B32
  b : B32
  c : B32
  d : B32
  e : B32
  f : B32
  g : B32
  h : B32
def S8.cells (s : S8) : List Value := [.int .u32 (bv s.a), .int .u32 (bv s.b), .int .u32 (bv s.c), .int .u32 (bv s.d), .int .u32 (bv s.e), .int .u32 (bv s.f), .int .u32 (bv s.g), .int .u32 (bv s.h)]
def bs1 (e : B32) : B32 := rotr e 6 ^^^ rotr e 11 ^^^ rotr e 25
def bs0 (a : B32) : B32 := rotr a 2 ^^^ rotr a 13 ^^^ rotr a 22
def chE (e f g : B32) : B32 := e &&& f ^^^ ~~~e &&& g
def maj (a b c : B32) : B32 := a &&& b ||| a &&& c ||| b &&& c
def tOne (k w : B32) (s : S8) : B32 := s.h + bs1 s.e + chE s.e s.f s.g + k + w
def rnd (k w : B32) (s : S8) : S8 := ⟨tOne k w s + (bs0 s.a + maj s.a s.b s.c), s.a, s.b, s.c, s.d + tOne k w s, s.e, s.f, s.g⟩
def rndK (b : List Nat) (s : S8) : Nat → S8
  | 0 => s
  | k + 1 => rnd (kTabB.getD k 0) ((sched b).getD k 0) (rndK b s k)
def S8.add (s v : S8) : S8 := ⟨s.a + v.a, s.b + v.b, s.c + v.c, s.d + v.d, s.e + v.e, s.f + v.f, s.g + v.g, s.h + v.h⟩
def comp (s : S8) (b : List Nat) : S8 := s.add (rndK b s 64)
def init8 : S8 := ⟨0x6a09e667, 0xbb67ae85, 0x3c6ef372, 0xa54ff53a, 0x510e527f, 0x9b05688c, 0x1f83d9ab, 0x5be0cd19⟩
def padZ (n : Nat) : Nat := (119 - n % 64) % 64
def lenB (n : Nat) : List Nat := (List.range 8).map fun i => n * 8 / 2 ^ (56 - 8 * i) % 256
def pad (b : List Nat) : List Nat := b ++ 128 :: List.replicate (padZ b.length) 0 ++ lenB b.length
def blk64 (p : List Nat) (i : Nat) : List Nat := (p.drop (64 * i)).take 64
def shaK (p : List Nat) : Nat → S8
  | 0 => init8
  | k + 1 => comp (shaK p k) (blk64 p k)
def digK (s : S8) (i : Nat) : Nat := ([s.a, s.b, s.c, s.d, s.e, s.f, s.g, s.h].getD (i / 4) 0).toNat / 2 ^ (24 - 8 * (i % 4)) % 256
def digL (s : S8) : List Nat := (List.range 32).map (digK s)
theorem digL_length (s : S8) : (digL s).length = 32 := by simp [digL]
theorem digL_lt (s : S8) : ∀ x ∈ digL s, x < 256 := fun x hx => by
  obtain ⟨i, _, rfl⟩ := List.mem_map.1 hx
  unfold digK
  omega
def sha (b : List Nat) : List Nat := digL (shaK (pad b) ((pad b).length / 64))
theorem sha_length (b : List Nat) : (sha b).length = 32 := digL_length _
theorem sha_lt (b : List Nat) : ∀ x ∈ sha b, x < 256 := digL_lt _
def byc (l : List Nat) : List Value := l.map fun x : Nat => Value.int .u8 (x : Int)
end Go.Proofs.YtficeebbbkmhcaaGreatDoor
namespace Go.Proofs.YtficeebbbkmhcaaGreatDoor

/-! ### Transcripts -/
def w8 (x : Nat) : List Nat := (List.range 8).map fun i => x / 2 ^ (8 * i) % 256
def le8 (b : List Nat) (o : Nat) : Nat → Nat
  | 0 => 0
  | k + 1 => le8 b o k * 256 + b.getD (o + (7 - k)) 0
end Go.Proofs.YtficeebbbkmhcaaGreatDoor
namespace Go.Proofs.YtficeebbbkmhcaaGreatDoor
open Go.RowKit

def ByS (lo hi : Nat) (w : World) (v : Value) (l : List Nat) : Prop := Rd lo hi 1 w v l.length (byc l)
theorem ByS.len {lo hi : Nat} {w : World} {v : Value} {l : List Nat} (h : ByS lo hi w v l) : ∃ A cap, v = .slice A l.length cap := Rd.len h
theorem ByS.keep {lo hi : Nat} {w X : World} {v : Value} {l : List Nat} (h : ByS lo hi w v l) (hb : Below w.heap.size w X) : ByS lo hi X v l := Rd.keep h hb
end Go.Proofs.YtficeebbbkmhcaaGreatDoor
namespace Go.Proofs.YtficeebbbkmhcaaGreatDoor
open Go.RowKit

attribute [local irreducible] wpRg
end Go.Proofs.YtficeebbbkmhcaaGreatDoor
namespace Go.Proofs.YtficeebbbkmhcaaGreatDoor
open Go.RowKit

attribute [local irreducible] wpRg
end Go.Proofs.YtficeebbbkmhcaaGreatDoor
namespace Go.Proofs.YtficeebbbkmhcaaGreatDoor
open Go.RowKit

attribute [local irreducible] wpRg
end Go.Proofs.YtficeebbbkmhcaaGreatDoor
namespace Go.Proofs.YtficeebbbkmhcaaGreatDoor
open Go.RowKit

attribute [local irreducible] wpRg
end Go.Proofs.YtficeebbbkmhcaaGreatDoor
namespace Go.Proofs.YtficeebbbkmhcaaGreatDoor
open Go.RowKit

attribute [local irreducible] wpRg
end Go.Proofs.YtficeebbbkmhcaaGreatDoor
namespace Go.Proofs.YtficeebbbkmhcaaGreatDoor
open Go.RowKit

attribute [local irreducible] wpRg
end Go.Proofs.YtficeebbbkmhcaaGreatDoor
namespace Go.Proofs.YtficeebbbkmhcaaGreatDoor
open Go.RowKit

def OwB (base : Nat) (w : World) (v : Value) (l : List Nat) : Prop := w.ownsRow base 5 1 v l.length (byc l)
theorem OwB.len {base : Nat} {w : World} {v : Value} {l : List Nat} (h : OwB base w v l) : ∃ A cap, v = .slice A l.length cap := by
  rcases h.2 with ⟨rfl, e⟩ | ⟨g, cap, cur, rfl, _⟩
  · exact ⟨none, 0, by rw [e]⟩
  · exact ⟨_, cap, rfl⟩
theorem OwB.keep {base : Nat} {w X : World} {v : Value} {l : List Nat} (h : OwB base w v l) (hb : Below w.heap.size w X) : OwB base X v l := own_below h (Nat.le_refl _) hb
attribute [local irreducible] wpRg
end Go.Proofs.YtficeebbbkmhcaaGreatDoor
namespace Go.Proofs.YtficeebbbkmhcaaGreatDoor
open Go.RowKit

attribute [local irreducible] wpRg
end Go.Proofs.YtficeebbbkmhcaaGreatDoor
namespace Go.Proofs.YtficeebbbkmhcaaGreatDoor
open Go.RowKit

end Go.Proofs.YtficeebbbkmhcaaGreatDoor
namespace Go.Proofs.YtficeebbbkmhcaaGreatDoor
open Go.RowKit

attribute [local irreducible] wpRg
end Go.Proofs.YtficeebbbkmhcaaGreatDoor
namespace Go.Proofs.YtficeebbbkmhcaaGreatDoor
open Go.RowKit

attribute [local irreducible] wpRg
end Go.Proofs.YtficeebbbkmhcaaGreatDoor
namespace Go.Proofs.YtficeebbbkmhcaaGreatDoor
open Go.RowKit

attribute [local irreducible] wpRg
end Go.Proofs.YtficeebbbkmhcaaGreatDoor
namespace Go.Proofs.YtficeebbbkmhcaaGreatDoor
open Go.RowKit

attribute [local irreducible] wpRg
end Go.Proofs.YtficeebbbkmhcaaGreatDoor
