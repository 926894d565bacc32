/-
  simulated of the law of chapter 32, by contract.
-/
import Derived.Test.YtnddfeidggcplaaGreatMd32
namespace Go.Proofs.YtnddfeidggcplaaGreat
open Go.RowKit

/-- A Script of chapter 32. -/
structure Sc32 where
  V : Raw
  C : List Raw
  R : List Raw
  F : Raw
  N : Nat
  D : Nat
def Sc32.n (x : Sc32) : Nat := x.N % 5
def Sc32.d (x : Sc32) : Nat := 1 + x.D % 3
def Sc32.l (x : Sc32) : Nat := min x.R.length 20
def Sc32.v (x : Sc32) : E := em x.V.1 x.V.2
def Sc32.co (x : Sc32) : List E := madeAll x.C x.n
def Sc32.rn (x : Sc32) : List E := madeAll x.R x.l
def Sc32.fin (x : Sc32) : E := em x.F.1 x.F.2
theorem Sc32.n_le (x : Sc32) : x.n ≤ 4 := by unfold Sc32.n; omega
theorem Sc32.d_le (x : Sc32) : 1 ≤ x.d ∧ x.d ≤ 3 := by unfold Sc32.d; omega
theorem Sc32.l_le (x : Sc32) : x.l ≤ 20 := Nat.min_le_right _ _
theorem Sc32.co_len (x : Sc32) : x.co.length = x.n := madeAll_length _ _
theorem Sc32.rn_len (x : Sc32) : x.rn.length = x.l := madeAll_length _ _
structure Sc32S (hi : Nat) (w : World) (x : Sc32) (vC vR : Value) : Prop where
  C : RawS 0 hi w vC x.C
  R : RawS 0 hi w vR x.R
  v1 : Word x.V.1
  v2 : Word x.V.2
  f1 : Word x.F.1
  f2 : Word x.F.2
  n : x.N < 256
  d : x.D < 256
def sc32 (vC vR : Value) (x : Sc32) : Value := .agg #[.int .u64 x.V.1, .int .u64 x.V.2, vC, vR, .int .u64 x.F.1, .int .u64 x.F.2, .int .u8 (x.N : Int), .int .u8 (x.D : Int)]
theorem Sc32S.keep {hi : Nat} {w X : World} {x : Sc32} {vC vR : Value} (h : Sc32S hi w x vC vR) (hb : Below w.heap.size w X) (hh : hi ≤ X.heap.size) : Sc32S X.heap.size X x vC vR :=
  ⟨⟨(h.C.1.keep hb).wide (Nat.le_refl _) hh, h.C.2⟩, ⟨(h.R.1.keep hb).wide (Nat.le_refl _) hh, h.R.2⟩, h.v1, h.v2, h.f1, h.f2, h.n, h.d⟩
def Eight (W : World) (g : Nat) (a b c d e f p q : Value) : Prop := W.cell? ⟨g, 0, none⟩ = some a ∧ W.cell? ⟨g, 1, none⟩ = some b ∧ W.cell? ⟨g, 2, none⟩ = some c ∧ W.cell? ⟨g, 3, none⟩ = some d ∧ W.cell? ⟨g, 4, none⟩ = some e ∧ W.cell? ⟨g, 5, none⟩ = some f ∧ W.cell? ⟨g, 6, none⟩ = some p ∧ W.cell? ⟨g, 7, none⟩ = some q
theorem eight_blk {W : World} {g : Nat} {t : TypeId} {a b c d e f p q : Value} (h : Blk W g t #[a, b, c, d, e, f, p, q]) : W.cell? ⟨g, 0, none⟩ = some a ∧ W.cell? ⟨g, 1, none⟩ = some b ∧ W.cell? ⟨g, 2, none⟩ = some c ∧ W.cell? ⟨g, 3, none⟩ = some d ∧ W.cell? ⟨g, 4, none⟩ = some e ∧ W.cell? ⟨g, 5, none⟩ = some f ∧ W.cell? ⟨g, 6, none⟩ = some p ∧ W.cell? ⟨g, 7, none⟩ = some q :=
  ⟨h.cell 0, h.cell 1, h.cell 2, h.cell 3, h.cell 4, h.cell 5, h.cell 6, h.cell 7⟩
theorem set25 {M : World → Prop} {w : World} {N g h : Nat} {t u : TypeId} {c1 c2 d1 d2 d3 d4 d5 v1 v2 x1 x2 x3 x4 x5 : Value} (b2 : Blk w g t #[c1, c2]) (b3 : Blk w h u #[d1, d2, d3, d4, d5]) (hne : g ≠ h) (hg : N ≤ g) (hh : N ≤ h)
    (H : ∀ X, Keeps (fun j => j ≠ g ∧ j ≠ h) w X → Below N w X → Blk X g t #[v1, v2] → Blk X h u #[x1, x2, x3, x4, x5] → X.heap.size = w.heap.size → M X) :
    M (((((((w.setCell ⟨g, 0, none⟩ v1).setCell ⟨g, 1, none⟩ v2).setCell ⟨h, 0, none⟩ x1).setCell ⟨h, 1, none⟩ x2).setCell ⟨h, 2, none⟩ x3).setCell ⟨h, 3, none⟩ x4).setCell ⟨h, 4, none⟩ x5) := by
  have p1 := (Put.set w g 0 v1).trans (Put.set _ g 1 v2)
  have p2 := ((((Put.set ((w.setCell ⟨g, 0, none⟩ v1).setCell ⟨g, 1, none⟩ v2) h 0 x1).trans (Put.set _ h 1 x2)).trans (Put.set _ h 2 x3)).trans (Put.set _ h 3 x4)).trans (Put.set _ h 4 x5)
  exact H _ ⟨Nat.le_of_eq (p2.size.trans p1.size).symm, fun j hj _ => (p2.other j hj.2).trans (p1.other j hj.1)⟩ (below_put (below_put (Below.refl _ _) p1 hg) p2 hh) (p2.blk ((b2.set_ 0 v1).set_ 1 v2) hne) ((((((p1.blk b3 (Ne.symm hne)).set_ 0 x1).set_ 1 x2).set_ 2 x3).set_ 3 x4).set_ 4 x5) (p2.size.trans p1.size)
set_option maxRecDepth 100000 in
set_option maxHeartbeats 4000000 in
theorem lSim32 (x : Sc32) (vC vR : Value) (w : World) (h : Sc32S w.heap.size w x vC vR) :
    Calls Tryz.prog 26 #[sc32 vC vR x] w fun e w' => ∃ AC cC AL cL, e = .returned (.tuple #[ev x.v, .agg #[.slice AC x.n cC, .int .i64 (x.d : Int), .slice AL x.l cL, .int .u64 (fv x.fin.a), .int .u64 (fv x.fin.b)]]) ∧ ExtS w.heap.size w'.heap.size w' (.slice AC x.n cC) x.co ∧ ExtS w.heap.size w'.heap.size w' (.slice AL x.l cL) x.rn ∧ Below w.heap.size w w' := by
  obtain ⟨AC, cC, rfl⟩ := h.C.1.len
  obtain ⟨AR, cR, rfl⟩ := h.R.1.len
  have v1 := h.v1
  have v2 := h.v2
  have f1 := h.f1
  have f2 := h.f2
  have hN := h.n
  have hD := h.d
  have hmN : Int.tmod (x.N : Int) 5 = (x.n : Int) := rfl
  obtain ⟨dd, hdd⟩ : ∃ dd, dd = x.D % 3 := ⟨_, rfl⟩
  have hmD : Int.tmod (x.D : Int) 3 = (dd : Int) := by rw [hdd]; rfl
  have hd2 : dd ≤ 2 := by omega
  have hwD : IntKind.i64.wrap (dd : Int) = (dd : Int) := IntWalk.i64_in _ (by omega)
  have hwD2 : IntKind.i64.wrap (1 + (dd : Int)) = 1 + (dd : Int) := IntWalk.i64_in _ (by omega)
  have hn4 := x.n_le
  have hwN : IntKind.i64.wrap ((x.n : Nat) : Int) = (x.n : Int) := IntWalk.i64_in _ (by omega)
  have hd3 : x.d = 1 + dd := by rw [hdd]; rfl
  have hRl := h.R.1.2.1
  have H1 := Lib.hid (fun W (hW : Below w.heap.size w W) => xMadeAll x.C x.n (by omega) (.slice AC x.C.length cC) w.heap.size W ⟨h.C.1.keep hW, h.C.2⟩ hW.size)
  have H2 := Lib.hid (fun W (hW : Below w.heap.size w W) => xMadeAll x.R x.l (by have := x.l_le; omega) (.slice AR x.R.length cR) w.heap.size W ⟨h.R.1.keep hW, h.R.2⟩ hW.size)
  have HD := Lib.hid hd3
  clear hd3 hdd
  have hmin : (if (20 : Int) < (x.R.length : Int) then (20 : Int) else (x.R.length : Int)) = ((x.l : Nat) : Int) := by unfold Sc32.l; split <;> omega
  clear h
  unfold sc32
  go_enter Tryz.func26, Tryz.ntmps26
  go_upto_region 1 with (fail)
  refine wp_stk3 fun W hB hz b1 b2 b3 => ?_
  have hWs := hz.out
  clear hz
  have K0 := eight_blk b1
  have KD := eight_blk (b1.keep (below_Dr W))
  have hl1 := b1.lt
  go_region_held3 (fun X => X.cell? ⟨w.heap.size, 0, none⟩ = some (.int .u64 x.V.1) ∧ X.cell? ⟨w.heap.size, 1, none⟩ = some (.int .u64 x.V.2) ∧ X.cell? ⟨w.heap.size, 2, none⟩ = some (.slice AC x.C.length cC) ∧ X.cell? ⟨w.heap.size, 3, none⟩ = some (.slice AR x.R.length cR) ∧ X.cell? ⟨w.heap.size, 4, none⟩ = some (.int .u64 x.F.1) ∧ X.cell? ⟨w.heap.size, 5, none⟩ = some (.int .u64 x.F.2) ∧ X.cell? ⟨w.heap.size, 6, none⟩ = some (.int .u8 (x.N : Int)) ∧ X.cell? ⟨w.heap.size, 7, none⟩ = some (.int .u8 (x.D : Int)))
    (first | with_reducible exact KD | with_reducible exact K4 | with_reducible exact K7 | with_reducible exact K11 | with_reducible exact K13 | with_reducible exact K14 | with_reducible exact K15)
    (first
      | (go_at_call 29
         have hM := xMade x.V.1 x.V.2 v1.1 v1.2 v2.1 v2.2 W.drew
         unfold ev at hM
         with_reducible refine Calls.mono hM ?_
         rintro e w4 ⟨he, hb4⟩
         subst he
         have B4 : Below W.heap.size W w4 := (below_Dr W).trans hb4
         have K4 := eight_blk (b1.keep B4))
      | (go_at_call 51
         with_reducible refine Calls.mono (H1.out w4 (hB.trans (B4.mono hB.size))) ?_
         rintro e w7 ⟨v7, rfl, hx7, hb7⟩
         obtain ⟨A7, c7, rfl⟩ := Rd.len hx7
         have B7 : Below W.heap.size W w7 := B4.trans (hb7.mono B4.size)
         have K7 := eight_blk (b1.keep B7))
      | (go_at_call 51
         with_reducible refine Calls.mono (H2.out w7 (hB.trans (B7.mono hB.size))) ?_
         rintro e w11 ⟨v11, rfl, hx11, hb11⟩
         obtain ⟨A11, c11, rfl⟩ := Rd.len hx11
         have B11 : Below W.heap.size W w11 := B7.trans (hb11.mono B7.size)
         have K11 := eight_blk (b1.keep B11))
      | (go_at_call 29
         have hM := xMade x.F.1 x.F.2 f1.1 f1.2 f2.1 f2.2 w11
         unfold ev at hM
         with_reducible refine Calls.mono hM ?_
         rintro e w13 ⟨he, hb13⟩
         subst he
         have B13 : Below W.heap.size W w13 := B11.trans (hb13.mono B11.size)
         have b1z := b1.keep B13
         have K13 := eight_blk b1z
         have b1y := (b1z.far (p := ⟨w.heap.size + 1, 0, none⟩) (show w.heap.size ≠ w.heap.size + 1 by omega) (.int .u64 (fv (em x.V.1 x.V.2).a))).far (p := ⟨w.heap.size + 1, 1, none⟩) (show w.heap.size ≠ w.heap.size + 1 by omega) (.int .u64 (fv (em x.V.1 x.V.2).b))
         have K14 := eight_blk b1y
         have K15 := eight_blk (((((b1y.far (p := ⟨w.heap.size + 1 + 1, 0, none⟩) (show w.heap.size ≠ w.heap.size + 1 + 1 by omega) (.slice A7 (madeAll x.C x.n).length c7)).far (p := ⟨w.heap.size + 1 + 1, 1, none⟩) (show w.heap.size ≠ w.heap.size + 1 + 1 by omega) (.int .i64 (1 + (dd : Int)))).far (p := ⟨w.heap.size + 1 + 1, 2, none⟩) (show w.heap.size ≠ w.heap.size + 1 + 1 by omega) (.slice A11 (madeAll x.R x.l).length c11)).far (p := ⟨w.heap.size + 1 + 1, 3, none⟩) (show w.heap.size ≠ w.heap.size + 1 + 1 by omega) (.int .u64 (fv (em x.F.1 x.F.2).a))).far (p := ⟨w.heap.size + 1 + 1, 4, none⟩) (show w.heap.size ≠ w.heap.size + 1 + 1 by omega) (.int .u64 (fv (em x.F.1 x.F.2).b)))
         have b2z := b2.keep B13
         have b3z := b3.keep B13
         have e2 := b2z.cell
         have e2f := b2z.frozen
         have e3 := b3z.cell
         have e3f := b3z.frozen))
  all_goals
    have hBz := hB.trans (B13.mono hB.size)
    have s7 : w7.heap.size ≤ w13.heap.size := (hb11.trans (hb13.mono hb11.size)).size
    have s11 : w11.heap.size ≤ w13.heap.size := hb13.size
    have E7 : ExtS w4.heap.size w7.heap.size w13 (.slice A7 (madeAll x.C x.n).length c7) (madeAll x.C x.n) := Rd.keep hx7 (hb11.trans (hb13.mono hb11.size))
    have E11 : ExtS w7.heap.size w11.heap.size w13 (.slice A11 (madeAll x.R x.l).length c11) (madeAll x.R x.l) := Rd.keep hx11 hb13
    have s4 := B4.size
    have s47 := hb7.size
    refine set25 (N := w.heap.size) (M := fun X => Exit.then _ _ Exit.normal _ X) b2z b3z (by omega) (by omega) (by omega) fun X hK hBX c2 c3 hsX => ?_
    have HE7 := Lib.hid (Rd.wide (Keeps.rd E7 hK fun g h1 h2 => ⟨by omega, by omega⟩) (show w.heap.size ≤ w4.heap.size by omega) (show w7.heap.size ≤ X.heap.size by omega))
    have HE11 := Lib.hid (Rd.wide (Keeps.rd E11 hK fun g h1 h2 => ⟨by omega, by omega⟩) (show w.heap.size ≤ w7.heap.size by omega) (show w11.heap.size ≤ X.heap.size by omega))
    have HBX := Lib.hid (hBz.trans hBX)
    have e2' := c2.cell
    have e3' := c3.cell
    clear K0 KD K4 K7 K11 K13 K14 K15 e2 e2f e3 e3f hx7 hx11 E7 E11 H1 H2 b1y b1z b2z b3z hwN hwD hwD2 hmin hmN hmD
    go_wp2_with fail
    have hl1 : (madeAll x.C x.n).length = x.n := madeAll_length _ _
    have hl2 : (madeAll x.R x.l).length = x.l := madeAll_length _ _
    rw [hl1] at HE7 e3'
    rw [hl2] at HE11 e3'
    refine bodyPost_ret (v := .tuple #[.agg #[.int .u64 (fv (em x.V.1 x.V.2).a), .int .u64 (fv (em x.V.1 x.V.2).b)], .agg #[.slice A7 x.n c7, .int .i64 (1 + (dd : Int)), .slice A11 x.l c11, .int .u64 (fv (em x.F.1 x.F.2).a), .int .u64 (fv (em x.F.1 x.F.2).b)]]) (by simp [results, Tryz.results26, go_sem, e2', e3']) rfl ?_
    exact ⟨A7, c7, A11, c11, by rw [HD.out]; rfl, by unfold ExtS; rw [x.co_len]; exact HE7.out, by unfold ExtS; rw [x.rn_len]; exact HE11.out, HBX.out⟩
end Go.Proofs.YtnddfeidggcplaaGreat
