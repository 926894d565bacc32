/-
  A row of claims that grows by append, each claim's point in blocks of its own.
  The claims that the reference makes.
  problem of the law of package batch, by contract.
  An input of the laws of chapter 21 as the reading of the arguments gives it.
  SHA-256 in mathematics, and what the machine's operations on 32 bits say in it.
  The padded message in two parts, as the program yields it; transcripts in mathematics.
  Arrays of words and of bytes that are filled from the front; bytes in memory.
  A variable of a great type that begins with its zero value.
-/
import Derived.Test.YtkgglhakimkkhaaGreatDoorMr3
import Derived.Test.YtkgglhakimkkhaaGreatDoorRgM
import Derived.Test.YtkgglhakimkkhaaGreatDoorWt2
import Derived.Test.YtkgglhakimkkhaaGreatDoorProg
import Derived.Laws.BitsAllLaws
import Derived.Test.YtkgglhakimkkhaaGreatDoorEn
import Derived.Deep.MidRow
namespace Go.Proofs.YtkgglhakimkkhaaGreatDoor
open Go.RowKit

def RowC (base : Nat) (w : World) (u : Value) (cs : List ClW) : Prop := w.ownsRow base 42 3 u cs.length (cs.flatMap clc) ∧ ∀ x ∈ cs, ∃ lo hi, base ≤ lo ∧ hi ≤ w.heap.size ∧ Outside lo hi u ∧ ExtS lo hi w (ptV x) x.1.p
theorem RowC.keep {base : Nat} {w X : World} {u : Value} {cs : List ClW} (h : RowC base w u cs) (hb : Below w.heap.size w X) : RowC base X u cs :=
  ⟨own_below h.1 (Nat.le_refl _) hb, fun x hx => by
    obtain ⟨lo, hi, q1, q2, q3, q4⟩ := h.2 x hx
    exact ⟨lo, hi, q1, Nat.le_trans q2 hb.size, q3, Rd.keep q4 hb⟩⟩
theorem RowC.block {base g : Nat} {w : World} {u : Value} {cs : List ClW} (h : RowC base w u cs) (hg : u.ownBlock = some g) : base ≤ g ∧ g < w.heap.size := by
  obtain ⟨hu, h1⟩ := h.1
  rcases h1 with ⟨rfl, _⟩ | ⟨g', cap, q, rfl, q2, q3, _⟩
  · simp [Value.ownBlock] at hg
  · simp [Value.ownBlock] at hg; subst hg; exact ⟨q2, Blk.lt q3⟩
theorem RowC.out {base lo hi : Nat} {w : World} {u : Value} {cs : List ClW} (h : RowC base w u cs) (hlo : w.heap.size ≤ lo) : Outside lo hi u := fun b hb => .inl (Nat.lt_of_lt_of_le (h.block hb).2 hlo)
theorem RowC.clm {base : Nat} {w : World} {u : Value} {cs : List ClW} (h : RowC base w u cs) (hl : cs.length ≤ 1000000) : ClmU base w.heap.size w u cs :=
  ⟨Rd.of_own h.1 (by omega) (Nat.le_refl _), fun x hx => by
    obtain ⟨lo, hi, q1, q2, q3, q4⟩ := h.2 x hx
    exact Rd.wide q4 q1 q2⟩
theorem wpList_appC {ops : Array Oper} {rest : List Oper} {o : Oper} {a : Act} {Q : Exit → Act → World → Prop} {X : World} {base n lo hi : Nat} {t : TypeId} {cs : List ClW} {u : Value} {y : ClW} (hgd : o.guard = none) (s p : Operand)
    (ho : o.op = .call { callee := .builtin .append, args := #[s, p], argTypes := #[t, t] }) (ht : Tryz.prog.underlying t = some (.slice 42)) (hs : a.eval s = u) (hx : a.eval p = .slice (some ⟨n, 0, none⟩) 1 1) (hrow : RowC base X u cs) (hsrc : Blk X n 42 (clc y).toArray)
    (hE : ExtS lo hi X (ptV y) y.1.p) (hlo : base ≤ lo) (hhi : hi ≤ X.heap.size) (hout : Outside lo hi u) (hk : cs.length ≤ 100000) (hbase : base ≤ X.heap.size)
    (h : ∀ v' w', RowC base w' v' (cs ++ [y]) → Below base X w' → X.grownBy w' u.ownBlock → (v'.ownBlock = u.ownBlock ∨ v'.ownBlock = some X.heap.size) → wpList Tryz.prog ops Q rest (a.put o.dst v') w') : wpList Tryz.prog ops Q (o :: rest) a X := by
  obtain ⟨i0, hi0, hz0, hz1, hz2⟩ := info_parts clm_info
  obtain ⟨h1, h3⟩ := hrow
  refine wpList_app3 hgd s p ho ht hi0 hz0 hz1 hz2 rfl (by decide) (cl := clc y) rfl (clc_one y) hs hx h1 hsrc (by unfold maxLen; omega) (by omega) hbase fun v' w' hown hgrow hB hob => ?_
  have hkept : ∀ lo hi, hi ≤ X.heap.size → Outside lo hi u → Kept lo hi X w' := fun lo hi hh ho => Kept.of_grown hgrow ho hh
  refine h v' w' ⟨by simpa [List.flatMap_append] using hown, fun x hx' => ?_⟩ hB hgrow hob
  rcases List.mem_append.1 hx' with hx' | hx'
  · obtain ⟨lo', hi', q1, q2, q3, q4⟩ := h3 x hx'
    exact ⟨lo', hi', q1, Nat.le_trans q2 hB.size, q3.next hob q2, rd_kept q4 (hkept _ _ q2 q3) hB.size⟩
  · rw [List.mem_singleton.1 hx']
    exact ⟨lo, hi, hlo, Nat.le_trans hhi hB.size, hout.next hob hhi, rd_kept hE (hkept _ _ hhi hout) hB.size⟩
end Go.Proofs.YtkgglhakimkkhaaGreatDoor
namespace Go.Proofs.YtkgglhakimkkhaaGreatDoor
open Go.RowKit

structure RClm where
  p : List Raw
  v : Raw
abbrev RClW := RClm × (Option Addr × Nat)
def ptR (x : RClW) : Value := .slice x.2.1 x.1.p.length x.2.2
def rclc (x : RClW) : List Value := [ptR x, .int .u64 x.1.v.1, .int .u64 x.1.v.2]
theorem rclc_len (x : RClW) : (rclc x).length = 3 := rfl
def RClU (lo hi : Nat) (w : World) (v : Value) (cs : List RClW) : Prop := Rd lo hi 3 w v cs.length (cs.flatMap rclc) ∧ ∀ x ∈ cs, RawS lo hi w (ptR x) x.1.p ∧ Word x.1.v.1 ∧ Word x.1.v.2
theorem RClU.keep {lo hi : Nat} {w w' : World} {v : Value} {cs : List RClW} (h : RClU lo hi w v cs) (hb : Below w.heap.size w w') : RClU lo hi w' v cs :=
  ⟨h.1.keep hb, fun x hx => ⟨⟨(h.2 x hx).1.1.keep hb, (h.2 x hx).1.2⟩, (h.2 x hx).2⟩⟩
theorem RClU.cells {lo hi : Nat} {w : World} {v : Value} {cs : List RClW} (h : RClU lo hi w v cs) (h0 : 0 < cs.length) : ∃ g off cap, v = .slice (some ⟨g, off, none⟩) cs.length cap ∧ cs.length ≤ cap ∧ lo ≤ g ∧ g < hi ∧ g < w.heap.size ∧
    ∀ k x, cs[k]? = some x → w.cell? ⟨g, off + k * 3, none⟩ = some (ptR x) ∧ w.cell? ⟨g, off + k * 3 + 1, none⟩ = some (.int .u64 x.1.v.1) ∧ w.cell? ⟨g, off + k * 3 + 2, none⟩ = some (.int .u64 x.1.v.2) := by
  obtain ⟨g, off, cap, q1, q2, q3, q4, q5, q6⟩ := Rd.form h.1 h0
  refine ⟨g, off, cap, q1, q2, q3, q4, q5, fun k x hx => ?_⟩
  have e : ∀ j u, (rclc x)[j]? = some u → w.cell? ⟨g, off + k * 3 + j, none⟩ = some u := fun j u hu => by
    have := q6 (k * 3 + j) _ (flat_get rclc_len _ k j _ _ hx hu)
    rwa [← Nat.add_assoc] at this
  exact ⟨e 0 _ rfl, e 1 _ rfl, e 2 _ rfl⟩
def mdB (cs : List RClW) (n most : Nat) : List Clm := (cs.take most).map fun x => ⟨madeAll x.1.p n, em x.1.v.1 x.1.v.2⟩
theorem mdB_snoc (cs : List RClW) (n j : Nat) (x : RClW) (h : cs[j]? = some x) : mdB cs n (j + 1) = mdB cs n j ++ [⟨madeAll x.1.p n, em x.1.v.1 x.1.v.2⟩] := by
  unfold mdB; rw [List.take_add_one, h, List.map_append]; rfl
def LitC (b : Nat) (y : Clm) (n m : Nat) (v : Value) (w : World) : Prop := v = .slice (some ⟨n, 0, none⟩) 1 1 ∧ n < m ∧ ∃ (u : ClW) (lo hi : Nat), u.1 = y ∧ Blk w n 42 (clc u).toArray ∧ b ≤ lo ∧ hi ≤ m ∧ ExtS lo hi w (ptV u) u.1.p
theorem fit_litC {b : Nat} {y : Clm} : Fit (LitC b y) (LitF 1) := ⟨fun _ _ _ _ _ ⟨h1, h2, u, lo, hi, h3, h4, h5, h6, h7⟩ hb => ⟨h1, h2, u, lo, hi, h3, h4.below hb h2, h5, h6, Rd.below h7 hb h6⟩, fun _ => ⟨_, rfl⟩, fun _ _ _ _ h => h.1⟩
theorem clm_end {w wr : World} {us : List ClW} {v : Value} {j : Nat} {ms : List Clm} (h : RowC w.heap.size wr v us) (hB : Below w.heap.size w wr) (hl : us.length = j) (hj : j ≤ 1000) (hm : us.map (·.1) = ms) :
    ∃ v' us', (Ending.returned v) = .returned v' ∧ us'.map (·.1) = ms ∧ ClmU w.heap.size wr.heap.size wr v' us' ∧ Below w.heap.size w wr := ⟨v, us, rfl, hm, h.clm (by omega), hB⟩
set_option maxRecDepth 100000 in
set_option maxHeartbeats 2000000 in
theorem rMade21 (cs : List RClW) (n most : Nat) (hn : n ≤ 60) (hm : most ≤ 1000) (vl : Value) (lo hi : Nat) (w : World) (hhi : hi ≤ w.heap.size) (hcs : RClU lo hi w vl cs) :
    Calls Tryz.prog 27 #[vl, .int .i64 (n : Int), .int .i64 (most : Int)] w fun e w' => ∃ v us, e = .returned v ∧ us.map (·.1) = mdB cs n most ∧ ClmU w.heap.size w'.heap.size w' v us ∧ Below w.heap.size w w' := by
  obtain ⟨A, cap, rfl⟩ := hcs.1.len
  have hlen := hcs.1.2.1
  have HC := Lib.hid hcs
  have HE := Lib.hid (fun W (hW : Below w.heap.size w W) x (hx : x ∈ cs) => xMadeAll x.1.p n (by omega) (ptR x) w.heap.size W ⟨((hcs.2 x hx).1.1.keep hW).wide (Nat.zero_le _) hhi, (hcs.2 x hx).1.2⟩ hW.size)
  obtain ⟨L, hL⟩ : ∃ L, L = cs.length := ⟨_, rfl⟩
  rw [← hL] at HC hlen ⊢
  have HLn := Lib.hid hL
  clear hcs hL
  obtain ⟨i0, hi0, hz0, hz1, hz2⟩ := info_parts clm_info
  go_enter Tryz.func27, Tryz.ntmps27
  go_wp2
  go_loopw [7, 8] (fun v i wr => ∃ j : Nat, j ≤ L ∧ j ≤ most ∧ i = .int .i64 j ∧ (∃ us, us.length = j ∧ us.map (·.1) = mdB cs n j ∧ RowC w.heap.size wr v us) ∧ Below w.heap.size w wr) (fun _ i _ => L - (intOf i).toNat)
  case atStart => exact ⟨0, Nat.zero_le _, Nat.zero_le _, rfl, ⟨[], rfl, by simp [mdB], ⟨by simp, .inr ⟨w.heap.size, 0, #[], rfl, Nat.le_refl _, World.alloc_heap_new w _, Nat.le_refl _, Nat.zero_le _, rfl, by simp⟩⟩, fun x hx => by simp at hx⟩, (Below.refl _ _).alloc (Nat.le_refl _) _⟩
  case round =>
    obtain ⟨j, hj, hjm, rfl, ⟨us, hul, humd, hrow⟩, hB⟩ := hrel
    by_cases hlt : j < L
    · by_cases hltm : j < most
      · obtain ⟨gC, oC, cC, hv, -, -, -, lC, qC⟩ := HC.out.cells (by rw [← HLn.out]; omega)
        rw [← HLn.out] at hv
        cases hv
        obtain ⟨x, hx⟩ : ∃ x, cs[j]? = some x := ⟨_, List.getElem?_eq_getElem (by rw [← HLn.out]; exact hlt)⟩
        obtain ⟨d1, d2, d3⟩ := qC j x hx
        have hmem := List.mem_of_getElem? hx
        obtain ⟨-, o1, o2⟩ := HC.out.2 x hmem
        have HX := Lib.hid (fun W1 (hW1 : Below wr.heap.size wr W1) => HE.out W1 (hB.trans (hW1.mono hB.size)) x hmem)
        have HP := Lib.hid (mdB_snoc cs n j x hx)
        have hlt2 := Nat.lt_of_lt_of_le lC hB.size
        have k1 := gw_cell (W := wr) hlt2 ((hB.cell (p := ⟨gC, oC + j * 3, none⟩) lC).trans d1)
        have k2 := gw_cell (W := wr) hlt2 ((hB.cell (p := ⟨gC, oC + j * 3 + 1, none⟩) lC).trans d2)
        have k3 := gw_cell (W := wr) hlt2 ((hB.cell (p := ⟨gC, oC + j * 3 + 2, none⟩) lC).trans d3)
        obtain ⟨⟨xp, xa, xb⟩, Ax, cx⟩ := x
        simp only [ptR] at HX HP k1 k2 k3 o1 o2
        have HU := Lib.hid hul
        have HM := Lib.hid humd
        have HR := Lib.hid hrow
        clear qC hx d1 d2 d3 hmem hul humd hrow
        go_upto_region 5 with (fail)
        refine wp_region_rg 16 [(7, Spec.rel (ExtA (madeAll xp n)) (SlF (madeAll xp n).length)), (13, Spec.val (.agg #[.int .u64 (fv (em xa xb).a), .int .u64 (fv (em xa xb).b)])), (15, Spec.rel (LitC wr.heap.size ⟨madeAll xp n, em xa xb⟩) (LitF 1))] (by kernel_rfl) (by kernel_rfl) (by kernel_rfl) ⟨fit_ext, fit_litC, trivial⟩ ?_
        iterate 7 (refine rg_det rfl rfl rfl (fun K hK => ?_); go_big_quiet_op; refine hK _ ?_; clear hK K)
        refine rg_rel rfl rfl (fun W1 hW1 hF => step_callr en_attestor_attestorref02_MadeAll (HX.out W1 (grw_below hW1)) rfl rfl) ?_
        intro n7 m7 v7 hn7 hm7 hd7 hf7 a' ha
        simp only [Act.put, List.setIfInBounds_toArray, List.set_cons_succ, List.set_cons_zero] at ha
        subst ha
        obtain ⟨A7, cap7, rfl⟩ := hf7
        iterate 5 (refine rg_det rfl rfl rfl (fun K hK => ?_); go_big_quiet_op; refine hK _ ?_; clear hK K)
        refine rg_val rfl rfl (fun W1 hW1 hF => step_callv en_attestor_attestorref02_Made (xMade xa xb o1.1 o1.2 o2.1 o2.2 W1) rfl rfl) ?_
        intro a' ha
        simp only [Act.put, List.setIfInBounds_toArray, List.set_cons_succ, List.set_cons_zero] at ha
        subst ha
        refine rg_det rfl rfl rfl (fun K hK => ?_)
        go_big_quiet_op
        refine hK _ ?_; clear hK K
        refine rg_rel rfl rfl (fun W1 hW1 hF => stepAt_mono (fun v w' h => ⟨⟨h.1.1, h.1.2.1, ((⟨madeAll xp n, em xa xb⟩ : Clm), (_, _)), _, _, rfl, h.1.2.2, Nat.le_trans (Nat.le_refl _) hn7, Nat.le_trans (pick_last hF (by kernel_rfl)).1 h.2.size, Rd.keep (pick_last hF (by kernel_rfl)).2 h.2⟩, h.2⟩) (step_lit1 Tryz.underlying23 hi0 hz0 hz1 (by decide) (by decide) rfl rfl rfl)) ?_
        intro n15 m15 v15 hn15 hm15 hd15 hf15 a' ha
        simp only [Act.put, List.setIfInBounds_toArray, List.set_cons_succ, List.set_cons_zero] at ha
        subst ha
        obtain rfl := hf15
        refine rg_nil (fun w' hw' hF => ?_)
        obtain ⟨z, rfl⟩ := hw'
        simp only [List.drop_succ_cons, List.drop_zero]
        obtain ⟨hm15, -, hl15, u, l1, l2, hu, bx, hlo, hhi2, hE⟩ := end_last hF
        have hrz := HR.out.keep z.h
        have hzs := z.h.size
        have hBs := hB.size
        clear hF k1 k2 k3 HX hd7 hd15
        go_wp2_with (at_builtin; refine wpList_appC (y := u) (lo := l1) (hi := l2) (base := w.heap.size) (cs := us) rfl _ _ rfl Tryz.underlying23 rfl rfl ?hrow ?hsrc ?hE ?hlo ?hhi ?hout ?hk ?hbase ?_)
        case hrow => exact hrz
        case hsrc => exact bx
        case hE => exact hE
        case hlo => omega
        case hhi => omega
        case hout => exact HR.out.out hlo
        case hk => rw [HU.out]; omega
        case hbase => omega
        intro u' w3 hrow3 hB3 hg3 hob3
        go_wp2
        exact ⟨⟨j + 1, by omega, by omega, by go_num, ⟨us ++ [u], by rw [List.length_append, HU.out]; rfl, by rw [List.map_append, HM.out, HP.out, ← hu]; rfl, hrow3⟩, (hB.trans (z.h.mono hB.size)).trans hB3⟩, by simp [intOf]; omega⟩
      · go_wp2
        go_ret
        obtain rfl : j = most := by omega
        exact clm_end hrow hB hul (by omega) humd
    · by_cases hltm : j < most
      all_goals go_wp2
      all_goals
        go_ret
        obtain rfl : j = L := by omega
        refine clm_end hrow hB hul (by omega) (humd.trans ?_)
        unfold mdB
        rw [List.take_of_length_le (by rw [← HLn.out]; exact Nat.le_refl _), List.take_of_length_le (by rw [← HLn.out]; omega)]
end Go.Proofs.YtkgglhakimkkhaaGreatDoor
namespace Go.Proofs.YtkgglhakimkkhaaGreatDoor
open Go.RowKit

structure Q21 where
  T : List Raw
  L : List RClW
  R : Raw
  C : List Raw
  N : Nat
structure Q21S (hi : Nat) (w : World) (q : Q21) (vT vL vC : Value) : Prop where
  T : RawS 0 hi w vT q.T
  L : RClU 0 hi w vL q.L
  C : RawS 0 hi w vC q.C
  r1 : Word q.R.1
  r2 : Word q.R.2
  n : q.N < 256
def qv21 (vT vL vC : Value) (q : Q21) : Value := .agg #[vT, vL, .int .u64 q.R.1, .int .u64 q.R.2, vC, .int .u8 (q.N : Int)]
def Q21.k (q : Q21) : Nat := q.N % 5
def Q21.t (q : Q21) : List E := mdT q.T (2 ^ q.k)
def Q21.r (q : Q21) : E := em q.R.1 q.R.2
def Q21.c (q : Q21) : List E := madeAll q.C q.k
def Q21.l (q : Q21) : List Clm := mdB q.L q.k 5
def MdA (ms : List Clm) (lo hi : Nat) (v : Value) (w : World) : Prop := ∃ us : List ClW, us.map (·.1) = ms ∧ ClmU lo hi w v us
theorem fit_mdA {ms : List Clm} : Fit (MdA ms) (SlF ms.length) := ⟨fun _ _ _ _ _ ⟨us, h1, h2⟩ hb => ⟨us, h1, h2.1.below hb (Nat.le_refl _), fun x hx => Rd.below (h2.2 x hx) hb (Nat.le_refl _)⟩, fun _ => ⟨.slice none ms.length 0, none, 0, rfl⟩, fun _ _ _ _ ⟨us, h1, h2⟩ => by rw [← h1, List.length_map]; exact h2.len⟩
theorem en_attestor_attestorref21_Made : ∀ args w, (callFunc 27 args).run Tryz.prog w = .ok (.enter 27 args) w := enters_of Tryz.func27 (by kernel_rfl) rfl
set_option maxRecDepth 100000 in
set_option maxHeartbeats 2000000 in
theorem gProblem (q : Q21) (vT vL vC : Value) (w : World) (h : Q21S w.heap.size w q vT vL vC) :
    Calls Tryz.prog 5 #[qv21 vT vL vC q] w fun e w' => ∃ v1 v2 A cap us, e = .returned (.tuple #[v1, v2, .agg #[.int .u64 (fv q.r.a), .int .u64 (fv q.r.b), .slice A q.c.length cap]]) ∧ ExtS w.heap.size w'.heap.size w' v1 q.t ∧ ClmU w.heap.size w'.heap.size w' v2 us ∧ us.map (·.1) = q.l ∧ ExtS w.heap.size w'.heap.size w' (.slice A q.c.length cap) q.c ∧ Below w.heap.size w w' := by
  obtain ⟨AT, cT, rfl⟩ := h.T.1.len
  obtain ⟨AL, cL, rfl⟩ := h.L.1.len
  obtain ⟨AC, cC, rfl⟩ := h.C.1.len
  have hk : q.k ≤ 4 := by have := Nat.mod_lt q.N (show 0 < 5 by decide); unfold Q21.k; omega
  have hmod : Int.tmod (q.N : Int) 5 = (q.k : Int) := rfl
  have hn := h.n
  have H1 := Lib.hid (fun W (hW : Below w.heap.size w W) => rMade q.T q.k (by omega) (.slice AT q.T.length cT) w.heap.size W ⟨h.T.1.keep hW, h.T.2⟩ hW.size)
  have H2 := Lib.hid (fun W (hW : Below w.heap.size w W) => rMade21 q.L q.k 5 (by omega) (by decide) (.slice AL q.L.length cL) 0 w.heap.size W hW.size (h.L.keep hW) |>.mono fun e w' ⟨v, us, h1, h2, h3, h4⟩ => (⟨v, h1, ⟨us, h2, h3⟩, h4⟩ : RetR (MdA (mdB q.L q.k 5)) W e w'))
  have H3 := Lib.hid (fun W (hW : Below w.heap.size w W) => xMadeAll q.C q.k (by omega) (.slice AC q.C.length cC) w.heap.size W ⟨h.C.1.keep hW, h.C.2⟩ hW.size)
  have o1 := h.r1
  have o2 := h.r2
  clear h
  unfold qv21
  go_enter Tryz.func5, Tryz.ntmps5
  go_upto_region 1 with (fail)
  refine wp_stk2 fun W hB hz b1 b2 => ?_
  have e1 := b1.cell
  have hWs : W.heap.size = w.heap.size + 1 + 1 := hz.out
  clear hz
  go_upto_region 2 with (fail)
  have y1 := gw_blk b1
  clear e1
  refine wp_region_rg 20 [(3, Spec.rel (ExtA (mdT q.T (2 ^ q.k))) (SlF (mdT q.T (2 ^ q.k)).length)), (7, Spec.rel (MdA (mdB q.L q.k 5)) (SlF (mdB q.L q.k 5).length)), (11, Spec.val (.agg #[.int .u64 (fv (em q.R.1 q.R.2).a), .int .u64 (fv (em q.R.1 q.R.2).b)])), (16, Spec.rel (ExtA (madeAll q.C q.k)) (SlF (madeAll q.C q.k).length))] (by kernel_rfl) (by kernel_rfl) (by kernel_rfl) ⟨fit_ext, fit_mdA, fit_ext, trivial⟩ ?_
  iterate 3 (refine rg_det rfl rfl rfl (fun K hK => ?_); go_big_quiet_op; refine hK _ ?_; clear hK K)
  refine rg_rel rfl rfl (fun W1 hW1 hF => step_callr en_attestor_attestorref05_Made (H1.out W1 (hB.trans ((grw_below hW1).mono hB.size))) rfl rfl) ?_
  intro n3 m3 v3 hn3 hm3 hd3 hf3 a' ha
  simp only [Act.put, List.setIfInBounds_toArray, List.set_cons_succ, List.set_cons_zero] at ha
  subst ha
  obtain ⟨A3, cap3, rfl⟩ := hf3
  iterate 3 (refine rg_det rfl rfl rfl (fun K hK => ?_); go_big_quiet_op; refine hK _ ?_; clear hK K)
  refine rg_rel rfl rfl (fun W1 hW1 hF => step_callr en_attestor_attestorref21_Made (H2.out W1 (hB.trans ((grw_below hW1).mono hB.size))) rfl rfl) ?_
  intro n7 m7 v7 hn7 hm7 hd7 hf7 a' ha
  simp only [Act.put, List.setIfInBounds_toArray, List.set_cons_succ, List.set_cons_zero] at ha
  subst ha
  obtain ⟨A7, cap7, rfl⟩ := hf7
  iterate 3 (refine rg_det rfl rfl rfl (fun K hK => ?_); go_big_quiet_op; refine hK _ ?_; clear hK K)
  refine rg_val rfl rfl (fun W1 hW1 hF => step_callv en_attestor_attestorref02_Made (xMade q.R.1 q.R.2 o1.1 o1.2 o2.1 o2.2 W1) rfl rfl) ?_
  intro a' ha
  simp only [Act.put, List.setIfInBounds_toArray, List.set_cons_succ, List.set_cons_zero] at ha
  subst ha
  iterate 4 (refine rg_det rfl rfl rfl (fun K hK => ?_); go_big_quiet_op; refine hK _ ?_; clear hK K)
  refine rg_rel rfl rfl (fun W1 hW1 hF => step_callr en_attestor_attestorref02_MadeAll (H3.out W1 (hB.trans ((grw_below hW1).mono hB.size))) rfl rfl) ?_
  intro n16 m16 v16 hn16 hm16 hd16 hf16 a' ha
  simp only [Act.put, List.setIfInBounds_toArray, List.set_cons_succ, List.set_cons_zero] at ha
  subst ha
  obtain ⟨A16, cap16, rfl⟩ := hf16
  iterate 3 (refine rg_det rfl rfl rfl (fun K hK => ?_); go_big_quiet_op; refine hK _ ?_; clear hK K)
  refine rg_nil (fun w' hw' hF => ?_)
  obtain ⟨z, rfl⟩ := hw'
  simp only [List.drop_succ_cons, List.drop_zero]
  obtain ⟨h3m, E3⟩ := end_last (end_init (end_init hF))
  obtain ⟨h7m, us, hus, E7⟩ := end_last (end_init hF)
  obtain ⟨h16m, E16⟩ := end_last hF
  have E3 : ExtS n3 m3 z.w (.slice A3 (mdT q.T (2 ^ q.k)).length cap3) (mdT q.T (2 ^ q.k)) := E3
  have E16 : ExtS n16 m16 z.w (.slice A16 (madeAll q.C q.k).length cap16) (madeAll q.C q.k) := E16
  have b2z := b2.gw z
  have e1 := b2z.cell
  have e2 := b2z.frozen
  have hzs := z.h.size
  have hBz := hB.trans (z.h.mono hB.size)
  have HE := Lib.hid (And.intro E3 (And.intro E7 E16))
  have HU := Lib.hid hus
  have hw1 : w.heap.size + 1 < n3 ∧ w.heap.size + 1 < n7 ∧ w.heap.size + 1 < n16 := by omega
  clear hF y1 hd3 hd7 hd16 E3 E7 E16 hus
  go_wp2_with fail
  obtain ⟨x, hx⟩ : ∃ x, x = em q.R.1 q.R.2 := ⟨_, rfl⟩
  have HQ : q.r = x := hx.symm
  rw [← hx]
  obtain ⟨Z, hZ⟩ : ∃ Z, (((z.w.setCell ⟨w.heap.size + 1, 0, none⟩ (.int .u64 (fv x.a))).setCell ⟨w.heap.size + 1, 1, none⟩ (.int .u64 (fv x.b))).setCell ⟨w.heap.size + 1, 2, none⟩ (.slice A16 (madeAll q.C q.k).length cap16)) = Z := ⟨_, rfl⟩
  rw [hZ]
  have hp : Put z.w Z (w.heap.size + 1) := by rw [← hZ]; exact ((Put.set _ _ _ _).trans (Put.set _ _ _ _)).trans (Put.set _ _ _ _)
  have bZ : Blk Z (w.heap.size + 1) 28 #[.int .u64 (fv x.a), .int .u64 (fv x.b), .slice A16 (madeAll q.C q.k).length cap16] := by rw [← hZ]; exact ((b2z.set_ 0 _).set_ 1 _).set_ 2 _
  have f1 := bZ.cell
  have hs := hp.size
  have ko : ∀ {lo hi size n : Nat} {v : Value} {cs : List Value}, Rd lo hi size z.w v n cs → w.heap.size + 1 < lo → hi ≤ z.w.heap.size → Rd w.heap.size Z.heap.size size Z v n cs := fun h h1 h2 => (h.other (by omega) fun g h3 h4 _ => hp.other g (by omega)).wide (by omega) (by omega)
  clear hZ hx
  refine bodyPost_ret (v := .tuple #[.slice A3 (mdT q.T (2 ^ q.k)).length cap3, .slice A7 (mdB q.L q.k 5).length cap7, .agg #[.int .u64 (fv x.a), .int .u64 (fv x.b), .slice A16 (madeAll q.C q.k).length cap16]]) (by simp [results, Tryz.results5, go_sem, f1]) rfl ?_
  rw [← HQ]
  exact ⟨_, _, A16, cap16, us, rfl, ko HE.out.1 hw1.1 h3m, ⟨ko HE.out.2.1.1 hw1.2.1 h7m, fun y hy => ko (HE.out.2.1.2 y hy) hw1.2.1 h7m⟩, HU.out, ko HE.out.2.2 hw1.2.2 h16m, below_put hBz hp (by omega)⟩
end Go.Proofs.YtkgglhakimkkhaaGreatDoor
namespace Go.Proofs.YtkgglhakimkkhaaGreatDoor
open Go.ChangeShapes Go.WideShapes Go.RowKit

set_option maxRecDepth 100000 in
theorem okd_claim {W : World} {n : Nat} {cs : List Value} (h : Okd Tryz.prog W n 42 cs) : ∃ x : RClW, (RawS 0 W.heap.size W (ptR x) x.1.p ∧ Word x.1.v.1 ∧ Word x.1.v.2) ∧ cs = rclc x := by
  obtain ⟨h1, m, h2⟩ := okd_struct Tryz.underlying42 h
  have c1 : Tryz.prog.cellsOf 42 = 3 := by kernel_rfl
  have c2 : Tryz.prog.cellsOf 26 = 2 := by kernel_rfl
  have c3 : Tryz.prog.cellsOf 22 = 1 := by kernel_rfl
  rw [c1] at h1
  obtain ⟨a, b, c, rfl⟩ : ∃ a b c, cs = [a, b, c] := by
    match cs, h1 with
    | [a, b, c], _ => exact ⟨a, b, c, rfl⟩
  obtain ⟨k0, k1, -⟩ := h2
  simp only [c2, c3, List.drop_zero, List.take_succ_cons, List.take_zero, List.drop_succ_cons] at k0 k1
  obtain ⟨v, e1, xs, hx⟩ := okd_raws k0
  obtain ⟨r, hr, er⟩ := okd_raw k1
  simp only [rc, List.cons.injEq, and_true] at er e1
  obtain ⟨er1, er2⟩ := er
  subst er1; subst er2; subst e1
  obtain ⟨A, cap, hv⟩ := hx.1.len
  exact ⟨(⟨xs, r⟩, (A, cap)), ⟨by unfold ptR; exact hv ▸ hx, hr.1, hr.2⟩, by unfold rclc ptR; rw [hv]⟩
theorem okd_claims {W : World} {n : Nat} {cs : List Value} (h : Okd Tryz.prog W n 23 cs) : ∃ v, cs = [v] ∧ ∃ xs : List RClW, RClU 0 W.heap.size W v xs := by
  obtain ⟨v, hv, xs, h1, h2⟩ := okd_slice rclc _ (by decide) rclc_len Tryz.underlying23 (by kernel_rfl) (Nat.le_of_ble_eq_true (by kernel_rfl)) (fun n cs h => okd_claim h) h
  exact ⟨v, hv, xs, h1, h2⟩
set_option maxRecDepth 100000 in
theorem okd_in21 {W : World} {n : Nat} {cs : List Value} (h : Okd Tryz.prog W n 30 cs) :
    ∃ (q : Q21) (vT vL vC : Value), cs = [vT, vL, .int .u64 q.R.1, .int .u64 q.R.2, vC, .int .u8 (q.N : Int)] ∧ Q21S W.heap.size W q vT vL vC := by
  obtain ⟨h1, m, h2⟩ := okd_struct Tryz.underlying30 h
  have c1 : Tryz.prog.cellsOf 30 = 6 := by kernel_rfl
  have c3 : Tryz.prog.cellsOf 22 = 1 := by kernel_rfl
  have c4 : Tryz.prog.cellsOf 23 = 1 := by kernel_rfl
  have c5 : Tryz.prog.cellsOf 28 = 3 := by kernel_rfl
  have c2 : Tryz.prog.cellsOf 26 = 2 := by kernel_rfl
  have c6 : Tryz.prog.cellsOf 5 = 1 := by kernel_rfl
  rw [c1] at h1
  obtain ⟨a, b, c, d, e, f, rfl⟩ : ∃ a b c d e f, cs = [a, b, c, d, e, f] := by
    match cs, h1 with
    | [a, b, c, d, e, f], _ => exact ⟨a, b, c, d, e, f, rfl⟩
  obtain ⟨k0, k1, k2, k3, -⟩ := h2
  simp only [c3, c4, c5, c6, List.drop_zero, List.take_succ_cons, List.take_zero, List.drop_succ_cons] at k0 k1 k2 k3
  obtain ⟨v0, e0, T, hT⟩ := okd_raws k0
  obtain ⟨v1, e1, L, hL⟩ := okd_claims k1
  obtain ⟨-, m2, s0, s1, -⟩ := okd_struct Tryz.underlying28 k2
  simp only [c2, c3, List.drop_zero, List.take_succ_cons, List.take_zero, List.drop_succ_cons] at s0 s1
  obtain ⟨r, hr, er⟩ := okd_raw s0
  obtain ⟨v2, e2, C, hC⟩ := okd_raws s1
  obtain ⟨K, e4, oK⟩ := okd_int Tryz.underlying5 k3
  simp only [rc, List.cons.injEq, and_true] at e0 e1 er e2 e4
  obtain ⟨er1, er2⟩ := er
  subst e0; subst e1; subst er1; subst er2; subst e2; subst e4
  obtain ⟨hK1, hK2⟩ := wf_u8 oK
  exact ⟨⟨T, L, r, C, K.toNat⟩, _, _, _, by rw [Int.toNat_of_nonneg hK1], ⟨hT, hL, hC, hr.1, hr.2, by show K.toNat < 256; omega⟩⟩
end Go.Proofs.YtkgglhakimkkhaaGreatDoor
namespace Go.Proofs.YtkgglhakimkkhaaGreatDoor

abbrev B32 := BitVec 32
def bv (x : B32) : Int := (x.toNat : Int)
theorem bv_lt (x : B32) : 0 ≤ bv x ∧ bv x < 4294967296 := ⟨Int.natCast_nonneg _, by unfold bv; have := x.isLt; omega⟩
theorem bv_ofNat (n : Nat) (h : n < 4294967296) : bv (BitVec.ofNat 32 n) = (n : Int) := by
  unfold bv
  rw [BitVec.toNat_ofNat, Nat.mod_eq_of_lt (by omega)]
theorem bv_and (x y : B32) : bits .and .u32 (bv x) (bv y) = bv (x &&& y) := by
  unfold bv
  rw [u32_and_nat _ _ (by have := x.isLt; omega) (by have := y.isLt; omega), BitVec.toNat_and]
theorem bv_or (x y : B32) : bits .or .u32 (bv x) (bv y) = bv (x ||| y) := by
  unfold bv
  rw [u32_or_nat _ _ (by have := x.isLt; omega) (by have := y.isLt; omega), BitVec.toNat_or]
theorem bv_xor (x y : B32) : bits .xor .u32 (bv x) (bv y) = bv (x ^^^ y) := by
  unfold bv
  rw [u32_xor_nat _ _ (by have := x.isLt; omega) (by have := y.isLt; omega), BitVec.toNat_xor]
theorem bv_add (x y : B32) : IntKind.u32.wrap (bv x + bv y) = bv (x + y) := by
  unfold bv
  rw [IntKind.wrap_u32', BitVec.toNat_add]
  omega
theorem bv_not (x : B32) : IntKind.u32.wrap (4294967295 - bv x) = bv (~~~x) := by
  unfold bv
  rw [IntKind.wrap_u32', BitVec.toNat_not]
  have := x.isLt
  omega
theorem bv_shr (x : B32) (n : Nat) : bv x / 2 ^ n = bv (x >>> n) := by
  unfold bv
  rw [BitVec.toNat_ushiftRight, Nat.shiftRight_eq_div_pow]
  simp
theorem bv_shl (x : B32) (n : Nat) : IntKind.u32.wrap (bv x * 2 ^ n) = bv (x <<< n) := by
  unfold bv
  rw [IntKind.wrap_u32', BitVec.toNat_shiftLeft, Nat.shiftLeft_eq]
  have : ((x.toNat : Int) * 2 ^ n) = ((x.toNat * 2 ^ n : Nat) : Int) := by simp
  rw [this]
  omega
def rotr (x : B32) (n : Nat) : B32 := x >>> n ||| x <<< (32 - n)
def sg0 (x : B32) : B32 := rotr x 7 ^^^ rotr x 18 ^^^ x >>> 3
def sg1 (x : B32) : B32 := rotr x 17 ^^^ rotr x 19 ^^^ x >>> 10
def schN (m : List B32) : Nat → List B32
  | 0 => m
  | k + 1 => schN m k ++ [(schN m k).getD k 0 + sg0 ((schN m k).getD (k + 1) 0) + (schN m k).getD (k + 9) 0 + sg1 ((schN m k).getD (k + 14) 0)]
theorem schN_length (m : List B32) : ∀ k, (schN m k).length = m.length + k
  | 0 => rfl
  | k + 1 => by rw [schN, List.length_append, schN_length m k]; rfl
def word4 (b : List Nat) (i : Nat) : B32 := BitVec.ofNat 32 (b.getD (4 * i) 0 * 16777216 + b.getD (4 * i + 1) 0 * 65536 + b.getD (4 * i + 2) 0 * 256 + b.getD (4 * i + 3) 0)
def words16 (b : List Nat) (k : Nat) : List B32 := (List.range k).map (word4 b)
theorem words16_length (b : List Nat) (k : Nat) : (words16 b k).length = k := by simp [words16]
theorem words16_succ (b : List Nat) (k : Nat) : words16 b (k + 1) = words16 b k ++ [word4 b k] := by simp [words16, List.range_succ]
def sched (b : List Nat) : List B32 := schN (words16 b 16) 48
theorem sched_length (b : List Nat) : (sched b).length = 64 := by unfold sched; rw [schN_length, words16_length]
def kTab : List Nat := [0x428a2f98, 0x71374491, 0xb5c0fbcf, 0xe9b5dba5, 0x3956c25b, 0x59f111f1, 0x923f82a4, 0xab1c5ed5,
  0xd807aa98, 0x12835b01, 0x243185be, 0x550c7dc3, 0x72be5d74, 0x80deb1fe, 0x9bdc06a7, 0xc19bf174,
  0xe49b69c1, 0xefbe4786, 0x0fc19dc6, 0x240ca1cc, 0x2de92c6f, 0x4a7484aa, 0x5cb0a9dc, 0x76f988da,
  0x983e5152, 0xa831c66d, 0xb00327c8, 0xbf597fc7, 0xc6e00bf3, 0xd5a79147, 0x06ca6351, 0x14292967,
  0x27b70a85, 0x2e1b2138, 0x4d2c6dfc, 0x53380d13, 0x650a7354, 0x766a0abb, 0x81c2c92e, 0x92722c85,
  0xa2bfe8a1, 0xa81a664b, 0xc24b8b70, 0xc76c51a3, 0xd192e819, 0xd6990624, 0xf40e3585, 0x106aa070,
  0x19a4c116, 0x1e376c08, 0x2748774c, 0x34b0bcb5, 0x391c0cb3, 0x4ed8aa4a, 0x5b9cca4f, 0x682e6ff3,
  0x748f82ee, 0x78a5636f, 0x84c87814, 0x8cc70208, 0x90befffa, 0xa4506ceb, 0xbef9a3f7, 0xc67178f2]
def kTabB : List B32 := kTab.map (BitVec.ofNat 32)
theorem kTab_length : kTab.length = 64 := by decide
structure S8 where
  a : B32
  b : B32
  c : B32
  d : B32
  e : B32
  f : B32
  g : B32
  h : B32
def S8.cells (s : S8) : List Value := [.int .u32 (bv s.a), .int .u32 (bv s.b), .int .u32 (bv s.c), .int .u32 (bv s.d), .int .u32 (bv s.e), .int .u32 (bv s.f), .int .u32 (bv s.g), .int .u32 (bv s.h)]
def bs1 (e : B32) : B32 := rotr e 6 ^^^ rotr e 11 ^^^ rotr e 25
def bs0 (a : B32) : B32 := rotr a 2 ^^^ rotr a 13 ^^^ rotr a 22
def chE (e f g : B32) : B32 := e &&& f ^^^ ~~~e &&& g
def maj (a b c : B32) : B32 := a &&& b ||| a &&& c ||| b &&& c
def tOne (k w : B32) (s : S8) : B32 := s.h + bs1 s.e + chE s.e s.f s.g + k + w
def rnd (k w : B32) (s : S8) : S8 := ⟨tOne k w s + (bs0 s.a + maj s.a s.b s.c), s.a, s.b, s.c, s.d + tOne k w s, s.e, s.f, s.g⟩
theorem maj_xor (a b c : B32) : a &&& b ^^^ a &&& c ^^^ b &&& c = maj a b c := by
  unfold maj
  ext i hi
  simp only [BitVec.getElem_xor, BitVec.getElem_and, BitVec.getElem_or]
  cases a[i] <;> cases b[i] <;> cases c[i] <;> rfl
def rndK (b : List Nat) (s : S8) : Nat → S8
  | 0 => s
  | k + 1 => rnd (kTabB.getD k 0) ((sched b).getD k 0) (rndK b s k)
def S8.add (s v : S8) : S8 := ⟨s.a + v.a, s.b + v.b, s.c + v.c, s.d + v.d, s.e + v.e, s.f + v.f, s.g + v.g, s.h + v.h⟩
def comp (s : S8) (b : List Nat) : S8 := s.add (rndK b s 64)
def init8 : S8 := ⟨0x6a09e667, 0xbb67ae85, 0x3c6ef372, 0xa54ff53a, 0x510e527f, 0x9b05688c, 0x1f83d9ab, 0x5be0cd19⟩
def padZ (n : Nat) : Nat := (119 - n % 64) % 64
def lenB (n : Nat) : List Nat := (List.range 8).map fun i => n * 8 / 2 ^ (56 - 8 * i) % 256
def pad (b : List Nat) : List Nat := b ++ 128 :: List.replicate (padZ b.length) 0 ++ lenB b.length
theorem pad_length (b : List Nat) : (pad b).length = b.length + 1 + padZ b.length + 8 := by
  unfold pad lenB
  simp only [List.length_append, List.length_cons, List.length_replicate, List.length_map, List.length_range]
  omega
theorem pad_64 (b : List Nat) : (pad b).length % 64 = 0 := by
  rw [pad_length]
  unfold padZ
  omega
def blk64 (p : List Nat) (i : Nat) : List Nat := (p.drop (64 * i)).take 64
def shaK (p : List Nat) : Nat → S8
  | 0 => init8
  | k + 1 => comp (shaK p k) (blk64 p k)
def digK (s : S8) (i : Nat) : Nat := ([s.a, s.b, s.c, s.d, s.e, s.f, s.g, s.h].getD (i / 4) 0).toNat / 2 ^ (24 - 8 * (i % 4)) % 256
def digL (s : S8) : List Nat := (List.range 32).map (digK s)
theorem digL_length (s : S8) : (digL s).length = 32 := by simp [digL]
theorem digL_lt (s : S8) : ∀ x ∈ digL s, x < 256 := fun x hx => by
  obtain ⟨i, _, rfl⟩ := List.mem_map.1 hx
  unfold digK
  omega
def sha (b : List Nat) : List Nat := digL (shaK (pad b) ((pad b).length / 64))
theorem sha_length (b : List Nat) : (sha b).length = 32 := digL_length _
theorem sha_lt (b : List Nat) : ∀ x ∈ sha b, x < 256 := digL_lt _
def byc (l : List Nat) : List Value := l.map fun x : Nat => Value.int .u8 (x : Int)
theorem byc_length (l : List Nat) : (byc l).length = l.length := by simp [byc]
theorem byc_app (l m : List Nat) : byc (l ++ m) = byc l ++ byc m := by simp [byc]
theorem byc_one (l : List Nat) : ∀ u ∈ byc l, u.oneCell' = true := fun u hu => by
  obtain ⟨x, _, rfl⟩ := List.mem_map.1 hu
  rfl
end Go.Proofs.YtkgglhakimkkhaaGreatDoor
namespace Go.Proofs.YtkgglhakimkkhaaGreatDoor

theorem padZ_lt (n : Nat) : padZ n < 64 := Nat.mod_lt _ (by decide)
theorem padZ_iff (n z : Nat) (h : z ≤ padZ n) : (n + 1 + z) % 64 = 56 ↔ z = padZ n := by
  have := padZ_lt n
  unfold padZ at *
  omega
def lastB (b : List Nat) : List Nat := b.drop (b.length / 64 * 64) ++ 128 :: List.replicate (padZ b.length) 0 ++ lenB b.length
theorem lenB_length (n : Nat) : (lenB n).length = 8 := by simp [lenB]
theorem pad_split (b : List Nat) : pad b = b.take (b.length / 64 * 64) ++ lastB b := by
  unfold pad lastB
  rw [← List.append_assoc, ← List.append_assoc, List.take_append_drop]
theorem lastB_length (b : List Nat) : (lastB b).length = b.length % 64 + 1 + padZ b.length + 8 := by
  unfold lastB
  simp only [List.length_append, List.length_cons, List.length_replicate, List.length_drop, lenB_length]
  omega
theorem lastB_64 (b : List Nat) : (lastB b).length % 64 = 0 ∧ 64 ≤ (lastB b).length ∧ (lastB b).length ≤ 136 := by
  rw [lastB_length]
  unfold padZ
  omega
theorem take_len (b : List Nat) : (b.take (b.length / 64 * 64)).length = 64 * (b.length / 64) := by
  rw [List.length_take]
  omega
theorem blk_low (b : List Nat) (i : Nat) (h : i < b.length / 64) : blk64 (pad b) i = (b.drop (64 * i)).take 64 := by
  unfold blk64
  rw [pad_split]
  apply List.ext_getElem?
  intro j
  by_cases hj : j < 64
  · rw [List.getElem?_take, if_pos hj, List.getElem?_take, if_pos hj, List.getElem?_drop, List.getElem?_drop, List.getElem?_append_left (by rw [take_len]; omega), List.getElem?_take, if_pos (by omega)]
  · rw [List.getElem?_take, if_neg hj, List.getElem?_take, if_neg hj]
theorem blk_high (b : List Nat) (i : Nat) : blk64 (pad b) (b.length / 64 + i) = blk64 (lastB b) i := by
  unfold blk64
  rw [pad_split, List.drop_append, take_len, List.drop_eq_nil_of_le (by rw [take_len]; omega), List.nil_append]
  congr 2
  omega
theorem blk_count (b : List Nat) : (pad b).length / 64 = b.length / 64 + (lastB b).length / 64 := by
  rw [pad_length, lastB_length]
  unfold padZ
  omega
theorem lenB_lt (n : Nat) : ∀ x ∈ lenB n, x < 256 := fun x hx => by
  obtain ⟨i, _, rfl⟩ := List.mem_map.1 hx
  exact Nat.mod_lt _ (by decide)
theorem lastB_lt (b : List Nat) (h : ∀ x ∈ b, x < 256) : ∀ x ∈ lastB b, x < 256 := fun x hx => by
  unfold lastB at hx
  simp only [List.mem_append, List.mem_cons] at hx
  rcases hx with (hx | hx | hx) | hx
  · exact h x (List.mem_of_mem_drop hx)
  · omega
  · rw [List.eq_of_mem_replicate hx]; decide
  · exact lenB_lt _ x hx
theorem pad_lt (b : List Nat) (h : ∀ x ∈ b, x < 256) : ∀ x ∈ pad b, x < 256 := fun x hx => by
  rw [pad_split] at hx
  rcases List.mem_append.1 hx with hx | hx
  · exact h x (List.mem_of_mem_take hx)
  · exact lastB_lt b h x hx
/-! ### Transcripts -/
def w8 (x : Nat) : List Nat := (List.range 8).map fun i => x / 2 ^ (8 * i) % 256
theorem w8_length (x : Nat) : (w8 x).length = 8 := by simp [w8]
theorem w8_lt (x : Nat) : ∀ y ∈ w8 x, y < 256 := fun y hy => by
  obtain ⟨i, _, rfl⟩ := List.mem_map.1 hy
  exact Nat.mod_lt _ (by decide)
def le8 (b : List Nat) (o : Nat) : Nat → Nat
  | 0 => 0
  | k + 1 => le8 b o k * 256 + b.getD (o + (7 - k)) 0
theorem le8_lt (b : List Nat) (h : ∀ x ∈ b, x < 256) (o : Nat) : ∀ k, le8 b o k < 256 ^ k
  | 0 => Nat.one_pos
  | k + 1 => by
    have h1 := le8_lt b h o k
    have h2 : b.getD (o + (7 - k)) 0 < 256 := by
      rw [List.getD_eq_getElem?_getD]
      cases hx : b[o + (7 - k)]? with
      | none => decide
      | some x => exact h x (List.mem_of_getElem? hx)
    rw [le8, Nat.pow_succ]
    omega
def tagL (st : List Nat) (tag : Nat) (lab rest : List Nat) : List Nat := st ++ [tag, lab.length] ++ lab ++ rest
def exB (l : List E) : List Nat := l.flatMap fun x => w8 (fv x.a).toNat ++ w8 (fv x.b).toNat
def absT (st lab b : List Nat) : List Nat := sha (tagL st 1 lab (w8 b.length ++ b))
def chaT (st : List Nat) (cnt : Nat) (lab : List Nat) : E := ⟨fz (le8 (sha (tagL st 2 lab (w8 cnt))) 0 8), fz (le8 (sha (tagL st 2 lab (w8 cnt))) 8 8)⟩
end Go.Proofs.YtkgglhakimkkhaaGreatDoor
namespace Go.Proofs.YtkgglhakimkkhaaGreatDoor
open Go.RowKit

def u32c (l : List B32) : List Value := l.map fun x : B32 => Value.int .u32 (bv x)
def arrN (n : Nat) (l : List B32) : List Value := u32c (l ++ List.replicate (n - l.length) 0)
theorem arrN_get (n : Nat) (l : List B32) (i : Nat) (x : B32) (h : l[i]? = some x) : (arrN n l)[i]? = some (.int .u32 (bv x)) := by
  have hi := (List.getElem?_eq_some_iff.1 h).1
  unfold arrN u32c
  rw [List.getElem?_map, List.getElem?_append_left hi, h]
  rfl
theorem arrN_next (n : Nat) (l : List B32) (h : l.length < n) : (arrN n l)[l.length]? = some (.int .u32 0) := by
  unfold arrN u32c
  rw [List.getElem?_map, List.getElem?_append_right (Nat.le_refl _), Nat.sub_self, List.getElem?_replicate, if_pos (by omega)]
  rfl
theorem arrN_set (n : Nat) (l : List B32) (x : B32) (h : l.length < n) : (arrN n l).set l.length (.int .u32 (bv x)) = arrN n (l ++ [x]) := by
  unfold arrN u32c
  rw [← List.map_set, List.set_append_right _ _ (Nat.le_refl _), Nat.sub_self]
  obtain ⟨k, hk⟩ : ∃ k, n - l.length = k + 1 := ⟨n - l.length - 1, by omega⟩
  rw [hk, List.replicate_succ, List.set_cons_zero, List.length_append, List.append_assoc]
  rw [show n - (l.length + [x].length) = k by simp; omega]
  rfl
theorem arrN_full (n : Nat) (l : List B32) (h : l.length = n) : arrN n l = u32c l := by
  unfold arrN
  rw [h, Nat.sub_self, List.replicate_zero, List.append_nil]
def arrB (n : Nat) (l : List Nat) : List Value := byc (l ++ List.replicate (n - l.length) 0)
theorem arrB_next (n : Nat) (l : List Nat) (h : l.length < n) : (arrB n l)[l.length]? = some (.int .u8 0) := by
  unfold arrB byc
  rw [List.getElem?_map, List.getElem?_append_right (Nat.le_refl _), Nat.sub_self, List.getElem?_replicate, if_pos (by omega)]
  rfl
theorem arrB_set (n : Nat) (l : List Nat) (x : Nat) (h : l.length < n) : (arrB n l).set l.length (.int .u8 (x : Int)) = arrB n (l ++ [x]) := by
  unfold arrB byc
  rw [show (Value.int .u8 (x : Int)) = (fun x : Nat => Value.int .u8 (x : Int)) x from rfl, ← List.map_set, List.set_append_right _ _ (Nat.le_refl _), Nat.sub_self]
  obtain ⟨k, hk⟩ : ∃ k, n - l.length = k + 1 := ⟨n - l.length - 1, by omega⟩
  rw [hk, List.replicate_succ, List.set_cons_zero, List.length_append, List.append_assoc]
  rw [show n - (l.length + [x].length) = k by simp; omega]
  rfl
theorem arrB_full (n : Nat) (l : List Nat) (h : l.length = n) : arrB n l = byc l := by
  unfold arrB
  rw [h, Nat.sub_self, List.replicate_zero, List.append_nil]
def dgv (l : List Nat) : Value := .agg (byc l).toArray
def ByS (lo hi : Nat) (w : World) (v : Value) (l : List Nat) : Prop := Rd lo hi 1 w v l.length (byc l)
theorem ByS.len {lo hi : Nat} {w : World} {v : Value} {l : List Nat} (h : ByS lo hi w v l) : ∃ A cap, v = .slice A l.length cap := Rd.len h
theorem ByS.keep {lo hi : Nat} {w X : World} {v : Value} {l : List Nat} (h : ByS lo hi w v l) (hb : Below w.heap.size w X) : ByS lo hi X v l := Rd.keep h hb
theorem bys_cells {lo hi : Nat} {w : World} {v : Value} {l : List Nat} (h : ByS lo hi w v l) (h0 : 0 < l.length) : ∃ g off cap, v = .slice (some ⟨g, off, none⟩) l.length cap ∧ l.length ≤ cap ∧ lo ≤ g ∧ g < hi ∧ g < w.heap.size ∧ ∀ (k : Nat) (x : Nat), l[k]? = some x → w.cell? ⟨g, off + k, none⟩ = some (.int .u8 (x : Int)) := by
  obtain ⟨g, off, cap, q1, q2, q3, q4, q5, q6⟩ := Rd.form h h0
  exact ⟨g, off, cap, q1, q2, q3, q4, q5, fun k x hx => q6 k _ (by unfold byc; rw [List.getElem?_map, hx]; rfl)⟩
theorem bys_cut {lo hi : Nat} {w : World} {g off cap : Nat} {l : List Nat} (h : ByS lo hi w (.slice (some ⟨g, off, none⟩) l.length cap) l) (i k cap' : Nat) (hi' : i + k ≤ l.length) (hk : 0 < k) (hc : k ≤ cap') : ByS lo hi w (.slice (some ⟨g, off + i, none⟩) k cap') ((l.drop i).take k) := by
  obtain ⟨g', off', c', hv, q2, q3, q4, q5, q6⟩ := bys_cells h (by omega)
  cases hv
  have hl : ((l.drop i).take k).length = k := by rw [List.length_take, List.length_drop]; omega
  have hsm := h.2.1
  unfold ByS
  refine ⟨by rw [byc_length, hl, Nat.mul_one], by omega, some ⟨g, off + i, none⟩, cap', by rw [hl], by omega, fun _ => ⟨g, off + i, rfl, q3, q4, q5, fun j u hu => ?_⟩⟩
  unfold byc at hu
  rw [List.getElem?_map] at hu
  cases hx : ((l.drop i).take k)[j]? with
  | none => rw [hx] at hu; cases hu
  | some x =>
    rw [hx, Option.map_some, Option.some.injEq] at hu
    subst hu
    have hj := (List.getElem?_eq_some_iff.1 hx).1
    rw [hl] at hj
    rw [List.getElem?_take, if_pos hj, List.getElem?_drop] at hx
    rw [Nat.add_assoc]
    exact q6 (i + j) x hx
end Go.Proofs.YtkgglhakimkkhaaGreatDoor
namespace Go.Proofs.YtkgglhakimkkhaaGreatDoor
open Go.RowKit

theorem spl_self : ∀ (vs : List Value) (pre : List Value), spl (pre ++ vs).toArray pre.length vs = (pre ++ vs).toArray
  | [], pre => rfl
  | v :: vs, pre => by
    have e : ((pre ++ v :: vs).toArray.setIfInBounds pre.length v) = ((pre ++ [v]) ++ vs).toArray := by simp
    rw [spl, e]
    have := spl_self vs (pre ++ [v])
    rw [List.length_append, List.length_singleton] at this
    rw [this]
    simp
theorem step_new0 {P : Program} {o : Oper} {a : Act} {w : World} {e : TypeId} {ie : TypeInfo} {z : Value} (hie : P.info? e = some ie) (hz : ie.zero = some z) (ho : o.op = .alloc e) :
    stepAt P o a w (fun v w' => v = .pointer (some ⟨w.heap.size, 0, none⟩) ∧ w' = w.alloc (.cells z.cells e)) := by
  unfold stepAt execOp
  simp [ho, Instr.alloc, zeroValue, typeInfo, hie, hz, newVar, newRow, newObj]
  exact ⟨rfl, rfl⟩
theorem step_loadR0 {P : Program} {o : Oper} {a : Act} {w : World} {t : TypeId} {x : Operand} {g i : Nat} {cs : List Value} {d : TypeDesc} (hu : P.underlying t = some d) (hd : d.isRow = true) (hi : (P.info? t).map (·.size) = some cs.length) (ho : o.op = .load t x) (hx : a.eval x = .pointer (some ⟨g, i, none⟩)) (hc : w.rangeAt g i cs) :
    stepAt P o a w (fun v' w' => v' = .agg cs.toArray ∧ w' = w) := by
  have h2 := run_loadAt_mid (P := P) w g i t cs d hc hu hd hi
  unfold stepAt execOp
  simp only [ho, hx, Sem.run_bind, h2, Result.andThen_ok]
  exact ⟨rfl, rfl⟩
theorem spl_cat : ∀ (vs pre c2 : List Value), c2.length = vs.length → spl (pre ++ c2).toArray pre.length vs = (pre ++ vs).toArray
  | [], pre, c2, h => by
    rw [List.eq_nil_of_length_eq_zero h]
    rfl
  | v :: vs, pre, c :: c2, h => by
    have e : ((pre ++ c :: c2).toArray.setIfInBounds pre.length v) = ((pre ++ [v]) ++ c2).toArray := by simp
    rw [spl, e]
    have := spl_cat vs (pre ++ [v]) c2 (by simpa using h)
    rw [List.length_append, List.length_singleton] at this
    rw [this]
    simp
theorem spl_all (c2 : Array Value) (cs : List Value) (h : c2.size = cs.length) : spl c2 0 cs = cs.toArray := by
  have := spl_cat cs [] c2.toList (by simpa using h)
  simpa using this
theorem wp_zvar {P : Program} {id : Nat} {o1 o2 o3 : Oper} {Q : Exit → Act → World → Prop} {a : Act} {w : World} (t : TypeId) (i : TypeInfo) (cs : List Value) (x y : Operand)
    (g1 : o1.guard = none) (g2 : o2.guard = none) (g3 : o3.guard = none) (h1 : o1.op = .build t #[]) (h2 : o2.op = .alloc t) (h3 : o3.op = .store t x y)
    (hi : P.info? t = some i) (hz : i.zero = some (.agg cs.toArray)) (hs : i.size = cs.length) (hone : cs.all (·.oneCell') = true) (hb : P.built t [] = some cs.toArray)
    (hx : ∀ u v, ((a.put o1.dst u).put o2.dst v).eval x = v) (hy : ∀ u v, ((a.put o1.dst u).put o2.dst v).eval y = u)
    (H : ∀ X v, Below w.heap.size w X → X.heap.size = w.heap.size + 1 → Blk X w.heap.size t cs.toArray → Q .normal (((a.put o1.dst v).put o2.dst (.pointer (some ⟨w.heap.size, 0, none⟩))).put o3.dst undef) X) :
    (Code.region id #[o1, o2, o3] false).wp P Q a w := by
  refine wp_region_lit (l := [o1, o2, o3]) ?_
  refine wpList_plain g1 fun K hK => wp_build t #[] h1 (by simp [hb]) (hK _ _ ?_)
  refine wpList_plain g2 fun K2 hK2 => wp_of_step (stepAt_mono (fun v w' hh => ?_) (step_new0 hi hz h2))
  obtain ⟨rfl, rfl⟩ := hh
  refine hK2 _ _ ?_
  have hb1 : Blk (w.alloc (.cells (Value.agg cs.toArray).cells t)) w.heap.size t cs.toArray := World.alloc_heap_new w _
  simp only [List.map_toArray, List.map_nil, hb, Option.getD_some]
  have e := spl_self cs []
  simp only [List.nil_append, List.length_nil] at e
  refine wpList_put g3 t x y h3 (g := w.heap.size) (i := 0) (hx _ _) (hy _ _) hb1 (by simp) (by rw [hi]; simp [hs]) hone e fun X hX bX => ?_
  exact H X _ (below_put ((Below.refl _ _).alloc (Nat.le_refl _) _) hX (Nat.le_refl _)) (by rw [hX.size]; simp) bX
theorem blk_range {w : World} {g : Nat} {t : TypeId} {cs : List Value} (hb : Blk w g t cs.toArray) : w.rangeAt g 0 cs := fun j v hv => by
  rw [Nat.zero_add, hb.cell]
  simpa using hv
theorem wp_carry {P : Program} {id : Nat} {o1 o2 : Oper} {Q : Exit → Act → World → Prop} {a : Act} {w : World} (t : TypeId) (cs : List Value) (x y z : Operand) (d : TypeDesc) {g1 g2 : Nat} {t1 t2 : TypeId} {c2 : Array Value}
    (k1 : o1.guard = none) (k2 : o2.guard = none) (h1 : o1.op = .load t x) (h2 : o2.op = .store t y z) (hu : P.underlying t = some d) (hd : d.isRow = true) (hi : (P.info? t).map (·.size) = some cs.length) (hone : cs.all (·.oneCell') = true)
    (hx : a.eval x = .pointer (some ⟨g1, 0, none⟩)) (hy : ∀ u, (a.put o1.dst u).eval y = .pointer (some ⟨g2, 0, none⟩)) (hz : ∀ u, (a.put o1.dst u).eval z = u) (hb1 : Blk w g1 t1 cs.toArray) (hb2 : Blk w g2 t2 c2) (hs : c2.size = cs.length)
    (H : ∀ X v, Put w X g2 → Blk X g2 t2 cs.toArray → Q .normal ((a.put o1.dst v).put o2.dst undef) X) :
    (Code.region id #[o1, o2] false).wp P Q a w := by
  refine wp_region_lit (l := [o1, o2]) ?_
  refine wpList_plain k1 fun K hK => wp_of_step (stepAt_mono (fun v w' hh => ?_) (step_loadR0 hu hd hi h1 hx (blk_range hb1)))
  obtain ⟨rfl, rfl⟩ := hh
  refine hK _ _ ?_
  have e : spl c2 0 cs = cs.toArray := spl_all c2 cs hs
  refine wpList_put k2 t y z h2 (hy _) (hz _) hb2 (by omega) hi hone e fun X hX bX => ?_
  exact H X _ hX bX
theorem res_row {P : Program} {fn : Func} {a : Act} {w : World} {s : Tmp} {t : TypeId} {g : Nat} {t1 : TypeId} {cs : List Value} {d : TypeDesc} (hres : fn.results = #[.cell s t]) (hp : a.tmps[s]? = some (.pointer (some ⟨g, 0, none⟩)))
    (hu : P.underlying t = some d) (hd : d.isRow = true) (hi : (P.info? t).map (·.size) = some cs.length) (hb : Blk w g t1 cs.toArray) : (results fn a.tmps).run P w = .ok (.agg cs.toArray) w := by
  simp [results, hres, hp, Sem.run_bind, asAddr, run_loadVar_mid w g 0 t cs d (blk_range hb) hu hd hi]
end Go.Proofs.YtkgglhakimkkhaaGreatDoor
