/-
  A row of claims that grows by append, each claim's point in blocks of its own.
  The claims that the reference makes.
  problem of the law of package batch, by contract.
-/
import Derived.Test.YtipaecageimnnaaDoorTru
import Derived.Test.YtipaecageimnnaaDoorRow
import Derived.Test.YtipaecageimnnaaDoorMr3
namespace Go.Proofs.YtipaecageimnnaaDoor
open Go.RowKit

def RowC (base : Nat) (w : World) (u : Value) (cs : List ClW) : Prop := w.ownsRow base 38 3 u cs.length (cs.flatMap clc) ∧ ∀ x ∈ cs, ∃ lo hi, base ≤ lo ∧ hi ≤ w.heap.size ∧ Outside lo hi u ∧ ExtS lo hi w (ptV x) x.1.p
theorem RowC.keep {base : Nat} {w X : World} {u : Value} {cs : List ClW} (h : RowC base w u cs) (hb : Below w.heap.size w X) : RowC base X u cs :=
  ⟨own_below h.1 (Nat.le_refl _) hb, fun x hx => by
    obtain ⟨lo, hi, q1, q2, q3, q4⟩ := h.2 x hx
    exact ⟨lo, hi, q1, Nat.le_trans q2 hb.size, q3, Rd.keep q4 hb⟩⟩
theorem RowC.block {base g : Nat} {w : World} {u : Value} {cs : List ClW} (h : RowC base w u cs) (hg : u.ownBlock = some g) : base ≤ g ∧ g < w.heap.size := by
  obtain ⟨hu, h1⟩ := h.1
  rcases h1 with ⟨rfl, _⟩ | ⟨g', cap, q, rfl, q2, q3, _⟩
  · simp [Value.ownBlock] at hg
  · simp [Value.ownBlock] at hg; subst hg; exact ⟨q2, Blk.lt q3⟩
theorem RowC.out {base lo hi : Nat} {w : World} {u : Value} {cs : List ClW} (h : RowC base w u cs) (hlo : w.heap.size ≤ lo) : Outside lo hi u := fun b hb => .inl (Nat.lt_of_lt_of_le (h.block hb).2 hlo)
theorem RowC.clm {base : Nat} {w : World} {u : Value} {cs : List ClW} (h : RowC base w u cs) (hl : cs.length ≤ 1000000) : ClmU base w.heap.size w u cs :=
  ⟨Rd.of_own h.1 (by omega) (Nat.le_refl _), fun x hx => by
    obtain ⟨lo, hi, q1, q2, q3, q4⟩ := h.2 x hx
    exact Rd.wide q4 q1 q2⟩
theorem wpList_appC {ops : Array Oper} {rest : List Oper} {o : Oper} {a : Act} {Q : Exit → Act → World → Prop} {X : World} {base n lo hi : Nat} {t : TypeId} {cs : List ClW} {u : Value} {y : ClW} (hgd : o.guard = none) (s p : Operand)
    (ho : o.op = .call { callee := .builtin .append, args := #[s, p], argTypes := #[t, t] }) (ht : Tryd.prog.underlying t = some (.slice 38)) (hs : a.eval s = u) (hx : a.eval p = .slice (some ⟨n, 0, none⟩) 1 1) (hrow : RowC base X u cs) (hsrc : Blk X n 38 (clc y).toArray)
    (hE : ExtS lo hi X (ptV y) y.1.p) (hlo : base ≤ lo) (hhi : hi ≤ X.heap.size) (hout : Outside lo hi u) (hk : cs.length ≤ 100000) (hbase : base ≤ X.heap.size)
    (h : ∀ v' w', RowC base w' v' (cs ++ [y]) → Below base X w' → X.grownBy w' u.ownBlock → (v'.ownBlock = u.ownBlock ∨ v'.ownBlock = some X.heap.size) → wpList Tryd.prog ops Q rest (a.put o.dst v') w') : wpList Tryd.prog ops Q (o :: rest) a X := by
  obtain ⟨i0, hi0, hz0, hz1, hz2⟩ := info_parts clm_info
  obtain ⟨h1, h3⟩ := hrow
  refine wpList_app3 hgd s p ho ht hi0 hz0 hz1 hz2 rfl (by decide) (cl := clc y) rfl (clc_one y) hs hx h1 hsrc (by unfold maxLen; omega) (by omega) hbase fun v' w' hown hgrow hB hob => ?_
  have hkept : ∀ lo hi, hi ≤ X.heap.size → Outside lo hi u → Kept lo hi X w' := fun lo hi hh ho => Kept.of_grown hgrow ho hh
  refine h v' w' ⟨by simpa [List.flatMap_append] using hown, fun x hx' => ?_⟩ hB hgrow hob
  rcases List.mem_append.1 hx' with hx' | hx'
  · obtain ⟨lo', hi', q1, q2, q3, q4⟩ := h3 x hx'
    exact ⟨lo', hi', q1, Nat.le_trans q2 hB.size, q3.next hob q2, rd_kept q4 (hkept _ _ q2 q3) hB.size⟩
  · rw [List.mem_singleton.1 hx']
    exact ⟨lo, hi, hlo, Nat.le_trans hhi hB.size, hout.next hob hhi, rd_kept hE (hkept _ _ hhi hout) hB.size⟩
end Go.Proofs.YtipaecageimnnaaDoor
namespace Go.Proofs.YtipaecageimnnaaDoor
open Go.RowKit

/-- A claim as it was given. -/
structure RClm where
  p : List Raw
  v : Raw
abbrev RClW := RClm × (Option Addr × Nat)
def ptR (x : RClW) : Value := .slice x.2.1 x.1.p.length x.2.2
def rclc (x : RClW) : List Value := [ptR x, .int .u64 x.1.v.1, .int .u64 x.1.v.2]
theorem rclc_len (x : RClW) : (rclc x).length = 3 := rfl
def RClU (lo hi : Nat) (w : World) (v : Value) (cs : List RClW) : Prop := Rd lo hi 3 w v cs.length (cs.flatMap rclc) ∧ ∀ x ∈ cs, RawS lo hi w (ptR x) x.1.p ∧ Word x.1.v.1 ∧ Word x.1.v.2
theorem RClU.keep {lo hi : Nat} {w w' : World} {v : Value} {cs : List RClW} (h : RClU lo hi w v cs) (hb : Below w.heap.size w w') : RClU lo hi w' v cs :=
  ⟨h.1.keep hb, fun x hx => ⟨⟨(h.2 x hx).1.1.keep hb, (h.2 x hx).1.2⟩, (h.2 x hx).2⟩⟩
theorem RClU.cells {lo hi : Nat} {w : World} {v : Value} {cs : List RClW} (h : RClU lo hi w v cs) (h0 : 0 < cs.length) : ∃ g off cap, v = .slice (some ⟨g, off, none⟩) cs.length cap ∧ cs.length ≤ cap ∧ lo ≤ g ∧ g < hi ∧ g < w.heap.size ∧
    ∀ k x, cs[k]? = some x → w.cell? ⟨g, off + k * 3, none⟩ = some (ptR x) ∧ w.cell? ⟨g, off + k * 3 + 1, none⟩ = some (.int .u64 x.1.v.1) ∧ w.cell? ⟨g, off + k * 3 + 2, none⟩ = some (.int .u64 x.1.v.2) := by
  obtain ⟨g, off, cap, q1, q2, q3, q4, q5, q6⟩ := Rd.form h.1 h0
  refine ⟨g, off, cap, q1, q2, q3, q4, q5, fun k x hx => ?_⟩
  have e : ∀ j u, (rclc x)[j]? = some u → w.cell? ⟨g, off + k * 3 + j, none⟩ = some u := fun j u hu => by
    have := q6 (k * 3 + j) _ (flat_get rclc_len _ k j _ _ hx hu)
    rwa [← Nat.add_assoc] at this
  exact ⟨e 0 _ rfl, e 1 _ rfl, e 2 _ rfl⟩
/-- The claims made of them. -/
def mdB (cs : List RClW) (n most : Nat) : List Clm := (cs.take most).map fun x => ⟨madeAll x.1.p n, em x.1.v.1 x.1.v.2⟩
theorem mdB_snoc (cs : List RClW) (n j : Nat) (x : RClW) (h : cs[j]? = some x) : mdB cs n (j + 1) = mdB cs n j ++ [⟨madeAll x.1.p n, em x.1.v.1 x.1.v.2⟩] := by
  unfold mdB; rw [List.take_add_one, h, List.map_append]; rfl
theorem mdB_len (cs : List RClW) (n j : Nat) (h : j ≤ cs.length) : (mdB cs n j).length = j := by simp [mdB]; omega
def LitC (b : Nat) (y : Clm) (n m : Nat) (v : Value) (w : World) : Prop := v = .slice (some ⟨n, 0, none⟩) 1 1 ∧ n < m ∧ ∃ (u : ClW) (lo hi : Nat), u.1 = y ∧ Blk w n 38 (clc u).toArray ∧ b ≤ lo ∧ hi ≤ m ∧ ExtS lo hi w (ptV u) u.1.p
theorem fit_litC {b : Nat} {y : Clm} : Fit (LitC b y) (LitF 1) := ⟨fun _ _ _ _ _ ⟨h1, h2, u, lo, hi, h3, h4, h5, h6, h7⟩ hb => ⟨h1, h2, u, lo, hi, h3, h4.below hb h2, h5, h6, Rd.below h7 hb h6⟩, fun _ => ⟨_, rfl⟩, fun _ _ _ _ h => h.1⟩
theorem clm_end {w wr : World} {us : List ClW} {v : Value} {j : Nat} {ms : List Clm} (h : RowC w.heap.size wr v us) (hB : Below w.heap.size w wr) (hl : us.length = j) (hj : j ≤ 1000) (hm : us.map (·.1) = ms) :
    ∃ v' us', (Ending.returned v) = .returned v' ∧ us'.map (·.1) = ms ∧ ClmU w.heap.size wr.heap.size wr v' us' ∧ Below w.heap.size w wr := ⟨v, us, rfl, hm, h.clm (by omega), hB⟩
set_option maxRecDepth 100000 in
set_option maxHeartbeats 2000000 in
theorem rMade21 (cs : List RClW) (n most : Nat) (hn : n ≤ 60) (hm : most ≤ 1000) (vl : Value) (lo hi : Nat) (w : World) (hhi : hi ≤ w.heap.size) (hcs : RClU lo hi w vl cs) :
    Calls Tryd.prog 29 #[vl, .int .i64 (n : Int), .int .i64 (most : Int)] w fun e w' => ∃ v us, e = .returned v ∧ us.map (·.1) = mdB cs n most ∧ ClmU w.heap.size w'.heap.size w' v us ∧ Below w.heap.size w w' := by
  obtain ⟨A, cap, rfl⟩ := hcs.1.len
  have hlen := hcs.1.2.1
  have HC := Lib.hid hcs
  have HE := Lib.hid (fun W (hW : Below w.heap.size w W) x (hx : x ∈ cs) => xMadeAll x.1.p n (by omega) (ptR x) w.heap.size W ⟨((hcs.2 x hx).1.1.keep hW).wide (Nat.zero_le _) hhi, (hcs.2 x hx).1.2⟩ hW.size)
  obtain ⟨L, hL⟩ : ∃ L, L = cs.length := ⟨_, rfl⟩
  rw [← hL] at HC hlen ⊢
  have HLn := Lib.hid hL
  clear hcs hL
  obtain ⟨i0, hi0, hz0, hz1, hz2⟩ := info_parts clm_info
  go_enter Tryd.func29, Tryd.ntmps29
  go_wp2
  go_loopw [7, 8] (fun v i wr => ∃ j : Nat, j ≤ L ∧ j ≤ most ∧ i = .int .i64 j ∧ (∃ us, us.length = j ∧ us.map (·.1) = mdB cs n j ∧ RowC w.heap.size wr v us) ∧ Below w.heap.size w wr) (fun _ i _ => L - (intOf i).toNat)
  case atStart => exact ⟨0, Nat.zero_le _, Nat.zero_le _, rfl, ⟨[], rfl, by simp [mdB], ⟨by simp, .inr ⟨w.heap.size, 0, #[], rfl, Nat.le_refl _, World.alloc_heap_new w _, Nat.le_refl _, Nat.zero_le _, rfl, by simp⟩⟩, fun x hx => by simp at hx⟩, (Below.refl _ _).alloc (Nat.le_refl _) _⟩
  case round =>
    obtain ⟨j, hj, hjm, rfl, ⟨us, hul, humd, hrow⟩, hB⟩ := hrel
    by_cases hlt : j < L
    · by_cases hltm : j < most
      · obtain ⟨gC, oC, cC, hv, -, -, -, lC, qC⟩ := HC.out.cells (by rw [← HLn.out]; omega)
        rw [← HLn.out] at hv
        cases hv
        obtain ⟨x, hx⟩ : ∃ x, cs[j]? = some x := ⟨_, List.getElem?_eq_getElem (by rw [← HLn.out]; exact hlt)⟩
        obtain ⟨d1, d2, d3⟩ := qC j x hx
        have hmem := List.mem_of_getElem? hx
        obtain ⟨-, o1, o2⟩ := HC.out.2 x hmem
        have HX := Lib.hid (fun W1 (hW1 : Below wr.heap.size wr W1) => HE.out W1 (hB.trans (hW1.mono hB.size)) x hmem)
        have HP := Lib.hid (mdB_snoc cs n j x hx)
        have hlt2 := Nat.lt_of_lt_of_le lC hB.size
        have k1 := gw_cell (W := wr) hlt2 ((hB.cell (p := ⟨gC, oC + j * 3, none⟩) lC).trans d1)
        have k2 := gw_cell (W := wr) hlt2 ((hB.cell (p := ⟨gC, oC + j * 3 + 1, none⟩) lC).trans d2)
        have k3 := gw_cell (W := wr) hlt2 ((hB.cell (p := ⟨gC, oC + j * 3 + 2, none⟩) lC).trans d3)
        obtain ⟨⟨xp, xa, xb⟩, Ax, cx⟩ := x
        simp only [ptR] at HX HP k1 k2 k3 o1 o2
        have HU := Lib.hid hul
        have HM := Lib.hid humd
        have HR := Lib.hid hrow
        clear qC hx d1 d2 d3 hmem hul humd hrow
        go_upto_region 5 with (fail)
        refine wp_region_rg 16 [(7, Spec.rel (ExtA (madeAll xp n)) (SlF (madeAll xp n).length)), (13, Spec.val (.agg #[.int .u64 (fv (em xa xb).a), .int .u64 (fv (em xa xb).b)])), (15, Spec.rel (LitC wr.heap.size ⟨madeAll xp n, em xa xb⟩) (LitF 1))] (by kernel_rfl) (by kernel_rfl) (by kernel_rfl) ⟨fit_ext, fit_litC, trivial⟩ ?_
        refine rg_det rfl rfl rfl (fun K hK => ?_)
        go_big_quiet_op
        refine hK _ ?_; clear hK K
        refine rg_det rfl rfl rfl (fun K hK => ?_)
        go_big_quiet_op
        refine hK _ ?_; clear hK K
        refine rg_det rfl rfl rfl (fun K hK => ?_)
        go_big_quiet_op
        refine hK _ ?_; clear hK K
        refine rg_det rfl rfl rfl (fun K hK => ?_)
        go_big_quiet_op
        refine hK _ ?_; clear hK K
        refine rg_det rfl rfl rfl (fun K hK => ?_)
        go_big_quiet_op
        refine hK _ ?_; clear hK K
        refine rg_det rfl rfl rfl (fun K hK => ?_)
        go_big_quiet_op
        refine hK _ ?_; clear hK K
        refine rg_det rfl rfl rfl (fun K hK => ?_)
        go_big_quiet_op
        refine hK _ ?_; clear hK K
        refine rg_rel rfl rfl (fun W1 hW1 hF => step_callr en_attestor_attestorref02_MadeAll (HX.out W1 (grw_below hW1)) rfl rfl) ?_
        intro n7 m7 v7 hn7 hm7 hd7 hf7 a' ha
        simp only [Act.put, List.setIfInBounds_toArray, List.set_cons_succ, List.set_cons_zero] at ha
        subst ha
        obtain ⟨A7, cap7, rfl⟩ := hf7
        refine rg_det rfl rfl rfl (fun K hK => ?_)
        go_big_quiet_op
        refine hK _ ?_; clear hK K
        refine rg_det rfl rfl rfl (fun K hK => ?_)
        go_big_quiet_op
        refine hK _ ?_; clear hK K
        refine rg_det rfl rfl rfl (fun K hK => ?_)
        go_big_quiet_op
        refine hK _ ?_; clear hK K
        refine rg_det rfl rfl rfl (fun K hK => ?_)
        go_big_quiet_op
        refine hK _ ?_; clear hK K
        refine rg_det rfl rfl rfl (fun K hK => ?_)
        go_big_quiet_op
        refine hK _ ?_; clear hK K
        refine rg_val rfl rfl (fun W1 hW1 hF => step_callv en_attestor_attestorref02_Made (xMade xa xb o1.1 o1.2 o2.1 o2.2 W1) rfl rfl) ?_
        intro a' ha
        simp only [Act.put, List.setIfInBounds_toArray, List.set_cons_succ, List.set_cons_zero] at ha
        subst ha
        refine rg_det rfl rfl rfl (fun K hK => ?_)
        go_big_quiet_op
        refine hK _ ?_; clear hK K
        refine rg_rel rfl rfl (fun W1 hW1 hF => stepAt_mono (fun v w' h => ⟨⟨h.1.1, h.1.2.1, ((⟨madeAll xp n, em xa xb⟩ : Clm), (_, _)), _, _, rfl, h.1.2.2, Nat.le_trans (Nat.le_refl _) hn7, Nat.le_trans (pick_last hF (by kernel_rfl)).1 h.2.size, Rd.keep (pick_last hF (by kernel_rfl)).2 h.2⟩, h.2⟩) (step_lit1 Tryd.underlying23 hi0 hz0 hz1 (by decide) (by decide) rfl rfl rfl)) ?_
        intro n15 m15 v15 hn15 hm15 hd15 hf15 a' ha
        simp only [Act.put, List.setIfInBounds_toArray, List.set_cons_succ, List.set_cons_zero] at ha
        subst ha
        obtain rfl := hf15
        refine rg_nil (fun w' hw' hF => ?_)
        obtain ⟨z, rfl⟩ := hw'
        simp only [List.drop_succ_cons, List.drop_zero]
        obtain ⟨hm15, -, hl15, u, l1, l2, hu, bx, hlo, hhi2, hE⟩ := end_last hF
        have hrz := HR.out.keep z.h
        have hzs := z.h.size
        have hBs := hB.size
        clear hF k1 k2 k3 HX hd7 hd15
        go_wp2_with (at_builtin; refine wpList_appC (y := u) (lo := l1) (hi := l2) (base := w.heap.size) (cs := us) rfl _ _ rfl Tryd.underlying23 rfl rfl ?hrow ?hsrc ?hE ?hlo ?hhi ?hout ?hk ?hbase ?_)
        case hrow => exact hrz
        case hsrc => exact bx
        case hE => exact hE
        case hlo => omega
        case hhi => omega
        case hout => exact HR.out.out hlo
        case hk => rw [HU.out]; omega
        case hbase => omega
        intro u' w3 hrow3 hB3 hg3 hob3
        go_wp2
        exact ⟨⟨j + 1, by omega, by omega, by go_num, ⟨us ++ [u], by rw [List.length_append, HU.out]; rfl, by rw [List.map_append, HM.out, HP.out, ← hu]; rfl, hrow3⟩, (hB.trans (z.h.mono hB.size)).trans hB3⟩, by simp [intOf]; omega⟩
      · go_wp2
        go_ret
        obtain rfl : j = most := by omega
        exact clm_end hrow hB hul (by omega) humd
    · by_cases hltm : j < most
      all_goals go_wp2
      all_goals
        go_ret
        obtain rfl : j = L := by omega
        refine clm_end hrow hB hul (by omega) (humd.trans ?_)
        unfold mdB
        rw [List.take_of_length_le (by rw [← HLn.out]; exact Nat.le_refl _), List.take_of_length_le (by rw [← HLn.out]; omega)]
end Go.Proofs.YtipaecageimnnaaDoor
namespace Go.Proofs.YtipaecageimnnaaDoor
open Go.RowKit

/-- An Input of chapter 21. -/
structure Q21 where
  T : List Raw
  L : List RClW
  R : Raw
  C : List Raw
  N : Nat
structure Q21S (hi : Nat) (w : World) (q : Q21) (vT vL vC : Value) : Prop where
  T : RawS 0 hi w vT q.T
  L : RClU 0 hi w vL q.L
  C : RawS 0 hi w vC q.C
  r1 : Word q.R.1
  r2 : Word q.R.2
  n : q.N < 256
def qv21 (vT vL vC : Value) (q : Q21) : Value := .agg #[vT, vL, .int .u64 q.R.1, .int .u64 q.R.2, vC, .int .u8 (q.N : Int)]
def Q21.k (q : Q21) : Nat := q.N % 5
def Q21.t (q : Q21) : List E := mdT q.T (2 ^ q.k)
def Q21.r (q : Q21) : E := em q.R.1 q.R.2
def Q21.c (q : Q21) : List E := madeAll q.C q.k
def Q21.l (q : Q21) : List Clm := mdB q.L q.k 5
def MdA (ms : List Clm) (lo hi : Nat) (v : Value) (w : World) : Prop := ∃ us : List ClW, us.map (·.1) = ms ∧ ClmU lo hi w v us
theorem fit_mdA {ms : List Clm} : Fit (MdA ms) (SlF ms.length) := ⟨fun _ _ _ _ _ ⟨us, h1, h2⟩ hb => ⟨us, h1, h2.1.below hb (Nat.le_refl _), fun x hx => Rd.below (h2.2 x hx) hb (Nat.le_refl _)⟩, fun _ => ⟨.slice none ms.length 0, none, 0, rfl⟩, fun _ _ _ _ ⟨us, h1, h2⟩ => by rw [← h1, List.length_map]; exact h2.len⟩
theorem en_attestor_attestorref21_Made : ∀ args w, (callFunc 29 args).run Tryd.prog w = .ok (.enter 29 args) w := enters_of Tryd.func29 (by kernel_rfl) rfl
set_option maxRecDepth 100000 in
set_option maxHeartbeats 2000000 in
theorem gProblem (q : Q21) (vT vL vC : Value) (w : World) (h : Q21S w.heap.size w q vT vL vC) :
    Calls Tryd.prog 8 #[qv21 vT vL vC q] w fun e w' => ∃ v1 v2 A cap us, e = .returned (.tuple #[v1, v2, .agg #[.int .u64 (fv q.r.a), .int .u64 (fv q.r.b), .slice A q.c.length cap]]) ∧ ExtS w.heap.size w'.heap.size w' v1 q.t ∧ ClmU w.heap.size w'.heap.size w' v2 us ∧ us.map (·.1) = q.l ∧ ExtS w.heap.size w'.heap.size w' (.slice A q.c.length cap) q.c ∧ Below w.heap.size w w' := by
  obtain ⟨AT, cT, rfl⟩ := h.T.1.len
  obtain ⟨AL, cL, rfl⟩ := h.L.1.len
  obtain ⟨AC, cC, rfl⟩ := h.C.1.len
  have hk : q.k ≤ 4 := by have := Nat.mod_lt q.N (show 0 < 5 by decide); unfold Q21.k; omega
  have hmod : Int.tmod (q.N : Int) 5 = (q.k : Int) := rfl
  have hn := h.n
  have H1 := Lib.hid (fun W (hW : Below w.heap.size w W) => rMade q.T q.k (by omega) (.slice AT q.T.length cT) w.heap.size W ⟨h.T.1.keep hW, h.T.2⟩ hW.size)
  have H2 := Lib.hid (fun W (hW : Below w.heap.size w W) => rMade21 q.L q.k 5 (by omega) (by decide) (.slice AL q.L.length cL) 0 w.heap.size W hW.size (h.L.keep hW) |>.mono fun e w' ⟨v, us, h1, h2, h3, h4⟩ => (⟨v, h1, ⟨us, h2, h3⟩, h4⟩ : RetR (MdA (mdB q.L q.k 5)) W e w'))
  have H3 := Lib.hid (fun W (hW : Below w.heap.size w W) => xMadeAll q.C q.k (by omega) (.slice AC q.C.length cC) w.heap.size W ⟨h.C.1.keep hW, h.C.2⟩ hW.size)
  have o1 := h.r1
  have o2 := h.r2
  clear h
  unfold qv21
  go_enter Tryd.func8, Tryd.ntmps8
  go_upto_region 1 with (fail)
  refine wp_stk2 fun W hB hz b1 b2 => ?_
  have e1 := b1.cell
  have hWs : W.heap.size = w.heap.size + 1 + 1 := hz.out
  clear hz
  go_upto_region 2 with (fail)
  have y1 := gw_blk b1
  clear e1
  refine wp_region_rg 20 [(3, Spec.rel (ExtA (mdT q.T (2 ^ q.k))) (SlF (mdT q.T (2 ^ q.k)).length)), (7, Spec.rel (MdA (mdB q.L q.k 5)) (SlF (mdB q.L q.k 5).length)), (11, Spec.val (.agg #[.int .u64 (fv (em q.R.1 q.R.2).a), .int .u64 (fv (em q.R.1 q.R.2).b)])), (16, Spec.rel (ExtA (madeAll q.C q.k)) (SlF (madeAll q.C q.k).length))] (by kernel_rfl) (by kernel_rfl) (by kernel_rfl) ⟨fit_ext, fit_mdA, fit_ext, trivial⟩ ?_
  refine rg_det rfl rfl rfl (fun K hK => ?_)
  go_big_quiet_op
  refine hK _ ?_; clear hK K
  refine rg_det rfl rfl rfl (fun K hK => ?_)
  go_big_quiet_op
  refine hK _ ?_; clear hK K
  refine rg_det rfl rfl rfl (fun K hK => ?_)
  go_big_quiet_op
  refine hK _ ?_; clear hK K
  refine rg_rel rfl rfl (fun W1 hW1 hF => step_callr en_attestor_attestorref05_Made (H1.out W1 (hB.trans ((grw_below hW1).mono hB.size))) rfl rfl) ?_
  intro n3 m3 v3 hn3 hm3 hd3 hf3 a' ha
  simp only [Act.put, List.setIfInBounds_toArray, List.set_cons_succ, List.set_cons_zero] at ha
  subst ha
  obtain ⟨A3, cap3, rfl⟩ := hf3
  refine rg_det rfl rfl rfl (fun K hK => ?_)
  go_big_quiet_op
  refine hK _ ?_; clear hK K
  refine rg_det rfl rfl rfl (fun K hK => ?_)
  go_big_quiet_op
  refine hK _ ?_; clear hK K
  refine rg_det rfl rfl rfl (fun K hK => ?_)
  go_big_quiet_op
  refine hK _ ?_; clear hK K
  refine rg_rel rfl rfl (fun W1 hW1 hF => step_callr en_attestor_attestorref21_Made (H2.out W1 (hB.trans ((grw_below hW1).mono hB.size))) rfl rfl) ?_
  intro n7 m7 v7 hn7 hm7 hd7 hf7 a' ha
  simp only [Act.put, List.setIfInBounds_toArray, List.set_cons_succ, List.set_cons_zero] at ha
  subst ha
  obtain ⟨A7, cap7, rfl⟩ := hf7
  refine rg_det rfl rfl rfl (fun K hK => ?_)
  go_big_quiet_op
  refine hK _ ?_; clear hK K
  refine rg_det rfl rfl rfl (fun K hK => ?_)
  go_big_quiet_op
  refine hK _ ?_; clear hK K
  refine rg_det rfl rfl rfl (fun K hK => ?_)
  go_big_quiet_op
  refine hK _ ?_; clear hK K
  refine rg_val rfl rfl (fun W1 hW1 hF => step_callv en_attestor_attestorref02_Made (xMade q.R.1 q.R.2 o1.1 o1.2 o2.1 o2.2 W1) rfl rfl) ?_
  intro a' ha
  simp only [Act.put, List.setIfInBounds_toArray, List.set_cons_succ, List.set_cons_zero] at ha
  subst ha
  refine rg_det rfl rfl rfl (fun K hK => ?_)
  go_big_quiet_op
  refine hK _ ?_; clear hK K
  refine rg_det rfl rfl rfl (fun K hK => ?_)
  go_big_quiet_op
  refine hK _ ?_; clear hK K
  refine rg_det rfl rfl rfl (fun K hK => ?_)
  go_big_quiet_op
  refine hK _ ?_; clear hK K
  refine rg_det rfl rfl rfl (fun K hK => ?_)
  go_big_quiet_op
  refine hK _ ?_; clear hK K
  refine rg_rel rfl rfl (fun W1 hW1 hF => step_callr en_attestor_attestorref02_MadeAll (H3.out W1 (hB.trans ((grw_below hW1).mono hB.size))) rfl rfl) ?_
  intro n16 m16 v16 hn16 hm16 hd16 hf16 a' ha
  simp only [Act.put, List.setIfInBounds_toArray, List.set_cons_succ, List.set_cons_zero] at ha
  subst ha
  obtain ⟨A16, cap16, rfl⟩ := hf16
  refine rg_det rfl rfl rfl (fun K hK => ?_)
  go_big_quiet_op
  refine hK _ ?_; clear hK K
  refine rg_det rfl rfl rfl (fun K hK => ?_)
  go_big_quiet_op
  refine hK _ ?_; clear hK K
  refine rg_det rfl rfl rfl (fun K hK => ?_)
  go_big_quiet_op
  refine hK _ ?_; clear hK K
  refine rg_nil (fun w' hw' hF => ?_)
  obtain ⟨z, rfl⟩ := hw'
  simp only [List.drop_succ_cons, List.drop_zero]
  obtain ⟨h3m, E3⟩ := end_last (end_init (end_init hF))
  obtain ⟨h7m, us, hus, E7⟩ := end_last (end_init hF)
  obtain ⟨h16m, E16⟩ := end_last hF
  have E3 : ExtS n3 m3 z.w (.slice A3 (mdT q.T (2 ^ q.k)).length cap3) (mdT q.T (2 ^ q.k)) := E3
  have E16 : ExtS n16 m16 z.w (.slice A16 (madeAll q.C q.k).length cap16) (madeAll q.C q.k) := E16
  have b2z := b2.gw z
  have e1 := b2z.cell
  have e2 := b2z.frozen
  have hzs := z.h.size
  have hBz := hB.trans (z.h.mono hB.size)
  have HE := Lib.hid (And.intro E3 (And.intro E7 E16))
  have HU := Lib.hid hus
  have hw1 : w.heap.size + 1 < n3 ∧ w.heap.size + 1 < n7 ∧ w.heap.size + 1 < n16 := by omega
  clear hF y1 hd3 hd7 hd16 E3 E7 E16 hus
  go_wp2_with fail
  obtain ⟨x, hx⟩ : ∃ x, x = em q.R.1 q.R.2 := ⟨_, rfl⟩
  have HQ : q.r = x := hx.symm
  rw [← hx]
  obtain ⟨Z, hZ⟩ : ∃ Z, (((z.w.setCell ⟨w.heap.size + 1, 0, none⟩ (.int .u64 (fv x.a))).setCell ⟨w.heap.size + 1, 1, none⟩ (.int .u64 (fv x.b))).setCell ⟨w.heap.size + 1, 2, none⟩ (.slice A16 (madeAll q.C q.k).length cap16)) = Z := ⟨_, rfl⟩
  rw [hZ]
  have hp : Put z.w Z (w.heap.size + 1) := by rw [← hZ]; exact ((Put.set _ _ _ _).trans (Put.set _ _ _ _)).trans (Put.set _ _ _ _)
  have bZ : Blk Z (w.heap.size + 1) 28 #[.int .u64 (fv x.a), .int .u64 (fv x.b), .slice A16 (madeAll q.C q.k).length cap16] := by rw [← hZ]; exact ((b2z.set_ 0 _).set_ 1 _).set_ 2 _
  have f1 := bZ.cell
  have hs := hp.size
  have ko : ∀ {lo hi size n : Nat} {v : Value} {cs : List Value}, Rd lo hi size z.w v n cs → w.heap.size + 1 < lo → hi ≤ z.w.heap.size → Rd w.heap.size Z.heap.size size Z v n cs := fun h h1 h2 => (h.other (by omega) fun g h3 h4 _ => hp.other g (by omega)).wide (by omega) (by omega)
  clear hZ hx
  refine bodyPost_ret (v := .tuple #[.slice A3 (mdT q.T (2 ^ q.k)).length cap3, .slice A7 (mdB q.L q.k 5).length cap7, .agg #[.int .u64 (fv x.a), .int .u64 (fv x.b), .slice A16 (madeAll q.C q.k).length cap16]]) (by simp [results, Tryd.results8, go_sem, f1]) rfl ?_
  rw [← HQ]
  exact ⟨_, _, A16, cap16, us, rfl, ko HE.out.1 hw1.1 h3m, ⟨ko HE.out.2.1.1 hw1.2.1 h7m, fun y hy => ko (HE.out.2.1.2 y hy) hw1.2.1 h7m⟩, HU.out, ko HE.out.2.2 hw1.2.2 h16m, below_put hBz hp (by omega)⟩
end Go.Proofs.YtipaecageimnnaaDoor
