/-
  value and Weight of package batch, by contract.
  Sum of package batch, by contract.
  Prove and Verify of package batch, by contract.
  Verify of package batch, by contract.
-/
import Derived.Test.YtkgglhakimkkhaaGreatDoorMr3
import Derived.Test.YtkgglhakimkkhaaGreatDoorMm1
import Derived.Test.YtkgglhakimkkhaaGreatDoorSeqW
import Derived.Test.YtkgglhakimkkhaaGreatDoorVf2
import Derived.Test.YtkgglhakimkkhaaGreatDoorGb2
namespace Go.Proofs.YtkgglhakimkkhaaGreatDoor
open Go.RowKit

set_option maxRecDepth 100000 in
set_option maxHeartbeats 400000 in
theorem gValueC (x : ClW) (w : World) : Calls Tryz.prog 73 #[clV x] w (Ret (ev x.1.v) w) := by
  unfold clV clc ptV ev
  go_enter Tryz.func73, Tryz.ntmps73
  go_upto_region 1 with (fail)
  refine wp_stk2 fun W hB hz b1 b2 => ?_
  have e1 := b1.cell
  have e2 := b2.cell
  have e3 := b2.frozen
  clear hz
  go_wp2_with fail
  refine set2 (M := fun W => bodyPost _ _ _ _ _ W) b2 fun X2 hp bo => ?_
  have f1 := bo.cell
  refine bodyPost_ret (v := .agg #[.int .u64 (fv (x.1.v).a), .int .u64 (fv (x.1.v).b)]) (by simp [results, Tryz.results73, go_sem, f1]) rfl ⟨rfl, ?_⟩
  exact below_put hB hp (by omega)
set_option maxRecDepth 100000 in
set_option maxHeartbeats 4000000 in
theorem gWeightC (x : ClW) (p : List E) (bx : Nat) (vp : Value) (lo hi lo2 hi2 : Nat) (w : World) (hx : ExtS lo hi w (ptV x) x.1.p) (hp : ExtS lo2 hi2 w vp p) (hl : p.length = x.1.p.length) (hL : Laid w) (hb : bx < w.heap.size) (hc : w.cell? ⟨bx, 0, none⟩ = some vp) :
    Calls Tryz.prog 44 #[clV x, .pointer (some ⟨bx, 0, none⟩)] w (Ret (ev (pfac x.1.p p x.1.p.length)) w) := by
  obtain ⟨Ap, capp, rfl⟩ := Rd.len hp
  have HG := Lib.hid (fun W (hW : Below w.heap.size w W) => gEq x.1.p p hl _ _ _ _ _ _ W (Rd.keep hx hW) (Rd.keep hp hW) (hL.keep hW))
  clear hx hp hl hL
  obtain ⟨⟨xp, xv⟩, Ax, cx⟩ := x
  dsimp only at HG ⊢
  generalize pfac xp p xp.length = y at *
  unfold clV clc ptV ev
  unfold ptV ev at HG
  dsimp only at HG ⊢
  generalize xp.length = m at *
  go_enter Tryz.func44, Tryz.ntmps44
  go_upto_region 1 with (fail)
  refine wp_stk2 fun W hB hz b1 b2 => ?_
  have e1 := b1.cell
  have e4 := (hB.cell (p := ⟨bx, 0, none⟩) hb).trans hc
  clear hz hc
  go_wp2_with fail
  refine (HG.out W hB).mono ?_
  rintro e w2 ⟨he, hb2⟩
  subst he
  have b22 := b2.keep hb2
  have hB2 := hB.trans (hb2.mono hB.size)
  clear e1 e4
  have e2 := b22.cell
  have e3 := b22.frozen
  go_wp2_with fail
  refine set2 (M := fun W => bodyPost _ _ _ _ _ W) b22 fun X2 hp bo => ?_
  have f1 := bo.cell
  refine bodyPost_ret (v := .agg #[.int .u64 (fv (y).a), .int .u64 (fv (y).b)]) (by simp [results, Tryz.results44, go_sem, f1]) rfl ⟨rfl, ?_⟩
  exact below_put hB2 hp (by omega)
set_option maxRecDepth 100000 in
set_option maxHeartbeats 1000000 in
theorem gValueB (cs : List ClW) (r : E) (vl : Value) (lo hi : Nat) (w : World) (hhi : hi ≤ w.heap.size) (hcs : ClmU lo hi w vl cs) :
    Calls Tryz.prog 34 #[vl, ev r] w (Ret (ev (cmbE (fun c => c.v) (pwL r 1 cs))) w) := by
  obtain ⟨A, cap, rfl⟩ := hcs.len
  have HG := Lib.hid (fun W hW => gCombine (fun c => c.v) 73 [] (enters_of Tryz.func73 (by kernel_rfl) rfl) cs r (.slice A cs.length cap) lo hi W (Nat.le_trans hhi hW.size) (hcs.keep hW) (fun x hx W1 hW => gValueC x W1))
  generalize cmbE (fun c => c.v) (pwL r 1 cs) = y at *
  unfold ev
  go_enter Tryz.func34, Tryz.ntmps34
  go_upto_region 1 with (fail)
  refine wp_stk2 fun W hB hz b1 b2 => ?_
  have e1 := b1.cell
  clear hz
  go_wp2_with fail
  refine (HG.out W hB).mono ?_
  rintro e w2 ⟨he, hb2⟩
  unfold ev at he
  subst he
  have b22 := b2.keep hb2
  have hB2 := hB.trans (hb2.mono hB.size)
  clear e1
  have e2 := b22.cell
  have e3 := b22.frozen
  go_wp2_with fail
  refine set2 (M := fun W => bodyPost _ _ _ _ _ W) b22 fun X2 hp bo => ?_
  have f1 := bo.cell
  refine bodyPost_ret (v := .agg #[.int .u64 (fv (y).a), .int .u64 (fv (y).b)]) (by simp [results, Tryz.results34, go_sem, f1]) rfl ⟨rfl, ?_⟩
  exact below_put hB2 hp (by omega)
def wgtC (cs : List ClW) (r : E) (p : List E) : E := cmbE (fun c => pfac c.p p c.p.length) (pwL r 1 cs)
set_option maxRecDepth 100000 in
set_option maxHeartbeats 1000000 in
theorem gWeightB (cs : List ClW) (r : E) (p : List E) (vl vp : Value) (lo hi lo2 hi2 : Nat) (w : World) (hhi : hi ≤ w.heap.size) (hcs : ClmU lo hi w vl cs) (hp : ExtS lo2 hi2 w vp p) (hl : ∀ x ∈ cs, p.length = x.1.p.length) (hL : Laid w) :
    Calls Tryz.prog 13 #[vl, ev r, vp] w (Ret (ev (wgtC cs r p)) w) := by
  obtain ⟨A, cap, rfl⟩ := hcs.len
  obtain ⟨Ap, capp, rfl⟩ := Rd.len hp
  have HLn := Lib.hid hl
  have HL := Lib.hid hL
  have HC := Lib.hid hcs
  have HG := Lib.hid (fun W (hB : Below w.heap.size w W) bx (hbx : bx < W.heap.size) (hc : W.cell? ⟨bx, 0, none⟩ = some (.slice Ap p.length capp)) => gCombine (fun c => pfac c.p p c.p.length) 44 [.pointer (some ⟨bx, 0, none⟩)] (enters_of Tryz.func44 (by kernel_rfl) rfl) cs r (.slice A cs.length cap) lo hi W (Nat.le_trans hhi hB.size) (HC.out.keep hB) (fun x hx W1 hW => gWeightC x p bx _ lo hi lo2 hi2 W1 (Rd.keep (Rd.keep (HC.out.2 x hx) hB) hW) (Rd.keep (Rd.keep hp hB) hW) (HLn.out x hx) ((HL.out.keep hB).keep hW) (Nat.lt_of_lt_of_le hbx hW.size) ((hW.cell (p := ⟨bx, 0, none⟩) hbx).trans hc)))
  unfold wgtC
  generalize cmbE (fun c => pfac c.p p c.p.length) (pwL r 1 cs) = y at *
  clear hl hL
  unfold ev
  go_enter Tryz.func13, Tryz.ntmps13
  go_upto_region 1 with (fail)
  refine wp_stk3 fun W hB hz b1 b5 b2 => ?_
  have e1 := b1.cell
  clear hz
  go_wp2_with fail
  refine (HG.out W hB _ b5.lt (b5.cell 0)).mono ?_
  rintro e w2 ⟨he, hb2⟩
  unfold ev at he
  subst he
  have b22 := b2.keep hb2
  have hB2 := hB.trans (hb2.mono hB.size)
  clear e1
  have e2 := b22.cell
  have e3 := b22.frozen
  go_wp2_with fail
  refine set2 (M := fun W => bodyPost _ _ _ _ _ W) b22 fun X2 hp bo => ?_
  have f1 := bo.cell
  refine bodyPost_ret (v := .agg #[.int .u64 (fv (y).a), .int .u64 (fv (y).b)]) (by simp [results, Tryz.results13, go_sem, f1]) rfl ⟨rfl, ?_⟩
  exact below_put hB2 hp (by omega)
end Go.Proofs.YtkgglhakimkkhaaGreatDoor
namespace Go.Proofs.YtkgglhakimkkhaaGreatDoor
open Go.RowKit

def accB (n : Nat) (xs : List (E × ClW)) : List E := (List.range n).map fun i => cmbE (fun c => eqi i c.p) xs
theorem accB_len (n : Nat) (xs : List (E × ClW)) : (accB n xs).length = n := by simp [accB]
theorem accB_nil (n : Nat) : accB n [] = List.replicate n 0 := by
  have : ∀ i, cmbE (fun c => eqi i c.p) [] = 0 := fun i => rfl
  simp [accB, this, List.map_const']
theorem accB_mix (n : Nat) (xs : List (E × ClW)) (x : E × ClW) : mixL n (fun i => cmbE (fun c => eqi i c.p) xs + x.1 * eqi i x.2.1.p) (fun i => cmbE (fun c => eqi i c.p) xs) n = accB n (xs ++ [x]) := by
  rw [mixL_all]
  unfold accB
  exact List.map_congr_left fun i _ => (cmbE_snoc (fun c => eqi i c.p) xs x).symm
theorem en_attestor_batch_value : ∀ args w, (callFunc 34 args).run Tryz.prog w = .ok (.enter 34 args) w := enters_of Tryz.func34 (by kernel_rfl) rfl
def trmB : List Trm := [⟨1, [0, 1]⟩]
theorem rd_blkB {W : World} {g size : Nat} {t : TypeId} {cs : List Value} {n lo hi : Nat} (h : Blk W g t cs.toArray) (hn : cs.length = n * size) (hb : n ≤ 1000000) (hlo : lo ≤ g) (hhi : g < hi) : Rd lo hi size W (.slice (some ⟨g, 0, none⟩) n n) n cs := by
  refine ⟨hn, by omega, some ⟨g, 0, none⟩, n, rfl, Nat.le_refl _, fun _ => ⟨g, 0, rfl, hlo, hhi, h.lt, fun j u hu => ?_⟩⟩
  rw [Nat.zero_add, h.cell]
  simpa using hu
theorem sumB_end {W : World} {g1 g2 g3 g4 lo hi : Nat} {t1 t2 t3 t4 : TypeId} {T a : List E} {vT : Value} (hT : ExtS lo hi W vT T) (hhi : hi ≤ W.heap.size) (ha : a.length ≤ 1000000)
    (h1 : Blk W g1 t1 #[vT, .slice (some ⟨g2, 0, none⟩) a.length a.length]) (h2 : Blk W g2 t2 (a.flatMap ec).toArray) (h3 : Blk W g3 t3 #[.int .i64 0, .int .i64 1])
    (h4 : Blk W g4 t4 #[.int .u64 (fv (1 : E).a), .int .u64 (fv (1 : E).b), .slice (some ⟨g3, 0, none⟩) 2 2]) : SumS 0 W.heap.size W (.slice (some ⟨g1, 0, none⟩) 2 2) (.slice (some ⟨g4, 0, none⟩) 1 1) [T, a] trmB := by
  refine ⟨⟨[vT, .slice (some ⟨g2, 0, none⟩) a.length a.length], rfl, rd_blkB h1 rfl (by decide) (Nat.zero_le _) h1.lt, fun k u t hu ht => ?_⟩, ⟨[.slice (some ⟨g3, 0, none⟩) 2 2], rfl, rd_blkB h4 rfl (by decide) (Nat.zero_le _) h4.lt, fun k u p hu hp => ?_⟩, ?_, by decide, ?_⟩
  · rcases k with _ | _ | k
    · cases hu; cases ht; exact Rd.wide hT (Nat.zero_le _) hhi
    · cases hu; cases ht; exact rd_blkB h2 (flat_length ec_len _) ha (Nat.zero_le _) h2.lt
    · simp at hu
  · rcases k with _ | k
    · cases hu; cases hp; exact rd_blkB h3 rfl (by decide) (Nat.zero_le _) h3.lt
    · simp at hu
  · intro p hp k hk
    simp only [trmB, List.mem_singleton] at hp
    subst hp
    simp at hk
    simp; omega
  · intro p hp
    simp only [trmB, List.mem_singleton] at hp
    subst hp
    decide
attribute [local go_sem] Oper.semAt_some
set_option maxRecDepth 100000 in
set_option maxHeartbeats 4000000 in
theorem gSumB (T : List E) (cs : List ClW) (r : E) (vt vl : Value) (lo hi lo2 hi2 : Nat) (w : World) (hhi : hi ≤ w.heap.size) (hhi2 : hi2 ≤ w.heap.size) (hT : ExtS lo2 hi2 w vt T) (hcs : ClmU lo hi w vl cs) (hT0 : 0 < T.length) (hTl : T.length ≤ 262144) (hpl : ∀ x ∈ cs, 2 ^ x.1.p.length = T.length) (hLd : Laid w) :
    Calls Tryz.prog 6 #[vt, vl, ev r] w fun e w' => ∃ v1 v2, e = .returned (.tuple #[sv v1 v2, ev (cmbE (fun c => c.v) (pwL r 1 cs))]) ∧ SumS 0 w'.heap.size w' v1 v2 [T, accB T.length (pwL r 1 cs)] trmB ∧ Below w.heap.size w w' := by
  obtain ⟨A, cap, rfl⟩ := hcs.len
  obtain ⟨AT, capT, rfl⟩ := Rd.len hT
  have HC := Lib.hid hcs
  have HPL := Lib.hid hpl
  have HT := Lib.hid hT
  obtain ⟨L, hL⟩ : ∃ L, L = cs.length := ⟨_, rfl⟩
  rw [← hL] at HC ⊢
  obtain ⟨N, hN⟩ : ∃ N, N = T.length := ⟨_, rfl⟩
  rw [← hN] at HPL HT hT0 hTl ⊢
  obtain ⟨xs, hxs⟩ : ∃ xs, xs = pwL r 1 cs := ⟨_, rfl⟩
  have HXS := Lib.hid hxs
  rw [← hxs]
  have HLn := Lib.hid hL
  have HN := Lib.hid hN
  clear hcs hpl hL hxs hT hN
  refine (callsIn_wide (n := 3)).1 ?_
  refine callsIn_of_wp_marks Tryz.func6 rfl trivial ?_ rfl
  unfold ev sv
  simp only [Tryz.ntmps6, List.size_toArray, List.length_cons, List.length_nil, Nat.reduceAdd, Nat.reduceSub, Array.replicate_succ, Array.replicate_zero, List.push_toArray, List.append_toArray, List.nil_append, List.cons_append]
  have mk := mk_ext N (by omega)
  gi_upto_region 2 with (fail)
  refine stk5 (M := fun W => Code.wpIn _ _ _ _ _ _ W) fun W hB hz b1 b2 b3 b4 b5 => ?_
  have hW : W.heap.size = w.heap.size + 1 + 1 + 1 + 1 + 1 := hz.out
  clear hz mk
  have e1 := b1.cell
  gi_wp2_with fail
  refine ⟨trivial, (callsIn_wide.2 (gPowers A L cap r W)).mono ?_⟩
  rintro e w2 ⟨rfl, rfl⟩
  clear e1
  gi_wp2_with fail
  refine stk2 (M := fun W => Code.wpIn _ _ _ _ _ _ W) fun X hBX hzX c1 c2 => ?_
  have hX : X.heap.size = W.heap.size + 1 + 1 := hzX.out
  have b1X := b1.keep hBX
  have b2X := b2.keep hBX
  have b3X := b3.keep hBX
  have b4X := b4.keep hBX
  have b5X := b5.keep hBX
  have hBw := hB.trans (hBX.mono hB.size)
  have HC2 := Lib.hid ((HC.out.keep hBw).wide (Nat.le_refl _) hhi)
  rw [hW] at *
  clear b1 b2 b3 b4 b5 hBX hB hzX
  refine wpIn_seqO (S0 := StP w.heap.size (w.heap.size + 5)) (wPowers cs r w.heap.size (w.heap.size + 5) lo (.slice A L cap) 2 (by decide) X HC2.out (by omega) c1 c2) (Below.refl _ _) (by decide) rfl (enters_of Tryz.func65 (by kernel_rfl) rfl) (fun g hg => by unfold StP at hg; omega)
    (fun pre V => Blk V (w.heap.size + 3) 26 ((accB N pre).flatMap ec).toArray ∧ Blk V (w.heap.size + 4) 22 #[.slice (some ⟨w.heap.size + 3, 0, none⟩) N N] ∧ Blk V w.heap.size 26 #[.int .u64 (fv r.a), .int .u64 (fv r.b)] ∧ Blk V (w.heap.size + 1) 37 #[.slice none 0 0, .slice none 0 0] ∧ Blk V (w.heap.size + 2) 26 #[.int .u64 0, .int .u64 0] ∧ Below w.heap.size w V ∧ X.heap.size ≤ V.heap.size)
    ?hI1 ?hI2 ?hI3 ?h0 9 26 (fun x => #[.int .u64 (fv x.1.a), .int .u64 (fv x.1.b)]) 10 42 (fun x => (clc x.2).toArray) ?assign ?body ?done
  case hI1 => exact fun s A B ⟨h1, h2, h3, h4, h5, h6, h7⟩ hb => ⟨h1.keep hb, h2.keep hb, h3.keep hb, h4.keep hb, h5.keep hb, h6.trans (hb.mono h6.size), Nat.le_trans h7 hb.size⟩
  case hI2 => exact fun s A B g hg ⟨h1, h2, h3, h4, h5, h6, h7⟩ hp => ⟨hp.blk h1 (by omega), hp.blk h2 (by omega), hp.blk h3 (by omega), hp.blk h4 (by omega), hp.blk h5 (by omega), below_put h6 hp (by omega), by rw [hp.size]; exact h7⟩
  case hI3 => exact fun s V l o hl ⟨h1, h2, h3, h4, h5, h6, h7⟩ => ⟨(World.putObj_heap_other (by omega)).trans h1, (World.putObj_heap_other (by omega)).trans h2, (World.putObj_heap_other (by omega)).trans h3, (World.putObj_heap_other (by omega)).trans h4, (World.putObj_heap_other (by omega)).trans h5, below_putObj h6 l o (by omega), by simpa using h7⟩
  case h0 => exact ⟨by rw [accB_nil]; exact b4X, b5X, b1X, b2X, b3X, hBw, Nat.le_refl _⟩
  case assign =>
    intro l x V K hK
    simp only [boxAct, ev, clV, clc, ptV, List.setIfInBounds_toArray, List.set_cons_succ, List.set_cons_zero] at hK ⊢
    gi_wp2_with fail
    exact hK _ _ rfl rfl
  case body =>
    rintro l pre x Bx V a' rfl ⟨q1, q2, q3, q4, q5, q6, q7⟩ hBx bX bY ⟨rest, hrest⟩
    have hmem : x.2 ∈ cs := pwL_mem r _ _ x (by rw [hrest]; simp)
    have hpx := HPL.out x.2 hmem
    have hex := Rd.keep (HC.out.2 x.2 hmem) q6
    clear hrest
    obtain ⟨xr, ⟨xp, xv⟩, Ax, cx⟩ := x
    simp only [boxAct, ev, clV, clc, ptV, List.setIfInBounds_toArray, List.set_cons_succ, List.set_cons_zero] at bX bY hpx hex ⊢
    have f1 := bY.cell
    have hop := open_round (open_wide Tryz.prog) l
    gi_wp2_with fail
    have hxl : xp.length ≤ 18 := by
      refine Decidable.byContradiction fun hc => ?_
      have : 2 ^ 19 ≤ 2 ^ xp.length := Nat.pow_le_pow_right (by decide) (by omega)
      omega
    refine ⟨trivial, (CallsIn.inRound l (callsIn_wide.2 (wEqTable xp _ lo hi V hex (Nat.le_trans hhi q6.size) (hLd.keep q6) hxl))).mono ?_⟩
    rintro e w3 ⟨v3, rfl, hE3, hb3⟩
    have hE4 : ExtS V.heap.size w3.heap.size w3 v3 (tabE xp) := hE3
    clear hE3
    obtain ⟨g3, o3, cap3, rfl, -, hg3, -, hg3l, hc3⟩ := Rd.form hE4 (by rw [tabE_len, hpx]; exact hT0)
    rw [tabE_len, hpx]
    clear f1 hE4
    obtain ⟨f, hf⟩ : ∃ f : Nat → E, f = fun i => cmbE (fun c => eqi i c.p) pre := ⟨_, rfl⟩
    obtain ⟨f', hf'⟩ : ∃ f' : Nat → E, f' = fun i => f i + xr * eqi i xp := ⟨_, rfl⟩
    have q1' : Blk w3 (w.heap.size + 3) 26 ((mixL N f' f 0).flatMap ec).toArray := by
      rw [mixL_zero, hf]; exact q1.keep hb3
    have HEnd := Lib.hid (show mixL N f' f N = accB N (pre ++ [(xr, (⟨xp, xv⟩, (Ax, cx)))]) by rw [hf', hf]; exact accB_mix N pre (xr, (⟨xp, xv⟩, (Ax, cx))))
    have HG := Lib.hid (fun k (hk : k < N) => (tabE_get xp k (by omega) : (tabE xp)[k]? = some (eqi k xp)))
    have HF := Lib.hid (fun i => congrFun hf' i)
    clear hf hf'
    gi_wp2_with fail
    gi_loopw [26] (fun i wr => ∃ k : Nat, k ≤ N ∧ i = .int .i64 k ∧ Blk wr (w.heap.size + 3) 26 ((mixL N f' f k).flatMap ec).toArray ∧ KeepsOthers w3 wr ∧ Keeps (fun g => g ≠ w.heap.size + 3) w3 wr ∧ Below w.heap.size w3 wr) (fun i _ => N - (intOf i).toNat)
    case atStart => exact ⟨0, Nat.zero_le _, rfl, q1', KeepsOthers.refl _, ⟨Nat.le_refl _, fun _ _ _ => rfl⟩, Below.refl _ _⟩
    case round =>
      obtain ⟨k, hk, rfl, r1, r2, r3, r4⟩ := hrel
      by_cases hkN : k < N
      · have hlo := q1.lt
        have hlB := bX.lt
        have hl2 := q2.lt
        have hs3 := hb3.size
        have d0 := r3.cell (show g3 ≠ w.heap.size + 3 by omega) (hc3 (k * 2) _ (flat_get ec_len _ k 0 _ _ (HG.out k hkN) rfl))
        have d1 := r3.cell (show g3 ≠ w.heap.size + 3 by omega) (hc3 (k * 2 + 1) _ (flat_get ec_len _ k 1 _ _ (HG.out k hkN) rfl))
        rw [← Nat.add_assoc] at d1
        gi_upto_region 8 with (fail)
        refine stk1 (M := fun W => Code.wpIn _ _ _ _ _ _ W) fun Y hY hzY b6 => ?_
        have hYs : Y.heap.size = wr.heap.size + 1 := hzY.out
        have hsr := r3.size
        have kb : ∀ {g t cs}, Blk V g t cs → g ≠ w.heap.size + 3 → Blk Y g t cs := fun {g t cs} h hne => Blk.keep (show Blk wr g t cs from (r3.same _ hne (Nat.lt_of_lt_of_le h.lt hb3.size)).trans (h.keep hb3)) hY
        have bXY := kb bX (by omega)
        have q2Y := kb q2 (by omega)
        have r1Y := r1.keep hY
        obtain ⟨m1, m2⟩ := blk_cellE r1Y (mixL_get N f' f k hkN)
        have HS := Lib.hid (show (mixL N f' f k).set k (f k + xr * eqi k xp) = mixL N f' f (k + 1) by rw [← HF.out k]; exact mixL_set N f' f k)
        have hrY := r1Y.lt
        have y1 := gw_blk q2Y
        have y2 := gw_blk bXY
        have y3 := gw_blk b6
        have y4 := gw_cell r1Y.lt m1
        have y5 := gw_cell r1Y.lt m2
        clear hzY m1 m2 d0 d1 kb r1
        generalize f k = o at *
        generalize eqi k xp = yk at *
        have hop := open_round (open_wide Tryz.prog) l
        refine wpIn_region_rg hop 11 [(8, Spec.val (.agg #[.int .u64 (fv (xr * yk).a), .int .u64 (fv (xr * yk).b)])), (9, Spec.val (.agg #[.int .u64 (fv (o + xr * yk).a), .int .u64 (fv (o + xr * yk).b)]))] (by kernel_rfl) (by kernel_rfl) (by kernel_rfl) trivial ?_
        iterate 8 (refine rg_det rfl rfl rfl (fun K hK => ?_); go_big_quiet_op; refine hK _ ?_; clear hK K)
        refine rg_val rfl rfl (fun W1 hW1 hF => step_callv en_attestor_ext_Mul (eMul xr yk W1) rfl rfl) ?_
        intro a' ha
        simp only [Act.put, List.setIfInBounds_toArray, List.set_cons_succ, List.set_cons_zero] at ha
        subst ha
        refine rg_val rfl rfl (fun W1 hW1 hF => step_callv en_attestor_ext_Add (eAdd o (xr * yk) W1) rfl rfl) ?_
        intro a' ha
        simp only [Act.put, List.setIfInBounds_toArray, List.set_cons_succ, List.set_cons_zero] at ha
        subst ha
        refine rg_det rfl rfl rfl (fun K hK => ?_)
        go_big_quiet_op
        refine hK _ ?_; clear hK K
        refine rg_nil (fun w' hw' hF => ?_)
        obtain ⟨z, rfl⟩ := hw'
        simp only [List.drop_succ_cons, List.drop_zero]
        have r1z := r1Y.gw z
        have hzs := z.h.size
        have e4 := y4 z
        have e5 := y5 z
        have e6 := r1z.frozen
        clear hF y1 y2 y3 y4 y5
        gi_wp2_with fail
        have hBz : Below wr.heap.size wr z.w := hY.trans (z.h.mono hY.size)
        have hp : Put z.w ((z.w.setCell ⟨w.heap.size + 3, k * 2, none⟩ (.int .u64 (fv (o + xr * yk).a))).setCell ⟨w.heap.size + 3, k * 2 + 1, none⟩ (.int .u64 (fv (o + xr * yk).b))) (w.heap.size + 3) := (Put.set _ _ _ _).trans (Put.set _ _ _ _)
        refine ⟨⟨k + 1, by omega, by go_num, by rw [← HS.out]; exact blk_setE r1z k _ (by rw [mixL_len]; exact hkN), ((r2.trans (keepsOthers_of_below hBz)).trans (KeepsOthers.setCell _ _ _)).trans (KeepsOthers.setCell _ _ _), r3.trans ((Keeps.of_below hBz).trans ⟨by rw [hp.size]; exact Nat.le_refl _, fun g hg _ => hp.other g hg⟩), below_setE (r4.trans (hBz.mono (by omega))) (by omega)⟩, by simp [intOf]; omega⟩
      · obtain rfl : k = N := by omega
        gi_wp2_with fail
        have hk3 : Keeps (fun g => g ≠ w.heap.size + 3) V wr := (Keeps.of_below hb3).trans r3
        have hlo := q1.lt
        have hl2 := q2.lt
        have kb : ∀ {g t cs}, Blk V g t cs → g ≠ w.heap.size + 3 → Blk wr g t cs := fun h hne => (hk3.same _ hne h.lt).trans h
        have hsz := hk3.size
        refine ⟨(keepsOthers_of_below hb3).trans r2, ⟨hsz, fun g hg hl => hk3.same g (by unfold StP at hg; omega) hl⟩, by rw [← HEnd.out]; exact r1, kb q2 (by omega), kb q3 (by omega), kb q4 (by omega), kb q5 (by omega), q6.trans ((hb3.mono q6.size).trans r4), by omega⟩
  case done =>
    intro D V hD ⟨q1, q2, q3, q4, q5, q6, q7⟩ hK
    rw [← HXS.out] at q1
    gi_wp2_with fail
    refine ⟨trivial, (callsIn_wide.2 (show Calls Tryz.prog 33 #[.int .i64 1] V (Ret (ev 1) V) from eFromInt 1 (by decide) (by decide) V)).mono ?_⟩
    rintro e w4 ⟨he, hb4⟩
    unfold ev at he
    subst he
    have q1w := q1.keep hb4
    have q2w := q2.keep hb4
    have q3w := q3.keep hb4
    have q4w := q4.keep hb4
    have q5w := q5.keep hb4
    have hB4 := q6.trans (hb4.mono q6.size)
    have hKw : w4.heap[D]? = some (.deferred (some [])) := (hb4.block D (Array.getElem?_eq_some_iff.1 hK).1).trans hK
    have hs4 := hb4.size
    have hDV : D < V.heap.size := (Array.getElem?_eq_some_iff.1 hK).1
    clear q1 q2 q3 q4 q5 hK
    gi_upto_region 11 with (fail)
    refine stk2 (M := fun W => Code.wpIn _ _ _ _ _ _ W) fun Z hBZ hzZ t1 t2 => ?_
    have hZs : Z.heap.size = w4.heap.size + 1 + 1 := hzZ.out
    have q1Z := q1w.keep hBZ
    have q2Z := q2w.keep hBZ
    have q3Z := q3w.keep hBZ
    have q4Z := q4w.keep hBZ
    have q5Z := q5w.keep hBZ
    have hB5 := hB4.trans (hBZ.mono hB4.size)
    have hKz : Z.heap[D]? = some (.deferred (some [])) := (hBZ.block D (Array.getElem?_eq_some_iff.1 hKw).1).trans hKw
    clear hzZ q1w q2w q3w q4w q5w hKw
    have y1 := gw_blk q2Z
    have y2 := gw_blk q3Z
    have hV := Lib.hid (fun W1 (hW1 : Grw Z W1) => gValueB cs r (.slice A cs.length cap) lo hi W1 (Nat.le_trans hhi (hB5.trans ((grw_below hW1).mono hB5.size)).size) (ClmU.keep (HLn.out ▸ HC.out) (hB5.trans ((grw_below hW1).mono hB5.size))))
    rw [← HXS.out, ← HLn.out] at hV
    have hop := open_wide Tryz.prog
    obtain ⟨is, hs0, hsz0, hsz1, hsz2⟩ := info_parts sl_info
    obtain ⟨y, hy⟩ : ∃ y, y = cmbE (fun c => c.v) xs := ⟨_, rfl⟩
    have HY := Lib.hid hy
    rw [← hy] at hV
    clear hy
    refine wpIn_region_rg hop 8 [(2, Spec.rel (Lit 22 2 #[.slice AT N capT, .slice (some ⟨w.heap.size + 3, 0, none⟩) N N]) (LitF 2)), (7, Spec.val (.agg #[.int .u64 (fv (y).a), .int .u64 (fv (y).b)]))] (by kernel_rfl) (by kernel_rfl) (by kernel_rfl) ⟨fit_lit, trivial⟩ ?_
    iterate 2 (refine rg_det rfl rfl rfl (fun K hK => ?_); go_big_quiet_op; refine hK _ ?_; clear hK K)
    refine rg_rel rfl rfl (fun W1 hW1 hF => step_litF (parts := [(0, Operand.tmp 47), (1, Operand.tmp 48)]) (vs := [.slice AT N capT, .slice (some ⟨w.heap.size + 3, 0, none⟩) N N]) Tryz.underlying31 hs0 hsz0 hsz1 rfl (by decide) (by decide) rfl rfl (by simp [Value.cells])) ?_
    intro n2 m2 v2 hn2 hm2 hd2 hf2 a' ha
    simp only [Act.put, List.setIfInBounds_toArray, List.set_cons_succ, List.set_cons_zero] at ha
    subst ha
    obtain rfl := hf2
    iterate 4 (refine rg_det rfl rfl rfl (fun K hK => ?_); go_big_quiet_op; refine hK _ ?_; clear hK K)
    refine rg_val rfl rfl (fun W1 hW1 hF => step_callv en_attestor_batch_value (hV.out W1 hW1) rfl rfl) ?_
    intro a' ha
    simp only [Act.put, List.setIfInBounds_toArray, List.set_cons_succ, List.set_cons_zero] at ha
    subst ha
    refine rg_nil (fun w' hw' hF => ?_)
    obtain ⟨z, rfl⟩ := hw'
    simp only [List.drop_succ_cons, List.drop_zero]
    obtain ⟨hm9, -, hlt9, b9⟩ := end_last hF
    have q1z := q1Z.gw z
    have q4z := q4Z.gw z
    have q5z := q5Z.gw z
    have t1z := t1.gw z
    have t2z := t2.gw z
    have hzs := z.h.size
    have e1 := q4z.cell
    have e2 := q4z.frozen
    have e3 := q5z.cell
    have e4 := q5z.frozen
    have hKz2 : z.w.heap[D]? = some (.deferred (some [])) := (z.h.block D (Array.getElem?_eq_some_iff.1 hKz).1).trans hKz
    clear hF y1 y2
    have hzs4 := hBZ.size
    gi_wp2_with fail
    rw [← HY.out]
    obtain ⟨Z2, hZ2⟩ : ∃ Z2, ((((z.w.setCell ⟨w.heap.size + 1, 0, none⟩ (.slice (some ⟨n2, 0, none⟩) 2 2)).setCell ⟨w.heap.size + 1, 1, none⟩ (.slice (some ⟨w4.heap.size + 1, 0, none⟩) 1 1)).setCell ⟨w.heap.size + 1 + 1, 0, none⟩ (.int .u64 (fv y.a))).setCell ⟨w.heap.size + 1 + 1, 1, none⟩ (.int .u64 (fv y.b))) = Z2 := ⟨_, rfl⟩
    rw [hZ2]
    have bZ1 : Blk Z2 (w.heap.size + 1) 37 #[.slice (some ⟨n2, 0, none⟩) 2 2, .slice (some ⟨w4.heap.size + 1, 0, none⟩) 1 1] := by rw [← hZ2]; exact blk_far2 (blk_set2 q4z) (by omega)
    have hq : ∀ {g t cs}, Blk z.w g t cs → g ≠ w.heap.size + 1 → g ≠ w.heap.size + 1 + 1 → Blk Z2 g t cs := fun h n1 n2 => by rw [← hZ2]; exact blk_far2 (blk_far2 h n1) n2
    have bZ2 : Blk Z2 (w.heap.size + 1 + 1) 26 #[.int .u64 (fv y.a), .int .u64 (fv y.b)] := by rw [← hZ2]; exact blk_set2 (blk_far2 q5z (by omega))
    have hpa : Put z.w ((z.w.setCell ⟨w.heap.size + 1, 0, none⟩ (.slice (some ⟨n2, 0, none⟩) 2 2)).setCell ⟨w.heap.size + 1, 1, none⟩ (.slice (some ⟨w4.heap.size + 1, 0, none⟩) 1 1)) (w.heap.size + 1) := (Put.set _ _ _ _).trans (Put.set _ _ _ _)
    have hBz := hB5.trans (z.h.mono hB5.size)
    have hBZ2 : Below w.heap.size w Z2 := by rw [← hZ2]; exact below_put (below_put hBz hpa (by omega)) ((Put.set _ _ _ _).trans (Put.set _ _ _ _)) (by omega)
    have r1 := hq q1z (by omega) (by omega)
    have r9 := hq b9 (by omega) (by omega)
    have s1 := hq t1z (by omega) (by omega)
    have s2 := hq t2z (by omega) (by omega)
    have hKZ : Z2.heap[D]? = some (.deferred (some [])) := by rw [← hZ2]; exact (((Put.set _ _ _ _).trans (Put.set _ _ _ _) : Put _ _ (w.heap.size + 1 + 1)).other D (by omega)).trans ((hpa.other D (by omega)).trans hKz2)
    clear e1 e2 e3 e4 hpa hZ2 q4z q5z q1z b9 t1z t2z
    refine ⟨by simp, .inl ⟨_, _, rfl, run_takeDeferred hKZ, ?_⟩⟩
    have pO : ∀ {g t cs}, Blk Z2 g t cs → g ≠ D → Blk (Z2.putObj D (.deferred none)) g t cs := fun h hne => (World.putObj_heap_other hne).trans h
    have e4 := (pO bZ1 (by omega)).cell
    have e5 := (pO bZ2 (by omega)).cell
    refine ⟨.tuple #[.agg #[.slice (some ⟨n2, 0, none⟩) 2 2, .slice (some ⟨w4.heap.size + 1, 0, none⟩) 1 1], .agg #[.int .u64 (fv y.a), .int .u64 (fv y.b)]], ?_, ?_⟩
    · simp [results, Tryz.results6, go_sem, e4, e5]
    · have hBf := below_putObj hBZ2 D (.deferred none) (by omega)
      refine ⟨_, _, rfl, sumB_end (Rd.keep HT.out hBf) (Nat.le_trans hhi2 hBf.size) (by rw [accB_len]; omega) (by rw [accB_len]; exact pO r9 (by omega)) (pO r1 (by omega)) (pO s1 (by omega)) (pO s2 (by omega)), hBf⟩
end Go.Proofs.YtkgglhakimkkhaaGreatDoor
namespace Go.Proofs.YtkgglhakimkkhaaGreatDoor
open Go.RowKit

def fdV (r : E) (cs : List E) (A : Option Addr) (cap : Nat) : Value := .agg #[.int .u64 (fv r.a), .int .u64 (fv r.b), .slice A cs.length cap]
def tabB (T : List E) (cs : List ClW) (r : E) : List (List E) := [T, accB T.length (pwL r 1 cs)]
theorem tabB_all (T : List E) (cs : List ClW) (r : E) : AllLen (tabB T cs r) T.length := by
  intro t ht
  simp only [tabB, List.mem_cons, List.not_mem_nil, or_false] at ht
  rcases ht with rfl | rfl
  · rfl
  · exact accB_len _ _
theorem two_of : ∀ l : List E, l.length = 2 → ∃ x y, l = [x, y]
  | [a, b], _ => ⟨a, b, rfl⟩
set_option maxRecDepth 100000 in
set_option maxHeartbeats 4000000 in
theorem gProveB (T : List E) (cs : List ClW) (r : E) (coins : List E) (n : Nat) (hc : coins.length = n) (hn : n ≤ 16) (AC : Option Addr) (capC : Nat) (vt vl : Value) (lo hi lo2 hi2 lo3 hi3 : Nat) (w : World) (hhi : hi ≤ w.heap.size) (hhi2 : hi2 ≤ w.heap.size) (hT : ExtS lo2 hi2 w vt T) (hcs : ClmU lo hi w vl cs) (hcn : ExtS lo3 hi3 w (.slice AC coins.length capC) coins) (hTl : T.length = 2 ^ n) (hpl : ∀ x ∈ cs, 2 ^ x.1.p.length = T.length) (hLd : Laid w) :
    Calls Tryz.prog 8 #[vt, vl, fdV r coins AC capC] w fun e w' => ∃ v1, e = .returned (.tuple #[v1, clV (⟨coins, (prvV (tabB T cs r) coins).getD 0 0⟩, (AC, capC))]) ∧ TabS w.heap.size w'.heap.size w' v1 (prvR (tabB T cs r) trmB coins) ∧ Below w.heap.size w w' := by
  obtain ⟨A, cap, rfl⟩ := hcs.len
  obtain ⟨AT, capT, rfl⟩ := Rd.len hT
  have h2n : 2 ^ n ≤ 2 ^ 16 := Nat.pow_le_pow_right (by decide) hn
  have h2p : 0 < 2 ^ n := Nat.two_pow_pos n
  have HS := Lib.hid (fun W (hW : Below w.heap.size w W) => gSumB T cs r (.slice AT T.length capT) (.slice A cs.length cap) lo hi lo2 hi2 W (Nat.le_trans hhi hW.size) (Nat.le_trans hhi2 hW.size) (Rd.keep hT hW) (hcs.keep hW) (by omega) (by omega) hpl (hLd.keep hW))
  have HP := Lib.hid (fun W (hW : Below w.heap.size w W) v1 v2 (h : SumS 0 W.heap.size W v1 v2 (tabB T cs r) trmB) => gProve (tabB T cs r) trmB coins n hc hn (hTl ▸ tabB_all T cs r) (Nat.zero_lt_succ _) (show 2 ≤ 1000 by decide) v1 v2 (.slice AC coins.length capC) 0 W.heap.size lo3 hi3 W h (Rd.keep hcn hW))
  have HV := Lib.hid (show (prvV (tabB T cs r) coins).length = 2 by unfold prvV; rw [List.length_map, bndAll_length]; rfl)
  have HC := Lib.hid hcn
  clear hT hcs hcn hpl hLd
  unfold clV clc ptV fdV
  unfold ev sv at HS
  unfold sv at HP
  change Hid (∀ W (hW : Below w.heap.size w W), Calls _ _ _ _ (fun e w' => ∃ v1 v2, e = _ ∧ SumS 0 w'.heap.size w' v1 v2 (tabB T cs r) trmB ∧ _)) at HS
  generalize tabB T cs r = tb at *
  generalize cmbE (fun c => c.v) (pwL r 1 cs) = yv at *
  obtain ⟨vs, hvs⟩ : ∃ vs, vs = prvV tb coins := ⟨_, rfl⟩
  rw [← hvs] at HP HV ⊢
  clear hvs
  generalize prvR tb trmB coins = rs at *
  dsimp only
  obtain ⟨M, hM⟩ : ∃ M, M = cs.length := ⟨_, rfl⟩
  rw [← hM] at HS ⊢
  clear hM
  obtain ⟨NT, hNT⟩ : ∃ NT, NT = T.length := ⟨_, rfl⟩
  rw [← hNT] at HS ⊢
  rw [hc] at HP HC ⊢
  clear hNT hTl hc
  go_enter Tryz.func8, Tryz.ntmps8
  go_upto_region 1 with (fail)
  refine wp_stk2 fun W hB hz b1 b2 => ?_
  have hWs := hz.out
  have e1 := b1.cell
  clear hz
  go_wp2_with fail
  refine (HS.out W hB).mono ?_
  rintro e w2 ⟨v1, v2, rfl, hSm, hb2⟩
  have b12 := b1.keep hb2
  have b22 := b2.keep hb2
  have hB2 := hB.trans (hb2.mono hB.size)
  have hs2 := hb2.size
  obtain ⟨A1, cp1, rfl⟩ := hSm.ht.len
  obtain ⟨A2, cp2, rfl⟩ := hSm.hp.len
  clear b1 b2 e1
  go_upto_region 2 with (fail)
  refine wp_stk2 fun X hBX hz c1 c2 => ?_
  have b1X := b12.keep hBX
  have b2X := b22.keep hBX
  have hB3 := hB2.trans (hBX.mono hB2.size)
  have hSX := hSm.keep hBX
  have hXs := hz.out
  have e1 := b1X.cell
  have e2 := c1.cell
  clear hz hSm b12 b22 c1 c2
  go_wp2_with fail
  refine (HP.out X hB3 _ _ ⟨hSX.ht.wide (Nat.le_refl _) hBX.size, hSX.hp.wide (Nat.le_refl _) hBX.size, hSX.ix, hSX.few, hSX.short⟩).mono ?_
  rintro e w4 ⟨v1, v2, rfl, hR, hE, hb4⟩
  obtain ⟨A3, cp3, rfl⟩ := hR.len
  obtain ⟨x0, x1, rfl⟩ : ∃ x0 x1, vs = [x0, x1] := two_of vs HV.out
  obtain ⟨g, o, cp, rfl, -, hg1, hg2, hg3, q⟩ := Rd.form hE (show 0 < 2 by decide)
  have d0 := q 0 _ rfl
  have d1 := q 1 _ rfl
  have b1Y := b1X.keep hb4
  have b2Y := b2X.keep hb4
  have hB4 := hB3.trans (hb4.mono hB3.size)
  have y1 := gw_blk b1Y
  have y2 := gw_cell hg3 d0
  have y3 := gw_cell hg3 d1
  have hs4 := hb4.size
  have hsX := hBX.size
  have hR2 := Lib.hid hR
  have hwX : w.heap.size + 1 < X.heap.size := by omega
  generalize rs.length = nr at *
  simp only [Nat.add_zero] at y2
  clear e1 e2 hSX b1X b2X d0 d1 q hE hR
  go_upto_region 3 with (fail)
  refine wp_region_rg 8 [] (by kernel_rfl) (by kernel_rfl) (by kernel_rfl) trivial ?_
  iterate 8 (refine rg_det rfl rfl rfl (fun K hK => ?_); go_big_quiet_op; refine hK _ ?_; clear hK K)
  refine rg_nil (fun w' hw' hF => ?_)
  obtain ⟨z, rfl⟩ := hw'
  simp only [List.drop_succ_cons, List.drop_zero]
  have b2z := b2Y.gw z
  have e1 := b2z.cell
  have e2 := b2z.frozen
  have hzs := z.h.size
  have hBz := hB4.trans (z.h.mono hB4.size)
  have hRz := Lib.hid (hR2.out.keep z.h)
  clear hF y1 y2 y3
  go_wp2_with fail
  rw [show ([x0, x1] : List E).getD 0 0 = x0 from rfl]
  obtain ⟨Z, hZ⟩ : ∃ Z, (((z.w.setCell ⟨w.heap.size + 1, 0, none⟩ (.slice AC n capC)).setCell ⟨w.heap.size + 1, 1, none⟩ (.int .u64 (fv x0.a))).setCell ⟨w.heap.size + 1, 2, none⟩ (.int .u64 (fv x0.b))) = Z := ⟨_, rfl⟩
  rw [hZ]
  have hp : Put z.w Z (w.heap.size + 1) := by rw [← hZ]; exact ((Put.set _ _ _ _).trans (Put.set _ _ _ _)).trans (Put.set _ _ _ _)
  have bZ : Blk Z (w.heap.size + 1) 42 #[.slice AC n capC, .int .u64 (fv x0.a), .int .u64 (fv x0.b)] := by rw [← hZ]; exact ((b2z.set_ 0 _).set_ 1 _).set_ 2 _
  have f1 := bZ.cell
  refine bodyPost_ret (v := .tuple #[.slice A3 nr cp3, .agg #[.slice AC n capC, .int .u64 (fv x0.a), .int .u64 (fv x0.b)]]) (by simp [results, Tryz.results8, go_sem, f1]) rfl ⟨_, rfl, ?_, below_put hBz hp (by omega)⟩
  exact (hRz.out.put hp (.inl hwX)).wide (by omega) (by rw [hp.size]; exact z.h.size)
end Go.Proofs.YtkgglhakimkkhaaGreatDoor
namespace Go.Proofs.YtkgglhakimkkhaaGreatDoor
open Go.RowKit

def valB (cs : List ClW) (r : E) : E := cmbE (fun c => c.v) (pwL r 1 cs)
def clm0 : Value := .agg #[.slice none 0 0, .int .u64 0, .int .u64 0]
def vfyB (cs : List ClW) (r : E) (gs : List (List E)) (coins : List E) (V : E) (A : Option Addr) (cap : Nat) : Value :=
  if (vrfE 2 (valB cs r) gs coins).2 ≠ 0 then .tuple #[clm0, .int .i64 (vrfE 2 (valB cs r) gs coins).2]
  else if (vrfE 2 (valB cs r) gs coins).1 ≠ V * wgtC cs r coins then .tuple #[clm0, .int .i64 111]
  else .tuple #[clV (⟨coins, V⟩, (A, cap)), .int .i64 0]
theorem ext_casesB (x F : E) : x = F ∨ (x ≠ F ∧ fv x.a ≠ fv F.a) ∨ (x ≠ F ∧ fv x.a = fv F.a ∧ fv x.b ≠ fv F.b) := by
  by_cases ha : fv x.a = fv F.a
  · by_cases hb : fv x.b = fv F.b
    · exact .inl (E.ext_ (fv_inj ha) (fv_inj hb))
    · exact .inr (.inr ⟨fun h => hb (by rw [h]), ha, hb⟩)
  · exact .inr (.inl ⟨fun h => ha (by rw [h]), ha⟩)
theorem set3B {M : World → Prop} {w : World} {g : Nat} {t : TypeId} {cs : Array Value} {i j k : Nat} {v u x : Value} (b : Blk w g t cs) (h : ∀ X, Put w X g → Blk X g t (((cs.setIfInBounds i v).setIfInBounds j u).setIfInBounds k x) → M X) : M (((w.setCell ⟨g, i, none⟩ v).setCell ⟨g, j, none⟩ u).setCell ⟨g, k, none⟩ x) :=
  h _ (((Put.set w g i v).trans (Put.set _ g j u)).trans (Put.set _ g k x)) (((b.set_ i v).set_ j u).set_ k x)
theorem en_attestor_batch_Weight : ∀ args w, (callFunc 13 args).run Tryz.prog w = .ok (.enter 13 args) w := enters_of Tryz.func13 (by kernel_rfl) rfl
set_option maxRecDepth 100000 in
set_option maxHeartbeats 4000000 in
theorem gVerifyB (cs : List ClW) (r : E) (gs : List (List E)) (coins : List E) (V : E) (AC : Option Addr) (capC : Nat) (vl vr : Value) (lo hi lo2 hi2 lo3 hi3 : Nat) (w : World) (hhi : hi ≤ w.heap.size) (hcs : ClmU lo hi w vl cs) (hcn : ExtS lo3 hi3 w (.slice AC coins.length capC) coins) (hgs : TabS lo2 hi2 w vr gs) (hgl : gs.length ≤ 1000) (hpl : ∀ x ∈ cs, coins.length = x.1.p.length) (hLd : Laid w) :
    Calls Tryz.prog 17 #[vl, vr, .agg #[.int .u64 (fv r.a), .int .u64 (fv r.b), .slice AC coins.length capC, .int .u64 (fv V.a), .int .u64 (fv V.b)]] w (Ret (vfyB cs r gs coins V AC capC) w) := by
  obtain ⟨A, cap, rfl⟩ := hcs.len
  obtain ⟨AR, capR, rfl⟩ := hgs.len
  have HB := Lib.hid (fun W (hW : Below w.heap.size w W) => gValueB cs r (.slice A cs.length cap) lo hi W (Nat.le_trans hhi hW.size) (hcs.keep hW))
  have HF := Lib.hid (fun W (hW : Below w.heap.size w W) => gVerify (valB cs r) gs coins 2 (by decide) hgl (.slice AR gs.length capR) (.slice AC coins.length capC) lo2 hi2 lo3 hi3 W (hgs.keep hW) (Rd.keep hcn hW))
  have HW := Lib.hid (fun W (hW : Below w.heap.size w W) => gWeightB cs r coins (.slice A cs.length cap) (.slice AC coins.length capC) lo hi lo3 hi3 W (Nat.le_trans hhi hW.size) (hcs.keep hW) (Rd.keep hcn hW) hpl (hLd.keep hW))
  clear hcs hcn hgs hpl hLd hgl
  obtain ⟨res, hres⟩ : ∃ res, res = vfyB cs r gs coins V AC capC := ⟨_, rfl⟩
  have HR := Lib.hid hres
  rw [← hres]
  clear hres
  unfold vfyB at HR
  change Hid (∀ W (hW : Below w.heap.size w W), Calls _ _ _ _ (Ret (ev (valB cs r)) W)) at HB
  generalize valB cs r = yv at *
  generalize wgtC cs r coins = wg at *
  obtain ⟨f, hf⟩ : ∃ f, f = vrfE 2 yv gs coins := ⟨_, rfl⟩
  rw [← hf] at HF HR
  clear hf
  obtain ⟨fy, fe⟩ := f
  unfold clV clc ptV clm0 at HR
  dsimp only at HF HR
  generalize gs.length = ng at *
  generalize coins.length = nc at *
  generalize cs.length = M at *
  go_enter Tryz.func17, Tryz.ntmps17
  go_upto_region 1 with (fail)
  refine wp_stk2 fun W hB hz b1 b2 => ?_
  have hWs := hz.out
  have y1 := gw_blk b1
  clear hz
  obtain ⟨i0, hi0, iz0, iz1, iz2⟩ := info_parts ext_info
  refine wp_region_swap 15 13 undef [(4, Spec.val (.agg #[.int .u64 (fv (yv).a), .int .u64 (fv (yv).b)])), (10, Spec.val (.tuple #[.agg #[.int .u64 (fv (fy).a), .int .u64 (fv (fy).b)], .int .i64 fe])), (14, Spec.rel (New 26 #[.int .u64 0, .int .u64 0]) (NewF))] (by kernel_rfl) (by kernel_rfl) (by kernel_rfl) rfl rfl rfl rfl ⟨fit_new, trivial⟩ ?_ ?_
  iterate 4 (refine rg_det rfl rfl rfl (fun K hK => ?_); go_big_quiet_op; refine hK _ ?_; clear hK K)
  refine rg_val rfl rfl (fun W1 hW1 hF => step_callv en_attestor_batch_value (HB.out W1 (hB.trans ((grw_below hW1).mono hB.size))) rfl rfl) ?_
  intro a' ha
  simp only [Act.put, List.setIfInBounds_toArray, List.set_cons_succ, List.set_cons_zero] at ha
  subst ha
  iterate 5 (refine rg_det rfl rfl rfl (fun K hK => ?_); go_big_quiet_op; refine hK _ ?_; clear hK K)
  refine rg_val rfl rfl (fun W1 hW1 hF => step_callv en_attestor_sumcheck_Verify (HF.out W1 (hB.trans ((grw_below hW1).mono hB.size))) rfl rfl) ?_
  intro a' ha
  simp only [Act.put, List.setIfInBounds_toArray, List.set_cons_succ, List.set_cons_zero] at ha
  subst ha
  iterate 3 (refine rg_det rfl rfl rfl (fun K hK => ?_); go_big_quiet_op; refine hK _ ?_; clear hK K)
  refine rg_rel rfl rfl (fun W1 hW1 hF => step_new hi0 iz0 rfl) ?_
  intro n14 m14 v14 hn14 hm14 hd14 hf14 a' ha
  simp only [Act.put, List.setIfInBounds_toArray, List.set_cons_succ, List.set_cons_zero] at ha
  subst ha
  obtain rfl := hf14
  refine rg_nil (fun w' hw' hF => ?_)
  obtain ⟨z, rfl⟩ := hw'
  simp only [List.drop_succ_cons, List.drop_zero]
  rotate_left 1
  iterate 4 (refine rg_det rfl rfl rfl (fun K hK => ?_); go_big_quiet_op; refine hK _ ?_; clear hK K)
  refine rg_val rfl rfl (fun W1 hW1 hF => step_callv en_attestor_batch_value (HB.out W1 (hB.trans ((grw_below hW1).mono hB.size))) rfl rfl) ?_
  intro a' ha
  simp only [Act.put, List.setIfInBounds_toArray, List.set_cons_succ, List.set_cons_zero] at ha
  subst ha
  iterate 5 (refine rg_det rfl rfl rfl (fun K hK => ?_); go_big_quiet_op; refine hK _ ?_; clear hK K)
  refine rg_val rfl rfl (fun W1 hW1 hF => step_callv en_attestor_sumcheck_Verify (HF.out W1 (hB.trans ((grw_below hW1).mono hB.size))) rfl rfl) ?_
  intro a' ha
  simp only [Act.put, List.setIfInBounds_toArray, List.set_cons_succ, List.set_cons_zero] at ha
  subst ha
  iterate 2 (refine rg_det rfl rfl rfl (fun K hK => ?_); go_big_quiet_op; refine hK _ ?_; clear hK K)
  refine rg_pass rfl rfl ?_
  intro a' ha
  simp only [Act.put, List.setIfInBounds_toArray, List.set_cons_succ, List.set_cons_zero] at ha
  subst ha
  refine rg_rel rfl rfl (fun W1 hW1 hF => step_new hi0 iz0 rfl) ?_
  intro n14 m14 v14 hn14 hm14 hd14 hf14 a' ha
  simp only [Act.put, List.setIfInBounds_toArray, List.set_cons_succ, List.set_cons_zero] at ha
  subst ha
  obtain rfl := hf14
  refine rg_nil (fun w' hw' hF => ?_)
  obtain ⟨z, rfl⟩ := hw'
  simp only [List.drop_succ_cons, List.drop_zero]
  refine wpList_putS ?_
  intro a' ha
  simp only [Act.put, List.setIfInBounds_toArray, List.set_cons_succ, List.set_cons_zero] at ha
  subst ha
  rotate_right 1
  all_goals
    obtain ⟨hm14, -, hl14, b14⟩ := end_last hF
    have b1z := b1.gw z
    have b2z := b2.gw z
    have hzs := z.h.size
    have hBz := hB.trans (z.h.mono hB.size)
    have e1 := b14.cell
    have e2 := b14.frozen
    have hnw : w.heap.size + 1 < n14 := by omega
    clear hF y1
    go_upto_region 2 with (fail)
    clear e1 e2
    refine set2 (M := fun W => Code.wp _ _ _ _ W) b14 fun X hX bX => ?_
    have b1X := hX.blk b1z (by omega)
    have b2X := hX.blk b2z (by omega)
    have hBX := below_put hBz hX (by omega)
    have d1 := b2X.cell
    have d2 := b2X.frozen
    by_cases hfe : fe = 0
    · subst hfe
      have y1 := gw_blk b1X
      have y2 := gw_blk bX
      rcases ext_casesB fy (V * wg) with hq | ⟨hq, hq1⟩ | ⟨hq, hq1, hq2⟩
      · subst hq; have HX := Lib.hid (show res = .tuple #[.agg #[.slice AC nc capC, .int .u64 (fv V.a), .int .u64 (fv V.b)], .int .i64 0] by rw [HR.out]; simp [])
        go_upto_region 4 with (fail)
        refine wp_region_rg 13 [(10, Spec.val (.agg #[.int .u64 (fv (wg).a), .int .u64 (fv (wg).b)])), (11, Spec.val (.agg #[.int .u64 (fv (V * wg).a), .int .u64 (fv (V * wg).b)]))] (by kernel_rfl) (by kernel_rfl) (by kernel_rfl) trivial ?_
        iterate 10 (refine rg_det rfl rfl rfl (fun K hK => ?_); go_big_quiet_op; refine hK _ ?_; clear hK K)
        refine rg_val rfl rfl (fun W1 hW1 hF => step_callv en_attestor_batch_Weight (HW.out W1 (hBX.trans ((grw_below hW1).mono hBX.size))) rfl rfl) ?_
        intro a' ha
        simp only [Act.put, List.setIfInBounds_toArray, List.set_cons_succ, List.set_cons_zero] at ha
        subst ha
        refine rg_val rfl rfl (fun W1 hW1 hF => step_callv en_attestor_ext_Mul (eMul V wg W1) rfl rfl) ?_
        intro a' ha
        simp only [Act.put, List.setIfInBounds_toArray, List.set_cons_succ, List.set_cons_zero] at ha
        subst ha
        refine rg_det rfl rfl rfl (fun K hK => ?_)
        go_big_quiet_op
        refine hK _ ?_; clear hK K
        refine rg_nil (fun w' hw' hF => ?_)
        obtain ⟨z4, rfl⟩ := hw'
        simp only [List.drop_succ_cons, List.drop_zero]
        have b2z4 := b2X.gw z4
        have b1z4 := b1X.gw z4
        have hB4 := hBX.trans (z4.h.mono hBX.size)
        clear hF y1 y2 d1 d2
        have d1 := b2z4.cell
        have d2 := b2z4.frozen
        have d3 := b1z4.cell
        go_wp2_with fail
        refine set3B (M := fun W => bodyPost _ _ _ _ _ W) b2z4 fun Z hp bo => ?_
        have f1 := bo.cell
        rw [HX.out]
        refine bodyPost_ret (v := .tuple #[.agg #[.slice AC nc capC, .int .u64 (fv V.a), .int .u64 (fv V.b)], .int .i64 0]) (by simp [results, Tryz.results17, go_sem, f1]) rfl ⟨rfl, below_put hB4 hp (by omega)⟩
      · have HX := Lib.hid (show res = .tuple #[.agg #[.slice none 0 0, .int .u64 0, .int .u64 0], .int .i64 111] by rw [HR.out]; simp [hq])
        go_upto_region 4 with (fail)
        refine wp_region_rg 13 [(10, Spec.val (.agg #[.int .u64 (fv (wg).a), .int .u64 (fv (wg).b)])), (11, Spec.val (.agg #[.int .u64 (fv (V * wg).a), .int .u64 (fv (V * wg).b)]))] (by kernel_rfl) (by kernel_rfl) (by kernel_rfl) trivial ?_
        iterate 10 (refine rg_det rfl rfl rfl (fun K hK => ?_); go_big_quiet_op; refine hK _ ?_; clear hK K)
        refine rg_val rfl rfl (fun W1 hW1 hF => step_callv en_attestor_batch_Weight (HW.out W1 (hBX.trans ((grw_below hW1).mono hBX.size))) rfl rfl) ?_
        intro a' ha
        simp only [Act.put, List.setIfInBounds_toArray, List.set_cons_succ, List.set_cons_zero] at ha
        subst ha
        refine rg_val rfl rfl (fun W1 hW1 hF => step_callv en_attestor_ext_Mul (eMul V wg W1) rfl rfl) ?_
        intro a' ha
        simp only [Act.put, List.setIfInBounds_toArray, List.set_cons_succ, List.set_cons_zero] at ha
        subst ha
        refine rg_det rfl rfl rfl (fun K hK => ?_)
        go_big_quiet_op
        refine hK _ ?_; clear hK K
        refine rg_nil (fun w' hw' hF => ?_)
        obtain ⟨z4, rfl⟩ := hw'
        simp only [List.drop_succ_cons, List.drop_zero]
        have b2z4 := b2X.gw z4
        have b1z4 := b1X.gw z4
        have hB4 := hBX.trans (z4.h.mono hBX.size)
        clear hF y1 y2 d1 d2
        have d1 := b2z4.cell
        have d2 := b2z4.frozen
        have d3 := b1z4.cell
        go_wp2_with fail
        refine set3B (M := fun W => bodyPost _ _ _ _ _ W) b2z4 fun Z hp bo => ?_
        have f1 := bo.cell
        rw [HX.out]
        refine bodyPost_ret (v := .tuple #[.agg #[.slice none 0 0, .int .u64 0, .int .u64 0], .int .i64 111]) (by simp [results, Tryz.results17, go_sem, f1]) rfl ⟨rfl, below_put hB4 hp (by omega)⟩
      · have HX := Lib.hid (show res = .tuple #[.agg #[.slice none 0 0, .int .u64 0, .int .u64 0], .int .i64 111] by rw [HR.out]; simp [hq])
        go_upto_region 4 with (fail)
        refine wp_region_rg 13 [(10, Spec.val (.agg #[.int .u64 (fv (wg).a), .int .u64 (fv (wg).b)])), (11, Spec.val (.agg #[.int .u64 (fv (V * wg).a), .int .u64 (fv (V * wg).b)]))] (by kernel_rfl) (by kernel_rfl) (by kernel_rfl) trivial ?_
        iterate 10 (refine rg_det rfl rfl rfl (fun K hK => ?_); go_big_quiet_op; refine hK _ ?_; clear hK K)
        refine rg_val rfl rfl (fun W1 hW1 hF => step_callv en_attestor_batch_Weight (HW.out W1 (hBX.trans ((grw_below hW1).mono hBX.size))) rfl rfl) ?_
        intro a' ha
        simp only [Act.put, List.setIfInBounds_toArray, List.set_cons_succ, List.set_cons_zero] at ha
        subst ha
        refine rg_val rfl rfl (fun W1 hW1 hF => step_callv en_attestor_ext_Mul (eMul V wg W1) rfl rfl) ?_
        intro a' ha
        simp only [Act.put, List.setIfInBounds_toArray, List.set_cons_succ, List.set_cons_zero] at ha
        subst ha
        refine rg_det rfl rfl rfl (fun K hK => ?_)
        go_big_quiet_op
        refine hK _ ?_; clear hK K
        refine rg_nil (fun w' hw' hF => ?_)
        obtain ⟨z4, rfl⟩ := hw'
        simp only [List.drop_succ_cons, List.drop_zero]
        have b2z4 := b2X.gw z4
        have b1z4 := b1X.gw z4
        have hB4 := hBX.trans (z4.h.mono hBX.size)
        clear hF y1 y2 d1 d2
        have d1 := b2z4.cell
        have d2 := b2z4.frozen
        have d3 := b1z4.cell
        go_wp2_with fail
        refine set3B (M := fun W => bodyPost _ _ _ _ _ W) b2z4 fun Z hp bo => ?_
        have f1 := bo.cell
        rw [HX.out]
        refine bodyPost_ret (v := .tuple #[.agg #[.slice none 0 0, .int .u64 0, .int .u64 0], .int .i64 111]) (by simp [results, Tryz.results17, go_sem, f1]) rfl ⟨rfl, below_put hB4 hp (by omega)⟩
    · have HX := Lib.hid (show res = .tuple #[.agg #[.slice none 0 0, .int .u64 0, .int .u64 0], .int .i64 fe] by rw [HR.out]; simp [hfe])
      clear HB HF HW
      go_wp2_with fail
      refine set3B (M := fun W => bodyPost _ _ _ _ _ W) b2X fun Z hp bo => ?_
      have f1 := bo.cell
      rw [HX.out]
      refine bodyPost_ret (v := .tuple #[.agg #[.slice none 0 0, .int .u64 0, .int .u64 0], .int .i64 fe]) (by simp [results, Tryz.results17, go_sem, f1]) rfl ⟨rfl, below_put hBX hp (by omega)⟩
end Go.Proofs.YtkgglhakimkkhaaGreatDoor
