/-
  Bytes appended to a row of one's own: what else stays; the program's write so.
-/
import Derived.Test.YtoiampgfnidfdaaGreatDoorRo26
import Derived.Maps.OwnIn
import Derived.Deep.RegionHeld3
set_option maxRecDepth 100000
set_option maxHeartbeats 8000000
namespace Go.Proofs.YtoiampgfnidfdaaGreatDoor
open Go.RowKit
section
open Go.RowKit

theorem Jbt {α : Type} {n : Nat} {P : Program} {g : Operand} {p1 : Tmp} {assign body : Code} {Q : Exit → Act → World → Prop} {a : Act} {w : World} {gf : Nat} {lb : Array Value} {e1 : α → Value} {S : Nat → Prop} {xs : List α} {N : Nat}
  (hseq : SeqStopsK .wide (n - 1) P gf lb (fun x => #[e1 x]) (Keeps S) (fun ys => ys = xs) (fun _ => True) N w) (h1 : 1 ≤ n) (hg : a.eval g = .func (.func gf) #[] lb) (eg : ∀ args w, (callFunc gf args).run P w = .ok (.enter gf args) w)
  (hS : ∀ g, S g → g < w.heap.size) (I : List α → World → Prop) (hI : OwnFrom w.heap.size I) (hIs : ∀ pre W, I pre W → w.heap.size ≤ W.heap.size) (h0 : I [] w) (Ax : α → Act → World → Prop) (hAx : ∀ x a', OwnFrom w.heap.size (fun (_ : List α) W => Ax x a' W))
  (hassign : ∀ (l : Nat) (x : α) (W : World) (K : Act → World → Prop), w.heap.size ≤ W.heap.size → (∀ a' W', Below W.heap.size W W' → Ax x a' W' → K a' W') →
   assign.wpIn (Fence.wide.inRound l) (n - 1 - 1) P (Exit.then K (fun _ _ _ => False)) { tmps := a.tmps.setIfInBounds p1 (e1 x), defers := [] } W)
  (hbody : ∀ (l : Nat) (pre : List α) (x : α) (W : World) (a' : Act), Ax x a' W → I pre W → pre.length < N →
   body.wpIn (Fence.wide.inRound l) (n - 1 - 1) P (fun e _ W' => e = .normal ∧ KeepsOthers W W' ∧ Keeps S W W' ∧ I (pre ++ [x]) W') a' W)
  (hdone : ∀ (D : Nat) (W : World), w.heap.size ≤ D → I xs W → W.heap[D]? = some (.deferred (some [])) → Q .normal { a with defers := { target := .collected D, args := #[] } :: a.defers } W) :
  (Code.rangeFunc g #[p1] assign body).wpIn .wide n P Q a w := by
 refine wpIn_rangeFunc_ownH rfl h1 hg trivial eg hseq (fun h k => h.trans k) ?_ (Below.refl _ _) (fun _ => rfl) I (fun _ _ _ => False) hI (fun _ _ _ _ _ h _ _ => h) h0 Ax ?_ ?_ ?_ ?_ ?_
 ·
  intro W l o o' hl h _ _
  exact ⟨by simp, fun g hg _ => World.putObj_heap_other (by have := hS g hg; omega)⟩
 ·
  rintro x a' s W W' row h hg hr
  exact hAx x a' [] W W' row h hg hr
 ·
  intro l pre x W K hi hK
  rw [show ((#[p1] : Array Tmp).zip (#[e1 x] : Array Value)).foldl (fun t (p, v) => t.setIfInBounds p v) a.tmps = a.tmps.setIfInBounds p1 (e1 x) by simp]
  refine hassign l x W K (hIs _ _ hi) ?_
  intro a' W' hb ha
  exact hK a' _ ((J1j hb).from _) (Keeps.of_below hb) (hI _ _ _ none hi (J45 hb) (fun r e => by cases e)) ha
 ·
  rintro l pre x a' W _ _ hi ha hlt
  refine wpIn_mono (hbody l pre x W a' ha hi hlt) ?_
  rintro e a2 W2 ⟨rfl, hk, hk2, hi2⟩
  exact ⟨hk.from _, hk2, hi2⟩
 ·
  rintro D ys W hD rfl hi hK
  exact hdone D W hD hi hK
 ·
  rintro D c pre W _ _ h _
  exact h.elim
theorem J85 : En Tryz.prog 68 := enters_of Tryz.func68 (by kernel_rfl) rfl
def freeK (ps : List Pt) (k : Nat) : List Nat := (List.range k).filter fun i => match ps[i]? with | some p => !p.used | none => false
theorem Jbu (ps : List Pt) (k : Nat) (p : Pt) (h : ps[k]? = some p) : freeK ps (k + 1) = if p.used = true then freeK ps k else freeK ps k ++ [k] := by
 unfold freeK
 rw [List.range_succ, List.filter_append]
 cases hu : p.used <;> simp [h, hu]
theorem Ji6 (ps : List Pt) : freeK ps ps.length = freeM ps := rfl
theorem J8n (ps : List Pt) (k : Nat) : (freeK ps k).length ≤ k := Nat.le_trans (List.length_filter_le _ _) (by rw [List.length_range]; exact Nat.le_refl _)
theorem Jk3 (ps : List Pt) (k n : Nat) (p : Pt) (h : ps[k]? = some p) (hu : p.used = false) (hk : k < n) : (freeK ps k).length < (freeK ps n).length := by
 have h1 : freeK ps (k + 1) = freeK ps k ++ [k] := by rw [Jbu ps k p h, if_neg (by rw [hu]; decide)]
 have h2 : ∀ d, (freeK ps (k + 1)).length ≤ (freeK ps (k + 1 + d)).length := by
  intro d
  induction d with
  | zero => exact Nat.le_refl _
  | succ d ih =>
   refine Nat.le_trans ih ?_
   show _ ≤ (freeK ps (k + 1 + d + 1)).length
   unfold freeK
   rw [List.range_succ (n := k + 1 + d), List.filter_append, List.length_append]
   omega
 have h3 := h2 (n - (k + 1))
 rw [show k + 1 + (n - (k + 1)) = n by omega, h1, List.length_append] at h3
 simp at h3
 omega
theorem J9m : Tryz.prog.underlying 80 = some (.struct (Tryz.prog.fieldsOf 80)) := by kernel_rfl
theorem J6z : (Tryz.prog.info? 80).map (·.size) = some 3 := by kernel_rfl
theorem gUnused (u : EpW) (w : World) : Calls Tryz.prog 68 #[.agg (epc u).toArray] w fun e w' =>
  e = .returned (.func (.func 112) #[] #[.pointer (some ⟨w.heap.size, 0, none⟩)]) ∧ w' = w.alloc (.cells (epc u).toArray 75) := by
 unfold epc
 go_enter Tryz.func68, Tryz.ntmps68
 go_wp2
 go_ret
 exact ⟨rfl, rfl⟩
attribute [local go_sem] Oper.semAt_some
theorem uIter (ps : List Pt) (us : List PtW) (hus : Al (fun u p => u.u = p.used) us ps) (h1 : ∀ u ∈ us, ∀ x ∈ ptc u, x.oneCell' = true) (hps : ps.length ≤ 1000) (v : Value) (n hi Bs : Nat) (hn : 1 ≤ n) (S : Nat → Prop) (w : World) (hp : Rd 0 hi 3 w v us.length (us.flatMap ptc)) (hhi : hi ≤ w.heap.size) (hBs : w.cell? ⟨Bs, 3, none⟩ = some v) (hB : Bs < w.heap.size) (hS0 : S Bs) (hS1 : ∀ g, g < hi → S g) :
  SeqStopsK .wide n Tryz.prog 112 #[.pointer (some ⟨Bs, 0, none⟩)] (fun k : Nat => #[.int .i64 (k : Int)]) (Keeps S) (fun ys => ys = freeM ps) (fun _ => True) (freeM ps).length w := fun d J Jx W hW hJ hJx hY h0 => by
 have hul : us.length = ps.length := hus.1
 obtain ⟨A, cap, hv0⟩ := hp.len
 rw [hul] at hv0
 subst hv0
 have hBs' := (hW.cell (p := ⟨Bs, 3, none⟩) hB).trans hBs
 have hp' := Rd.keep hp hW
 have hop := J3n Tryz.prog
 have hSB := hS0
 have hBW := Nat.lt_of_lt_of_le hB hW.size
 have hUS := Lib.hid hus
 have H1 := Lib.hid h1
 obtain ⟨iP, hiP, iP0, iP1, iP2⟩ := info_parts J5w
 clear hus h1
 refine callsIn_of_wp Tryz.func112 rfl trivial ?_ rfl
 simp only [Tryz.ntmps112, List.size_toArray, List.length_cons, List.length_nil, Nat.reduceAdd, Nat.reduceSub, Array.replicate_succ, Array.replicate_zero, List.push_toArray, List.append_toArray, List.nil_append, List.cons_append]
 gi_wp2
 gi_loopw [8] (fun i wr => ∃ k : Nat, k ≤ ps.length ∧ i = .int .i64 (k : Int) ∧ J (freeK ps k) wr ∧ Keeps S W wr) (fun i _ => ps.length - (intOf i).toNat)
 case atStart => exact ⟨0, Nat.zero_le _, rfl, h0, Keeps.refl _⟩
 case round =>
  obtain ⟨k, hk, rfl, hJs, hnx⟩ := hrel
  by_cases hkl : k < ps.length
  ·
   obtain ⟨u, p, hu, hpk, huu⟩ := hUS.out.get hkl
   obtain ⟨g, off, cap', hv, q1, q2, q3, q4, q5⟩ := Rd.form hp' (by omega)
   rw [hul] at hv
   cases hv
   have hrg : wr.rangeAt g (off + k * 3) (ptc u) := fun j x hj => by
    rw [Nat.add_assoc]
    exact hnx.cell (hS1 g q3) (q5 _ _ (J1l J27 us k j u x hu hj))
   have hcap : ps.length ≤ cap := by rw [← hul]; exact q1
   have hgz : g < wr.heap.size := by have := hnx.size; omega
   have hone := H1.out u (List.mem_of_getElem? hu)
   gi_upto_region 2 with (fail)
   refine wpIn_region_lit ?_
   iterate 2 (refine wpListIn_plain rfl fun K hK => ?_; gi_step; refine hK _ _ ?_; clear hK K)
   refine wpListIn_plain rfl fun K2 hK2 => J12 hop rfl (Jb (fun v12 w12 hh => ?_) (J1 (cs := ptc u) J9m rfl J6z rfl rfl hrg))
   obtain ⟨rfl, rfl⟩ := hh
   refine hK2 _ _ ?_
   clear hK2 K2
   try simp only [PutS]
   refine wpListIn_plain rfl fun K3 hK3 => J12 hop rfl (Jb (fun v4 w4 hh => ?_) (Jl hiP iP0 rfl))
   obtain ⟨rfl, rfl⟩ := hh
   refine hK3 _ _ ?_
   clear hK3 K3
   try simp only [PutS]
   have b4 : Blk (w12.alloc (.cells (Value.agg #[.slice none 0 0, .slice none 0 0, .bool false]).cells 80)) w12.heap.size 80 #[.slice none 0 0, .slice none 0 0, .bool false] := World.alloc_heap_new w12 _
   have B4 := (Below.refl _ w12).alloc (Nat.le_refl _) (.cells (Value.agg #[.slice none 0 0, .slice none 0 0, .bool false]).cells 80)
   generalize w12.alloc (.cells (Value.agg #[.slice none 0 0, .slice none 0 0, .bool false]).cells 80) = w4 at *
   iterate 1 (refine wpListIn_plain rfl fun K hK => ?_; gi_step; refine hK _ _ ?_; clear hK K)
   refine wpListIn_plain rfl fun K5 hK5 => J12 hop rfl (Jb (fun v0 X hh => ?_) (J5m (cells := ptc u) 80 (.tmp 4) (.tmp 12) rfl rfl rfl b4 (by simp [ptc]) J6z (List.all_eq_true.2 hone) (Ja _ _ rfl)))
   obtain ⟨rfl, hX, bX⟩ := hh
   refine hK5 _ _ ?_
   clear hK5 K5
   try simp only [PutS]
   have BX : Below w12.heap.size w12 X := J2 B4 hX (Nat.le_refl _)
   have hJX := abides hJ hJs BX
   have hnX := hnx.trans (Keeps.of_below BX)
   obtain ⟨g4, hg4⟩ : ∃ g, g = w12.heap.size := ⟨_, rfl⟩
   rw [← hg4] at bX ⊢
   have c42 := bX.cell 2
   simp only [ptc, List.getElem?_toArray, List.getElem?_cons_zero, List.getElem?_cons_succ, huu] at c42
   have l4 := bX.lt
   have HFN := Lib.hid (Jbu ps k p hpk)
   have HLT := Lib.hid (fun hu => Jk3 ps k ps.length p hpk hu hkl)
   have HY := Lib.hid hY
   clear b4 B4 hX hrg hgz hg4 bX BX hJs hnx hY hJ hJx
   cases huse : p.used with
   | true =>
    rw [huse] at c42
    have hF1 : freeK ps (k + 1) = freeK ps k := by rw [HFN.out, if_pos huse]
    have HF1 := Lib.hid hF1
    clear hF1 huse
    gi_wp2
    refine ⟨fun f h => by (first | cases h), ?_⟩
    gi_wp2
    go_roundw
    case rel => exact ⟨k + 1, by omega, by go_num, by rw [HF1.out]; exact hJX, hnX⟩
    case measure => simp [intOf]; omega
   | false =>
    rw [huse] at c42
    have hF1 : freeK ps (k + 1) = freeK ps k ++ [k] := by rw [HFN.out, if_neg (by rw [huse]; decide)]
    have HF1 := Lib.hid hF1
    have hlt := HLT.out huse
    obtain ⟨fn, tmps, assign, body, hy, hR⟩ := HY.out (freeK ps k) k X hJX hlt
    clear hF1 huse
    gi_wp2
    refine hR.mono ?_
    rintro e W3 (⟨rfl, hJ3, hk3⟩ | ⟨rfl, hJx3⟩)
    ·
     gi_wp2
     go_roundw
     case rel => exact ⟨k + 1, by omega, by go_num, by rw [HF1.out]; exact hJ3, hnX.trans hk3⟩
     case measure => simp [intOf]; omega
    ·
     gi_wp2
     refine bodyPost_ret (results_none rfl _ _ _) rfl ?_
     exact ⟨⟨_, rfl⟩, .inr ⟨_, trivial, hJx3⟩⟩
  ·
   obtain rfl : k = ps.length := by omega
   rw [Ji6] at hJs
   gi_wp2
   go_end0
   exact ⟨⟨_, rfl⟩, .inl ⟨_, rfl, hJs⟩⟩
end
section
open Go.RowKit

theorem J2v : En Tryz.prog 24 := enters_of Tryz.func24 (by kernel_rfl) rfl
attribute [local go_sem] Oper.semAt_some
theorem gLeft (m : Mt) (hN : MtN m) (n : Int) (hn : -9223372036854775808 ≤ n ∧ n ≤ 9223372036854775807) (vE : Value) (w : World) (hE : EpsA w vE m.eps) : Calls Tryz.prog 24 #[mtV m vE, .int .i64 n] w (Ret (.int .i64 (leftM m n : Nat)) w) := by
 obtain ⟨S, hS⟩ : ∃ S, S = mtV m vE := ⟨_, rfl⟩
 rw [← hS]
 have HN := Lib.hid hN
 have HE := Lib.hid hE
 obtain ⟨A, cap, rfl⟩ := hE.len
 have hml := hN.eps
 clear hN hE
 have hop := J3n Tryz.prog
 refine (callsIn_wide (n := 3)).1 ?_
 refine callsIn_of_wp_marks Tryz.func24 rfl trivial ?_ rfl
 simp only [Tryz.ntmps24, List.size_toArray, List.length_cons, List.length_nil, Nat.reduceAdd, Nat.reduceSub, Array.replicate_succ, Array.replicate_zero, List.push_toArray, List.append_toArray, List.nil_append, List.cons_append]
 gi_upto_region 1 with (fail)
 refine stk1 (M := fun W => Code.wpIn _ _ _ _ _ _ W) fun W hB hz b1 => ?_
 have b1' : Blk W w.heap.size 35 (mtc m (.slice A m.eps.length cap)).toArray := by first | exact b1 | (rw [hS] at b1; exact b1)
 have hsl := HN.out.seed.1
 clear b1 hz hS
 refine wpIn_region_lit ?_
 refine wpListIn_plain rfl fun K2 hK2 => J12 hop rfl (Jb (fun v6 w6 hh => ?_) (J1 (cs := mtc m (.slice A m.eps.length cap)) J9 rfl (by rw [J5, J0 _ _ hsl]) rfl rfl (J4 b1')))
 obtain ⟨rfl, rfl⟩ := hh
 refine hK2 _ _ ?_
 clear hK2 K2
 try simp only [PutS]
 iterate 1 (refine wpListIn_plain rfl fun K hK => ?_; gi_step; refine hK _ _ ?_; clear hK K)
 refine wpListIn_plain rfl fun K4 hK4 => J12 hop rfl (Jb (fun v8 w8 hh => ?_) (J7 J3u (gFind m HN.out (.slice A m.eps.length cap) n w6 (HE.out.keep hB)) rfl rfl))
 obtain ⟨rfl, B8⟩ := hh
 refine hK4 _ _ ?_
 clear hK4 K4
 try simp only [PutS]
 have b1w := b1'.keep B8
 have hBw := hB.trans (B8.mono hB.size)
 clear b1' hB B8
 try simp only [PutS]
 by_cases hin : n < 0 ∨ n ≥ m.eps.length
 ·
  have hf : (decide (0 ≤ n) && decide (n < (m.eps.length : Int))) = false := by
   rw [Bool.and_eq_false_iff, decide_eq_false_iff_not, decide_eq_false_iff_not]
   omega
  have HR := Lib.hid (show leftM m n = 0 by unfold leftM; rw [if_pos hin])
  rw [hf]
  gi_wp2_with fail
  exact ⟨.int .i64 0, by simp [results, Tryz.results24, go_sem], by rw [HR.out]; rfl, hBw⟩
 ·
  have hf : (decide (0 ≤ n) && decide (n < (m.eps.length : Int))) = true := by
   rw [Bool.and_eq_true, decide_eq_true_iff, decide_eq_true_iff]
   omega
  have HR := Lib.hid (show leftM m n = (freeM (m.at n.toNat).pts).length / 2 by unfold leftM; rw [if_neg hin])
  rw [hf]
  obtain ⟨k, rfl⟩ : ∃ k : Nat, n = (k : Int) := ⟨n.toNat, by omega⟩
  rw [Int.toNat_natCast] at HR
  have hkl : k < m.eps.length := by omega
  have c33 := J11 b1w hsl
  have l1 := b1w.lt
  clear hin hf
  gi_upto_region 4 with (fail)
  refine stk1 (M := fun W => Code.wpIn _ _ _ _ _ _ W) fun X hX hz2 b5 => ?_
  obtain ⟨g5, hg5⟩ : ∃ g, g = w8.heap.size := ⟨_, rfl⟩
  rw [← hg5] at b5 ⊢
  have hg5w : w.heap.size < g5 := by omega
  have c33X := J11 (b1w.keep hX) hsl
  have hBX := hBw.trans (hX.mono hBw.size)
  have l1X := (b1w.keep hX).lt
  obtain ⟨us, hr, ha⟩ := HE.out
  obtain ⟨u, e, hu, he, hin⟩ := ha.get hkl
  have hat : m.at k = e := by
   have := at_get m k hkl
   rw [he] at this
   exact (Option.some.inj this).symm
  rw [hat] at HR
  obtain ⟨g, off, cap', hv, hcp, hg, hcs⟩ := RdA.at J16 (RdA.keep hr hBX) hu
  rw [ha.1] at hv hcp
  cases hv
  have hrg : X.rangeAt g (off + k * 5) (epc u) := fun j x hj => by rw [Nat.add_assoc]; exact hcs j x hj
  obtain ⟨ps, hps, hal⟩ := hin.2.1
  have hpl := (HN.out.ep _ _ he).1
  clear hX hz2 hg5 hcs c33 l1 b1w hBw ha hr
  refine wpIn_region_lit ?_
  iterate 4 (refine wpListIn_plain rfl fun K hK => ?_; gi_step; refine hK _ _ ?_; clear hK K)
  refine wpListIn_plain rfl fun K7 hK7 => J12 hop rfl (Jb (fun v14 w14 hh => ?_) (J1 (cs := epc u) J1o rfl J1b rfl rfl hrg))
  obtain ⟨rfl, rfl⟩ := hh
  refine hK7 _ _ ?_
  clear hK7 K7
  try simp only [PutS]
  gi_wp2_with fail
  refine ⟨trivial, (callsIn_wide.2 (gUnused u w14)).mono ?_⟩
  rintro e' w2 ⟨rfl, rfl⟩
  gi_wp2_with fail
  refine stk1 (M := fun W => Code.wpIn _ _ _ _ _ _ W) fun Y hBY hzY c1 => ?_
  have hYs : w14.heap.size + 1 ≤ Y.heap.size := by have := hzY.out; omega
  have b5Y := b5.keep hBY
  have hBw := hBX.trans (hBY.mono hBX.size)
  have hpl2 : ps.length = e.pts.length := hal.1
  have h5X := b5.lt
  have hsX := hBX.size
  have hRY : Rd 0 w.heap.size 3 Y u.p ps.length (ps.flatMap ptc) := Rd.keep (Rd.keep hps hBX) hBY
  have hus : Al (fun (u : PtW) (p : Pt) => u.u = p.used) ps e.pts := hal.mono fun _ _ h => h.2.2
  have hones : ∀ u ∈ ps, ∀ x ∈ ptc u, x.oneCell' = true := fun u hu x hx => al_one hal (fun _ _ h => h.one) x (List.mem_flatMap.2 ⟨u, hu, hx⟩)
  have c13 := c1.cell 3
  simp only [epc, List.getElem?_toArray, List.getElem?_cons_zero, List.getElem?_cons_succ] at c13
  have HRY := Lib.hid hRY
  have HUS := Lib.hid hus
  have H1S := Lib.hid hones
  have HF1 := Lib.hid (show (freeM e.pts).length ≤ 1000 from Nat.le_trans (J8n e.pts e.pts.length) hpl)
  clear hRY hus hones hzY b5 hBY hBX c33X hps hal hrg
  refine Jbt (S := fun g => g < w.heap.size ∨ g = w14.heap.size) (uIter e.pts ps HUS.out H1S.out hpl u.p 2 w.heap.size w14.heap.size (by decide) _ Y HRY.out (by omega) c13 (by omega) (.inr rfl) (fun g hg => .inl hg)) (by decide) rfl (enters_of Tryz.func112 (by kernel_rfl) rfl) (fun g hg => by rcases hg with hg | hg <;> omega)
   (fun pre W => Blk W g5 3 #[.int .i64 (pre.length : Nat)] ∧ Below w.heap.size w W ∧ Y.heap.size ≤ W.heap.size)
   ?hI (fun pre W h => h.2.2) ?h0 (fun x a' W => a' = { tmps := #[S, .int .i64 (k : Int), .pointer (some ⟨w.heap.size, 0, none⟩), undef, .int .i64 0, .pointer (some ⟨g5, 0, none⟩), .agg (mtc m (.slice (some ⟨g, off, none⟩) m.eps.length cap)).toArray, .int .i64 (k : Int), .bool true, .bool false, .pointer (some ⟨w.heap.size, 33, none⟩), .slice (some ⟨g, off, none⟩) m.eps.length cap, .int .i64 (k : Int), .pointer (some ⟨g, off + k * 5, none⟩), .agg (epc u).toArray, .func (.func 112) #[] #[.pointer (some ⟨w14.heap.size, 0, none⟩)], .int .i64 (x : Int), undef, undef, undef, undef], defers := [] }) (fun x a' s W W' row h _ _ => h) ?assign ?body ?done
  case hI =>
   rintro pre W W' row ⟨q1, q2, q3⟩ hg hr
   exact ⟨J3l (β := Unit) () W W' row q1 hg hr, ownFrom_below (β := Unit) (Nat.le_refl _) (by omega) () W W' row q2 hg hr, Nat.le_trans q3 hg.size⟩
  case h0 => exact ⟨b5Y, hBw, Nat.le_refl _⟩
  case assign =>
   intro l x W K _ hK
   simp only [List.setIfInBounds_toArray, List.set_cons_succ, List.set_cons_zero]
   gi_wp2_with fail
   exact hK _ _ (Below.refl _ _) rfl
  case body =>
   rintro l pre x W a' rfl ⟨q1, q2, q3⟩ hlt
   have hpr : pre.length ≤ 1000 := Nat.le_trans (Nat.le_of_lt hlt) HF1.out
   have c1 := q1.cell
   have c2 := q1.frozen
   have ll := q1.lt
   gi_wp2_with fail
   exact ⟨KeepsOthers.setCell _ _ _, J9i _ _ _ (fun h => by rcases h with h | h <;> simp at h <;> omega), q1.set_ 0 _, q2.setCell (p := ⟨g5, 0, none⟩) (by show w.heap.size ≤ g5; omega) _⟩
  case done =>
   intro D V hD ⟨q1, q2, q3⟩ hK
   have hfl := HF1.out
   have c1 := q1.cell
   have ll := q1.lt
   gi_wp2_with fail
   refine ⟨by simp, .inl ⟨_, _, rfl, run_takeDeferred hK, ?_⟩⟩
   refine ⟨.int .i64 ((freeM e.pts).length / 2 : Nat), by simp [results, Tryz.results24, go_sem], by rw [HR.out], J48 q2 D _ (by omega)⟩
end
section
open Go.RowKit

def intc (l : List Nat) : List Value := l.map fun (k : Nat) => Value.int .i64 (k : Int)
theorem Jk4 (l : List Nat) : (intc l).length = l.length := by simp [intc]
theorem Ji7 (l : List Nat) (k : Nat) : intc (l ++ [k]) = intc l ++ [.int .i64 (k : Int)] := by simp [intc]
theorem Jk5 {β : Type} {B base n size : Nat} {e : TypeId} {v : Value} {xs : List Value} : OwnFrom B (fun (_ : β) W => W.ownsRow base e size v n xs) := fun s W W' row hs hg hr => by
 obtain ⟨h1, h2⟩ := hs
 refine ⟨h1, h2.imp id ?_⟩
 rintro ⟨b, cap, cur, q1, q2, q3, q4⟩
 exact ⟨b, cap, cur, q1, q2, (hg.block b (Array.getElem?_eq_some_iff.1 q3).1 (fun e => by
  obtain ⟨_, o, ho, hc⟩ := hr b e.symm
  rw [q3] at ho; cases ho; cases hc)).trans q3, q4⟩
theorem Jhe : (Tryz.prog.info? 3).map (fun i => (i.zero, i.size, i.bytes)) = some (some (.int .i64 0), 1, 8) := by kernel_rfl
theorem Jac : Tryz.prog.underlying 46 = some (.slice 3) := by kernel_rfl
theorem J8u : En Tryz.prog 67 := enters_of Tryz.func67 (by kernel_rfl) rfl
attribute [local go_sem] Oper.semAt_some
theorem gAppSeq (xs : List Nat) (hx : xs.length ≤ 1000) (gf : Nat) (lb : Array Value) (eg : ∀ args w, (callFunc gf args).run Tryz.prog w = .ok (.enter gf args) w) (S0 : Nat → Prop) (w : World) (hS : ∀ g, S0 g → g < w.heap.size)
  (hseq : ∀ W, Below w.heap.size w W → SeqStopsK .wide 2 Tryz.prog gf lb (fun k : Nat => #[.int .i64 (k : Int)]) (Keeps S0) (fun ys => ys = xs) (fun _ => True) xs.length W) :
  Calls Tryz.prog 111 #[.slice none 0 0, .func (.func gf) #[] lb] w fun e w' => ∃ v, e = .returned v ∧ w'.ownsRow w.heap.size 3 1 v xs.length (intc xs) ∧ Below w.heap.size w w' := by
 have hop := J3n Tryz.prog
 have HSQ := Lib.hid hseq
 have HX := Lib.hid hx
 have HSS := Lib.hid hS
 have HEG := Lib.hid eg
 clear hseq hx hS
 refine (callsIn_wide (n := 3)).1 ?_
 refine callsIn_of_wp_marks Tryz.func111 rfl trivial ?_ rfl
 simp only [Tryz.ntmps111, List.size_toArray, List.length_cons, List.length_nil, Nat.reduceAdd, Nat.reduceSub, Array.replicate_succ, Array.replicate_zero, List.push_toArray, List.append_toArray, List.nil_append, List.cons_append]
 gi_upto_region 1 with (fail)
 refine stk1 (M := fun W => Code.wpIn _ _ _ _ _ _ W) fun W hB hz b1 => ?_
 have hWs : w.heap.size + 1 ≤ W.heap.size := by have := hz.out; omega
 clear hz
 gi_wp2_with fail
 refine Jbt (S := S0) (HSQ.out W hB) (by decide) rfl HEG.out (fun g hg => by have := HSS.out g hg; omega)
  (fun pre X => ∃ v, Blk X w.heap.size 46 #[v] ∧ X.ownsRow (w.heap.size + 1) 3 1 v pre.length (intc pre) ∧ Below w.heap.size w X ∧ W.heap.size ≤ X.heap.size)
  ?hI (fun pre W h => by obtain ⟨v, h1, h2, h3, h4⟩ := h; exact h4) ?h0 (fun x a' X => a' = { tmps := #[.slice none 0 0, .func (.func gf) #[] lb, .pointer (some ⟨w.heap.size, 0, none⟩), undef, .slice none 0 0, .int .i64 (x : Int), .func (.func gf) #[] lb, .int .i64 (x : Int), undef, undef, undef, undef, undef], defers := [] }) (fun x a' s W W' row h _ _ => h) ?assign ?body ?done
 case hI =>
  rintro pre X X' row ⟨v, q1, q2, q3, q4⟩ hg hr
  exact ⟨v, J3l (β := Unit) () X X' row q1 hg hr, Jk5 (β := Unit) () X X' row q2 hg hr, ownFrom_below (β := Unit) (Nat.le_refl _) (by omega) () X X' row q3 hg hr, Nat.le_trans q4 hg.size⟩
 case h0 => exact ⟨_, b1, ⟨rfl, .inl ⟨rfl, rfl⟩⟩, hB, Nat.le_refl _⟩
 case assign =>
  intro l x X K _ hK
  simp only [List.setIfInBounds_toArray, List.set_cons_succ, List.set_cons_zero]
  gi_wp2_with fail
  exact hK _ _ (Below.refl _ _) rfl
 case body =>
  rintro l pre x X a' rfl ⟨v, q1, q2, q3, q4⟩ hlt
  have hpr : pre.length ≤ 1000 := Nat.le_trans (Nat.le_of_lt hlt) HX.out
  have hop := J7d hop l
  obtain ⟨iI, hiI, iI0, iI1, iI2⟩ := info_parts Jhe
  have c1 := q1.cell 0
  have ll := q1.lt
  gi_upto_region 3 with (fail)
  refine wpIn_region_lit ?_
  iterate 2 (refine wpListIn_plain rfl fun K hK => ?_; gi_step; refine hK _ _ ?_; clear hK K)
  refine wpListIn_plain rfl fun K2 hK2 => J12 hop rfl (Jb (fun v10 w10 hh => ?_) (J15 (cs := #[.int .i64 (x : Int)]) Jac hiI iI0 iI1 (by decide) (by decide) rfl rfl rfl))
  obtain ⟨⟨rfl, hl10, b10⟩, B10⟩ := hh
  refine hK2 _ _ ?_
  clear hK2 K2
  try simp only [PutS]
  have q1w := q1.keep B10
  have q2w := Jq q2 (Nat.le_refl _) B10
  refine wpListIn_append_own_at (P := Tryz.prog) (w := w10) rfl (.tmp 8) (.tmp 10) 46 rfl (w.heap.size + 1) 3 iI _ 1 8 Jac hiI iI0 iI1 iI2 rfl (by decide) v pre.length (intc pre) rfl q2w ⟨X.heap.size, 0, none⟩ 1 1 [.int .i64 (x : Int)] rfl rfl (J7u b10) (fun v hv => by rw [List.mem_singleton.1 hv]; rfl) (by unfold maxLen; omega) (by omega) (by have := B10.size; omega) fun v' w' hown hgr _ hat => ?_
  have hne : some w.heap.size ≠ v.ownBlock := fun e => by have := (Jk q2w e.symm).1; omega
  have q1g := Ja4 hgr q1w hne
  have c1 := q1g.cell 0
  have ll := q1g.lt
  have f1 := q1g.frozen
  have hne' : v'.ownBlock ≠ some w.heap.size := fun e => by have := (Jk hown e).1; omega
  have hBg : Below w.heap.size w10 w' := (Below.refl _ _).grown hgr (by have := B10.size; omega) (fun g hg => by have := (Jk q2w hg).1; omega)
  have hKO : KeepsOthers X w' := (J1j B10).trans (J9d hgr fun r o e ho => by
   rcases q2w.2 with ⟨h0, _⟩ | ⟨b, cap, cur, h0, _, h3, _⟩
   · rw [h0] at e; cases e
   · rw [h0] at e; cases e; rw [h3] at ho; cases ho; rfl)
  have hKS : Keeps S0 X w' := (Keeps.of_below B10).trans ⟨hgr.size, fun g hg hl => hgr.block g hl (fun e => by have := (Jk q2w e.symm).1; have := HSS.out g hg; omega)⟩
  obtain ⟨A', c', rfl⟩ := Jy hown
  have HOWN := Lib.hid hown
  have hBt := (q3.trans (B10.mono q3.size)).trans hBg
  have hst : W.heap.size ≤ w'.heap.size := Nat.le_trans q4 (Nat.le_trans B10.size hgr.size)
  clear B10 q1 q2 b10 hl10 q1w hat hown
  simp only [PutS]
  gi_wp2_with fail
  refine ⟨hKO.trans (KeepsOthers.setCell _ _ _), hKS.trans (J9i _ _ _ (fun h => by have := HSS.out _ h; simp at this)), _, q1g.set_ 0 _, ?_, hBt.setCell (p := ⟨w.heap.size, 0, none⟩) (Nat.le_refl _) _⟩
  rw [Ji7]
  exact Jt HOWN.out (Put.set _ _ _ _) hne'
 case done =>
  intro D V hD ⟨v, q1, q2, q3, q4⟩ hK
  have c1 := q1.cell 0
  have ll := q1.lt
  gi_wp2_with fail
  refine ⟨by simp, .inl ⟨_, _, rfl, run_takeDeferred hK, ?_⟩⟩
  refine ⟨v, by simp [results, Tryz.results111, go_sem], ⟨v, rfl, ?_, J48 q3 D _ (by omega)⟩⟩
  have hne : v.ownBlock ≠ some D := fun e => by
   rcases q2.2 with ⟨h0, _⟩ | ⟨b, cap, cur, h0, _, h3, _⟩
   · rw [h0] at e; cases e
   · rw [h0] at e; cases e; rw [h3] at hK; cases hK
  obtain ⟨r1, r2⟩ := q2
  refine ⟨r1, r2.imp id ?_⟩
  rintro ⟨b, cap, cur, h0, h1, h3, h4⟩
  exact ⟨b, cap, cur, h0, by omega, (World.putObj_heap_other (fun e => hne (by rw [h0, e]; rfl))).trans h3, h4⟩
theorem gCollect (xs : List Nat) (hx : xs.length ≤ 1000) (gf : Nat) (lb : Array Value) (eg : ∀ args w, (callFunc gf args).run Tryz.prog w = .ok (.enter gf args) w) (S0 : Nat → Prop) (w : World) (hS : ∀ g, S0 g → g < w.heap.size)
  (hseq : ∀ W, Below w.heap.size w W → SeqStopsK .wide 2 Tryz.prog gf lb (fun k : Nat => #[.int .i64 (k : Int)]) (Keeps S0) (fun ys => ys = xs) (fun _ => True) xs.length W) :
  Calls Tryz.prog 67 #[.func (.func gf) #[] lb] w fun e w' => ∃ v, e = .returned v ∧ w'.ownsRow w.heap.size 3 1 v xs.length (intc xs) ∧ Below w.heap.size w w' := by
 have HA := gAppSeq xs hx gf lb eg S0 w hS hseq
 clear hseq
 go_enter Tryz.func67, Tryz.ntmps67
 go_wp2_with fail
 refine HA.mono ?_
 rintro e w2 ⟨v, rfl, ho, hB⟩
 go_wp2_with fail
 exact bodyPost_ret (v := v) (by simp [results, Tryz.results67, go_sem]) rfl ⟨v, rfl, ho, hB⟩
end

theorem J5f : En Tryz.prog 73 := enters_of Tryz.func73 (by kernel_rfl) rfl
theorem J2n : En Tryz.prog 72 := enters_of Tryz.func72 (by kernel_rfl) rfl
theorem gFlag (b : Bool) (w : World) : Calls Tryz.prog 73 #[.bool b] w (Ret (.int .u8 (flB b : Nat)) w) := by
 cases b
 ·
  skip
  go_enter Tryz.func73, Tryz.ntmps73
  go_wp2
  go_ret
  exact ⟨rfl, Below.refl _ _⟩
 ·
  skip
  go_enter Tryz.func73, Tryz.ntmps73
  go_wp2
  go_ret
  exact ⟨rfl, Below.refl _ _⟩
theorem Jk6 (x n : Nat) : leB x (n + 1) = leB x n ++ [x / 2 ^ (8 * n) % 256] := by simp [leB, List.range_succ]
theorem J2k (x n : Nat) : (leB x n).length = n := by simp [leB]
theorem gWrite (l : List Nat) (x n : Nat) (hx : x < 18446744073709551616) (hn : n ≤ 8) (hl : l.length ≤ 1000000) (u : Value) (base g0 : Nat) (w : World) (h : OwB base w u l) (hat : OwnAt w g0 u) (hb : base ≤ w.heap.size) :
  Calls Tryz.prog 72 #[u, .int .u64 (x : Int), .int .i64 (n : Int)] w fun e w' => ∃ v', e = .returned v' ∧ OwB base w' v' (l ++ leB x n) ∧ OwnAt w g0 v' ∧ w.grownBy w' (some g0) := by
 have hx0 := Lib.hid hx
 have HL := Lib.hid hl
 clear hl hx
 go_enter Tryz.func72, Tryz.ntmps72
 go_wp2_with fail
 go_loopw [0, 1, 8] (fun t y i wr => ∃ k : Nat, k ≤ n ∧ i = .int .i64 k ∧ y = .int .u64 ((x / 2 ^ (8 * k) : Nat) : Int) ∧ OwB base wr t (l ++ leB x k) ∧ OwnAt w g0 t ∧ w.grownBy wr (some g0)) (fun _ _ i _ => n - (intOf i).toNat)
 case atStart => exact ⟨0, Nat.zero_le _, rfl, by simp, by simpa [leB] using h, hat, Jbm _ _⟩
 case round =>
  obtain ⟨k, hk, rfl, rfl, ho, hat, hg⟩ := hrel
  obtain ⟨A, cap, rfl⟩ := ho.len
  have hlen : (l ++ leB x k).length = l.length + k := by rw [List.length_append, J2k]
  have hLb := HL.out
  have hsz := hg.size
  by_cases hlt : k < n
  ·
   go_upto_region 3 with (fail)
   refine wp_region_lit ?_
   obtain ⟨y, hy⟩ : ∃ y, y = x / 2 ^ (8 * k) := ⟨_, rfl⟩
   have hyx : y < 18446744073709551616 := by rw [hy]; exact Nat.lt_of_le_of_lt (Nat.div_le_self _ _) hx0.out
   have hnx : x / 2 ^ (8 * (k + 1)) = y / 256 := by rw [hy, Nat.div_div_eq_div_mul, show 8 * (k + 1) = 8 * k + 8 by omega, Nat.pow_add]
   have HNX := Lib.hid hnx
   have HSC : leB x (k + 1) = leB x k ++ [y % 256] := by rw [Jk6, hy]
   have HS := Lib.hid HSC
   rw [← hy]
   clear hnx HSC hy
   have hsmall : (l ++ leB x k).length ≤ 9000000 := by omega
   have HC : Hid (l ++ leB x (k + 1) = (l ++ leB x k) ++ [y % 256]) := Lib.hid (by rw [HS.out, List.append_assoc])
   clear hlen HS
   generalize l ++ leB x k = L at *
   iterate 3 (refine wpList_plain rfl fun K hK => ?_; go_big_op; refine hK _ _ ?_; clear hK K)
   refine Je6 (c := y % 256) rfl rfl _ _ _ rfl rfl (by simp [Act.eval]) (fun _ => rfl) (fun _ => rfl) ho hat hg (by omega) (by first | omega | (have := hg.size; omega)) fun v5 v6 w6 o6 hat6 hg6 => ?_
   rw [← HC.out] at o6
   clear ho hat hg
   obtain ⟨L2, hL2⟩ : ∃ L2, L2 = l ++ leB x (k + 1) := ⟨_, rfl⟩
   rw [← hL2] at o6
   have HL2 := Lib.hid hL2
   clear hL2
   obtain ⟨A6, c6, rfl⟩ := o6.len
   go_wp2_with fail
   exact ⟨⟨k + 1, by omega, by go_num, by rw [HNX.out]; go_num, by rw [← HL2.out]; exact o6, hat6, hg6⟩, by simp [intOf]; omega⟩
  ·
   obtain rfl : k = n := by omega
   have HO := Lib.hid ho
   have HAT := Lib.hid hat
   clear ho hat
   go_wp2_with fail
   refine bodyPost_ret (v := .slice A (l ++ leB x k).length cap) (by simp [results, Tryz.results72, go_sem]) rfl ⟨_, rfl, HO.out, HAT.out, hg⟩

def KX (X W : World) (u v : Value) : Prop := ∀ g t cs, Blk X g t cs → u.ownBlock ≠ some g → Blk W g t cs ∧ v.ownBlock ≠ some g
theorem KX.trans {X Y Z : World} {u v x : Value} (h : KX X Y u v) (k : KX Y Z v x) : KX X Z u x := fun g t cs hb hu => by
 obtain ⟨q1, q2⟩ := h g t cs hb hu
 exact k g t cs q1 q2
theorem KX.of_below {X Y : World} {u : Value} (h : Below X.heap.size X Y) : KX X Y u u := fun g t cs hb hu => ⟨hb.keep h, hu⟩
theorem KX.new {base : Nat} {X : World} {u : Value} {l : List Nat} (hown : OwB base X u l) {g : Nat} (hg : X.heap.size ≤ g) : u.ownBlock ≠ some g := fun e => by
 have := (Jk hown e).2
 omega
theorem Jk7 (l m : List Nat) : byc (l ++ m) = byc l ++ byc m := by simp [byc]
theorem J20 {o : Oper} {a : Act} {X : World} {base : Nat} {s x : Operand} {l m : List Nat} {u : Value} {ad : Addr} {mc : Nat} (ho : o.op = .call { callee := .builtin .append, args := #[s, x], argTypes := #[56, 56] })
  (hs : a.eval s = u) (hx : a.eval x = .slice (some ad) m.length mc) (hown : OwB base X u l) (hsrc : ∀ j v, (byc m)[j]? = some v → X.cell? (ad.add j) = some v) (hl : l.length ≤ 10000000) (hm : m.length ≤ 10000000) (hbase : base ≤ X.heap.size) :
  stepAt Tryz.prog o a X fun v' w' => OwB base w' v' (l ++ m) ∧ KX X w' u v' ∧ Below base X w' := by
 obtain ⟨iu8, hu8, uz0, uz1, uz2⟩ := info_parts J22
 obtain ⟨v', w', hr, h2, h3, h4, h5⟩ := run_append_own_at (P := Tryz.prog) X base 56 o.type 5 iu8 _ 1 1 J10 hu8 uz0 uz1 uz2 rfl (by decide) u l.length (byc l) hown ad m.length mc (byc m) (by rw [J4q, Nat.mul_one]) hsrc (J4e m) (by unfold maxLen; omega) (by omega) hbase
 unfold stepAt execOp
 simp only [ho, resolve, invoke, builtin, Sem.run_bind, Sem.run_pure, Result.andThen_ok, List.map_toArray, List.map_cons, List.map_nil, hs, hx, hr]
 refine ⟨?_, ?_, (Below.refl _ _).grown h3 hbase (fun g hg => (Jk hown hg).1)⟩
 ·
  unfold OwB
  rw [Jk7, List.length_append]
  exact h2
 ·
  intro g t cs hb hu
  refine ⟨(h3.block g hb.lt (fun e => hu e.symm)).trans hb, fun e => ?_⟩
  have := hb.lt
  rcases h5 with h | h
  · exact hu (by rw [← h]; exact e)
  · rw [h] at e; cases e; omega
theorem J3m {X : World} {n : Nat} {t : TypeId} {m : List Nat} (hb : Blk X n t (byc m).toArray) : ∀ j v, (byc m)[j]? = some v → X.cell? ((⟨n, 0, none⟩ : Addr).add j) = some v := fun j v hj => by
 rw [Addr.add_lit, Nat.zero_add, hb.cell]
 simpa using hj
theorem gWriteK (l : List Nat) (x n : Nat) (hx : x < 18446744073709551616) (hn : n ≤ 8) (hl : l.length ≤ 1000000) (u : Value) (base : Nat) (w : World) (h : OwB base w u l) (hb : base ≤ w.heap.size) :
  Calls Tryz.prog 72 #[u, .int .u64 (x : Int), .int .i64 (n : Int)] w fun e w' => ∃ v', e = .returned v' ∧ OwB base w' v' (l ++ leB x n) ∧ KX w w' u v' ∧ Below base w w' := by
 cases hu : u.ownBlock with
 | none =>
  refine (gWrite l x n hx hn hl u base w.heap.size w h (fun g hg => by rw [hu] at hg; cases hg) hb).mono ?_
  rintro e w' ⟨v', rfl, ho, hat, hg⟩
  refine ⟨v', rfl, ho, fun g t cs hk _ => ⟨(hg.block g hk.lt (fun e => by cases e; exact Nat.lt_irrefl _ hk.lt)).trans hk, fun e => ?_⟩, hg.os, hg.tape, hg.output, hg.size, fun k hk => hg.block k (by omega) (fun e => by cases e; omega)⟩
  have := hk.lt
  rcases hat g e with h | h <;> omega
 | some g0 =>
  have hg0 := Jk h hu
  refine (gWrite l x n hx hn hl u base g0 w h (fun g hg => by rw [hu] at hg; cases hg; exact .inl rfl) hb).mono ?_
  rintro e w' ⟨v', rfl, ho, hat, hg⟩
  refine ⟨v', rfl, ho, fun g t cs hk hne => ⟨(hg.block g hk.lt (fun e => hne (by rw [hu]; exact e.symm))).trans hk, fun e => ?_⟩, hg.os, hg.tape, hg.output, hg.size, fun k hk => hg.block k (by omega) (fun e => by cases e; omega)⟩
  have := hk.lt
  rcases hat g e with h | h
  · exact hne (by rw [hu, h])
  · omega
theorem gWriteF (l : List Nat) (x : Fp) (hl : l.length ≤ 1000000) (u : Value) (base : Nat) (w : World) (h : OwB base w u l) (hb : base ≤ w.heap.size) :
  Calls Tryz.prog 72 #[u, .int .u64 (fv x), .int .i64 8] w fun e w' => ∃ v', e = .returned v' ∧ OwB base w' v' (l ++ leB (fv x).toNat 8) ∧ KX w w' u v' ∧ Below base w w' := by
 have := gWriteK l (fv x).toNat 8 (fv_nat x).2 (by decide) hl u base w h hb
 rwa [(fv_nat x).1] at this
theorem gWrite0 (x n : Nat) (hx : x < 18446744073709551616) (hn : n ≤ 8) (w : World) : Calls Tryz.prog 72 #[.slice none 0 0, .int .u64 (x : Int), .int .i64 (n : Int)] w (RetR (OwA (leB x n)) w) :=
 (gWriteK [] x n hx hn (by decide) (.slice none 0 0) w.heap.size w ⟨rfl, .inl ⟨rfl, rfl⟩⟩ (Nat.le_refl _)).mono fun e w' ⟨v, he, ho, hk, hB⟩ => ⟨v, he, ho.a, hB⟩
def Pfx (m : Mt) (L : List Nat) : Prop := ∃ R, encM m = L ++ R
theorem Pfx.len {m : Mt} {L : List Nat} (h : Pfx m L) : L.length ≤ (encM m).length := by
 obtain ⟨R, hR⟩ := h
 rw [hR, List.length_append]
 exact Nat.le_add_right _ _
theorem Pfx.pre {m : Mt} {L M : List Nat} (h : Pfx m (L ++ M)) : Pfx m L := by
 obtain ⟨R, hR⟩ := h
 exact ⟨M ++ R, by rw [hR, List.append_assoc]⟩
theorem Pfx.of_take {m : Mt} {α : Type} {f : α → List Nat} {L : List Nat} {l : List α} (h : Pfx m (L ++ l.flatMap f)) (k : Nat) : Pfx m (L ++ (l.take k).flatMap f) := by
 obtain ⟨R, hR⟩ := h
 refine ⟨(l.drop k).flatMap f ++ R, ?_⟩
 rw [hR]
 conv => lhs; rw [← List.take_append_drop k l]
 rw [List.flatMap_append]
 simp only [List.append_assoc]
theorem J2x {α : Type} (f : α → List Nat) (l : List α) (k : Nat) (x : α) (h : l[k]? = some x) : (l.take (k + 1)).flatMap f = (l.take k).flatMap f ++ f x := by
 rw [List.take_add_one, h, List.flatMap_append]
 simp
def epH (e : Ep) : List Nat := e.log % 256 :: leB e.count 4 ++ [flB e.closed, e.pts.length % 256]
theorem J70 (e : Ep) : epB e = epH e ++ (e.pts.flatMap ptB ++ ([e.peaks.length % 256] ++ e.peaks.flatMap id)) := by
 unfold epB epH
 simp [List.flatMap_id]
def mtH (m : Mt) : List Nat := leB m.ver 8 ++ m.seed ++ [m.eps.length % 256]
theorem J60 (m : Mt) : encM m = mtH m ++ m.eps.flatMap epB := by
 unfold encM mtH
 simp
theorem J9n (p : Pt) : ptB p = [flB p.used] ++ p.V.flatMap extB := rfl
end Go.Proofs.YtoiampgfnidfdaaGreatDoor
