/-
  The library's Backward by contract, and a range over an iterator of two values a round whose rounds all go on.
  Reading bytes in mathematics: parsers that take exactly what was written.
  The program's reading of a number.
  An append onto a row without room; literals of bytes in their form.
  The program's transcripts: the next hash output.
  The program's transcripts: the challenge.
  The coordinates of a point in the program.
  The coordinates of a point in the reference.
-/
import Derived.Test.YtoiampgfnidfdaaGreatDoorRk26
import Derived.Test.YtoiampgfnidfdaaGreatDoorPa
import Derived.Test.YtoiampgfnidfdaaGreatDoorMs26
import Derived.ArgAppend
namespace Go.Proofs.YtoiampgfnidfdaaGreatDoor
open Go.RowKit

theorem wpIn_seqT {α : Type} {n : Nat} {P : Program} {g : Operand} {p1 p2 : Tmp} {assign body : Code} {Q : Exit → Act → World → Prop} {a : Act} {w : World} {gf : Nat} {lb : Array Value} {e1 e2 : α → Value} {S : Nat → Prop} {xs : List α} {N : Nat}
    (hseq : SeqStopsK .wide (n - 1) P gf lb (fun x => #[e1 x, e2 x]) (Keeps S) (fun ys => ys = xs) (fun _ => True) N w) (h1 : 1 ≤ n) (hg : a.eval g = .func (.func gf) #[] lb) (eg : ∀ args w, (callFunc gf args).run P w = .ok (.enter gf args) w)
    (hS : ∀ g, S g → g < w.heap.size) (I : List α → World → Prop) (hI : OwnFrom w.heap.size I) (hIs : ∀ pre W, I pre W → w.heap.size ≤ W.heap.size) (h0 : I [] w) (Ax : α → Act → World → Prop) (hAx : ∀ x a', OwnFrom w.heap.size (fun (_ : List α) W => Ax x a' W))
    (hassign : ∀ (l : Nat) (x : α) (W : World) (K : Act → World → Prop), w.heap.size ≤ W.heap.size → (∀ a' W', Below W.heap.size W W' → Ax x a' W' → K a' W') →
      assign.wpIn (Fence.wide.inRound l) (n - 1 - 1) P (Exit.then K (fun _ _ _ => False)) { tmps := boxAct p1 p2 e1 e2 a x, defers := [] } W)
    (hbody : ∀ (l : Nat) (pre : List α) (x : α) (W : World) (a' : Act), Ax x a' W → I pre W → pre.length < N →
      body.wpIn (Fence.wide.inRound l) (n - 1 - 1) P (fun e _ W' => e = .normal ∧ KeepsOthers W W' ∧ Keeps S W W' ∧ I (pre ++ [x]) W') a' W)
    (hdone : ∀ (D : Nat) (W : World), w.heap.size ≤ D → I xs W → W.heap[D]? = some (.deferred (some [])) → Q .normal { a with defers := { target := .collected D, args := #[] } :: a.defers } W) :
    (Code.rangeFunc g #[p1, p2] assign body).wpIn .wide n P Q a w := by
  refine wpIn_rangeFunc_ownH rfl h1 hg trivial eg hseq (fun h k => h.trans k) ?_ (Below.refl _ _) (fun _ => rfl) I (fun _ _ _ => False) hI (fun _ _ _ _ _ h _ _ => h) h0 Ax ?_ ?_ ?_ ?_ ?_
  · intro W l o o' hl h _ _
    exact ⟨by simp, fun g hg _ => World.putObj_heap_other (by have := hS g hg; omega)⟩
  · rintro x a' s W W' row h hg hr
    exact hAx x a' [] W W' row h hg hr
  · intro l pre x W K hi hK
    rw [boxAct_eq]
    refine hassign l x W K (hIs _ _ hi) ?_
    intro a' W' hb ha
    exact hK a' _ ((keepsOthers_of_below hb).from _) (Keeps.of_below hb) (hI _ _ _ none hi (grown_of_below hb) (fun r e => by cases e)) ha
  · rintro l pre x a' W _ _ hi ha hlt
    refine wpIn_mono (hbody l pre x W a' ha hi hlt) ?_
    rintro e a2 W2 ⟨rfl, hk, hk2, hi2⟩
    exact ⟨hk.from _, hk2, hi2⟩
  · rintro D ys W hD rfl hi hK
    exact hdone D W hD hi hK
  · rintro D c pre W _ _ h _
    exact h.elim
def bkw {α : Type} (d : α) (l : List α) : List (Nat × α) := (List.range l.length).map fun m => (l.length - 1 - m, l.getD (l.length - 1 - m) d)
theorem bkw_length {α : Type} (d : α) (l : List α) : (bkw d l).length = l.length := by simp [bkw]
theorem bkw_next {α : Type} (d : α) (l : List α) (j : Nat) (x : α) (hj : l[j]? = some x) : (bkw d l).take (l.length - j) = (bkw d l).take (l.length - (j + 1)) ++ [(j, x)] := by
  have hl := (List.getElem?_eq_some_iff.1 hj).1
  rw [show l.length - j = (l.length - (j + 1)) + 1 by omega, List.take_add_one]
  congr 1
  unfold bkw
  rw [List.getElem?_map, List.getElem?_range (by omega)]
  simp only [Option.map_some, Option.toList_some]
  rw [show l.length - 1 - (l.length - (j + 1)) = j by omega, List.getD_eq_getElem?_getD, hj]
  rfl
theorem wrap64_in {n : Nat} (h : n ≤ 140737488355327) : wrap64 ((n : Int) - 1) = (n : Int) - 1 := by
  unfold wrap64
  omega
abbrev DgT := { d : Dg // DgOk d }
def dg0 : DgT := ⟨List.replicate 32 0, by simp, fun x hx => by rw [(List.mem_replicate.1 hx).2]; decide⟩
attribute [local go_sem] Oper.semAt_some
set_option maxRecDepth 100000 in
set_option maxHeartbeats 2000000 in
theorem bIter (l : List (Fin 256)) (v : Value) (n lo hi Bs : Nat) (hn : 1 ≤ n) (S : Nat → Prop) (w : World) (hp : ByS lo hi w v (l.map Fin.val)) (hBs : w.cell? ⟨Bs, 0, none⟩ = some v) (hB : Bs < w.heap.size) (hS0 : S Bs) (hS1 : ∀ g, lo ≤ g → g < hi → S g) :
    SeqStopsK .wide n Tryz.prog 147 #[.pointer (some ⟨Bs, 0, none⟩)] (fun x : Nat × Fin 256 => #[.int .i64 (x.1 : Int), .int .u8 (x.2.val : Int)]) (Keeps S) (fun ys => ys = bkw 0 l) (fun _ => True) l.length w := fun d J Jx W hW hJ hJx hY h0 => by
  obtain ⟨A, cap, hv0⟩ := hp.len
  rw [List.length_map] at hv0
  subst hv0
  have hBs' := (hW.cell (p := ⟨Bs, 0, none⟩) hB).trans hBs
  have hp' := Rd.keep hp hW
  have hps : l.length ≤ 140737488355327 := by have := hp.2.1; rwa [List.length_map] at this
  have hop := open_wide Tryz.prog
  have hSB := hS0
  refine callsIn_of_wp Tryz.func147 rfl trivial ?_ rfl
  simp only [Tryz.ntmps147, List.size_toArray, List.length_cons, List.length_nil, Nat.reduceAdd, Nat.reduceSub, Array.replicate_succ, Array.replicate_zero, List.push_toArray, List.append_toArray, List.nil_append, List.cons_append]
  gi_wp2
  gi_loopw [3] (fun i wr => ∃ k : Nat, k ≤ l.length ∧ i = .int .i64 ((k : Int) - 1) ∧ J ((bkw 0 l).take (l.length - k)) wr ∧ Keeps S W wr) (fun i _ => (intOf i + 1).toNat)
  case atStart => exact ⟨l.length, Nat.le_refl _, by first | rfl | rw [wrap64_in hps], by simpa using h0, Keeps.refl _⟩
  case round =>
    obtain ⟨k, hk, rfl, hJs, hnx⟩ := hrel
    rcases k with _ | j
    · rw [Nat.sub_zero, List.take_of_length_le (by rw [bkw_length]; exact Nat.le_refl _)] at hJs
      gi_wp2
      go_end0
      exact ⟨⟨_, rfl⟩, .inl ⟨_, rfl, hJs⟩⟩
    · rw [show ((j + 1 : Nat) : Int) - 1 = (j : Int) by omega]
      obtain ⟨x, hx⟩ : ∃ x, l[j]? = some x := ⟨l[j], List.getElem?_eq_getElem (by omega)⟩
      have cB := hnx.cell hSB hBs'
      obtain ⟨g, off, cap', hv, q1, q2, q3, q4, q5⟩ := Rd.form hp' (by rw [List.length_map]; omega)
      rw [List.length_map] at hv
      cases hv
      have d1 := hnx.cell (hS1 g q2 q3) (q5 j (.int .u8 (x.val : Int)) (by simp [byc, hx]))
      have hBz : Bs < wr.heap.size := by have := hnx.size; have := hW.size; omega
      have hgz : g < wr.heap.size := by have := hnx.size; omega
      have HY := Lib.hid hY
      have HX := Lib.hid (bkw_next 0 l j x hx)
      have hlb := hps
      clear q5 hY hJ hJx hx
      gi_wp2_with fail
      obtain ⟨fn, tmps, assign, body, hy, hR⟩ := HY.out ((bkw 0 l).take (l.length - (j + 1))) (j, x) wr hJs (by rw [List.length_take, bkw_length]; omega)
      have hjw := wrap64_in (n := j) (by omega)
      try unfold dgv at hy
      clear cB d1
      gi_wp2
      refine hR.mono ?_
      rintro e W3 (⟨rfl, hJ3, hk3⟩ | ⟨rfl, hJx3⟩)
      · gi_wp2
        go_roundw
        case rel => exact ⟨j, by omega, by first | rfl | rw [hjw], by rw [HX.out]; exact hJ3, hnx.trans hk3⟩
        case measure => first | (simp [intOf]; done) | (simp [intOf]; omega)
      · gi_wp2
        refine bodyPost_ret (results_none rfl _ _ _) rfl ?_
        exact ⟨⟨_, rfl⟩, .inr ⟨_, trivial, hJx3⟩⟩
set_option maxRecDepth 100000 in
set_option maxHeartbeats 2000000 in
theorem dIter (l : List DgT) (v : Value) (n hi Bs : Nat) (hn : 1 ≤ n) (S : Nat → Prop) (w : World) (hp : DgsA w v (l.map Subtype.val)) (hlo : Rd 0 hi 32 w v (l.map Subtype.val).length ((l.map Subtype.val).flatMap byc)) (hBs : w.cell? ⟨Bs, 0, none⟩ = some v) (hB : Bs < w.heap.size) (hS0 : S Bs) (hS1 : ∀ g, g < hi → S g) :
    SeqStopsK .wide n Tryz.prog 137 #[.pointer (some ⟨Bs, 0, none⟩)] (fun x : Nat × DgT => #[.int .i64 (x.1 : Int), dgv x.2.val]) (Keeps S) (fun ys => ys = bkw dg0 l) (fun _ => True) l.length w := fun d J Jx W hW hJ hJx hY h0 => by
  have hps : l.length ≤ 140737488355327 := by have := hp.1.2.1; rwa [List.length_map] at this
  obtain ⟨A, cap, hv0⟩ := hp.len
  rw [List.length_map] at hv0
  subst hv0
  have hBs' := (hW.cell (p := ⟨Bs, 0, none⟩) hB).trans hBs
  have hp' := hp.keep hW
  have hop := open_wide Tryz.prog
  have hSB := hS0
  refine callsIn_of_wp Tryz.func137 rfl trivial ?_ rfl
  simp only [Tryz.ntmps137, List.size_toArray, List.length_cons, List.length_nil, Nat.reduceAdd, Nat.reduceSub, Array.replicate_succ, Array.replicate_zero, List.push_toArray, List.append_toArray, List.nil_append, List.cons_append]
  gi_wp2
  gi_loopw [3] (fun i wr => ∃ k : Nat, k ≤ l.length ∧ i = .int .i64 ((k : Int) - 1) ∧ J ((bkw dg0 l).take (l.length - k)) wr ∧ Keeps S W wr) (fun i _ => (intOf i + 1).toNat)
  case atStart => exact ⟨l.length, Nat.le_refl _, by first | rfl | rw [wrap64_in hps], by simpa using h0, Keeps.refl _⟩
  case round =>
    obtain ⟨k, hk, rfl, hJs, hnx⟩ := hrel
    rcases k with _ | j
    · rw [Nat.sub_zero, List.take_of_length_le (by rw [bkw_length]; exact Nat.le_refl _)] at hJs
      gi_wp2
      go_end0
      exact ⟨⟨_, rfl⟩, .inl ⟨_, rfl, hJs⟩⟩
    · rw [show ((j + 1 : Nat) : Int) - 1 = (j : Int) by omega]
      obtain ⟨x, hx⟩ : ∃ x, l[j]? = some x := ⟨l[j], List.getElem?_eq_getElem (by omega)⟩
      have cB := hnx.cell hSB hBs'
      have hxm : (l.map Subtype.val)[j]? = some x.val := by rw [List.getElem?_map, hx]; rfl
      obtain ⟨g, off, cap', hv, q1, q2, q3, q4⟩ := hp'.at hxm
      rw [List.length_map] at hv
      have hgs : g < hi := by
        obtain ⟨g2, o2, c2, hv2, -, -, r2, -⟩ := Rd.form hlo (by rw [List.length_map]; omega)
        rw [List.length_map] at hv2
        rw [hv] at hv2
        cases hv2
        exact r2
      cases hv
      have d1 : wr.rangeAt g (off + j * 32) (byc x.val) := fun i u hu => hnx.cell (hS1 g hgs) (q3 i u hu)
      have hBz : Bs < wr.heap.size := by have := hnx.size; have := hW.size; omega
      have hgz : g < wr.heap.size := by have := hnx.size; omega
      have HY := Lib.hid hY
      have HX := Lib.hid (bkw_next dg0 l j x hx)
      have hlb : l.length ≤ 140737488355327 := hps
      clear q3 hY hJ hJx hx hxm
      gi_upto_region 3 with (fail)
      refine wpIn_region_lit ?_
      iterate 5 (refine wpListIn_plain rfl fun K hK => ?_; gi_step; refine hK _ _ ?_; clear hK K)
      refine wpListIn_plain rfl fun K7 hK7 => wpIn_of_step hop rfl (stepAt_mono (fun v16 w16 hh => ?_) (step_loadR0 (cs := byc x.val) b32_under rfl (by rw [b32_size, byc_length, q4.1]) rfl rfl d1))
      obtain ⟨rfl, rfl⟩ := hh
      refine hK7 _ _ ?_
      clear hK7 K7
      try simp only [Act.put, List.setIfInBounds_toArray, List.set_cons_succ, List.set_cons_zero]
      obtain ⟨fn, tmps, assign, body, hy, hR⟩ := HY.out ((bkw dg0 l).take (l.length - (j + 1))) (j, x) w16 hJs (by rw [List.length_take, bkw_length]; omega)
      have hjw := wrap64_in (n := j) (by omega)
      try unfold dgv at hy
      clear cB d1
      gi_wp2
      refine hR.mono ?_
      rintro e W3 (⟨rfl, hJ3, hk3⟩ | ⟨rfl, hJx3⟩)
      · gi_wp2
        go_roundw
        case rel => exact ⟨j, by omega, by first | rfl | rw [hjw], by rw [HX.out]; exact hJ3, hnx.trans hk3⟩
        case measure => first | (simp [intOf]; done) | (simp [intOf]; omega)
      · gi_wp2
        refine bodyPost_ret (results_none rfl _ _ _) rfl ?_
        exact ⟨⟨_, rfl⟩, .inr ⟨_, trivial, hJx3⟩⟩
end Go.Proofs.YtoiampgfnidfdaaGreatDoor
namespace Go.Proofs.YtoiampgfnidfdaaGreatDoor

def leN : List Nat → Nat
  | [] => 0
  | b :: r => b + 256 * leN r
theorem leN_lt : ∀ l : List Nat, (∀ x ∈ l, x < 256) → leN l < 256 ^ l.length
  | [], _ => by simp [leN]
  | b :: r, h => by
    have h1 := h b (List.mem_cons_self ..)
    have h2 := leN_lt r fun x hx => h x (List.mem_cons_of_mem _ hx)
    rw [leN, List.length_cons, Nat.pow_succ]
    omega
/-! ### What is taken is taken from the front -/
/-! ### What was written is read; what is read was written -/
end Go.Proofs.YtoiampgfnidfdaaGreatDoor
namespace Go.Proofs.YtoiampgfnidfdaaGreatDoor
open Go.RowKit

theorem gBackB (A : Option Addr) (m cap : Nat) (w : World) : Calls Tryz.prog 125 #[.slice A m cap] w fun e w' =>
    e = .returned (.func (.func 147) #[] #[.pointer (some ⟨w.heap.size, 0, none⟩)]) ∧ w' = w.alloc (.cells #[.slice A m cap] 56) := by
  go_enter Tryz.func125, Tryz.ntmps125
  go_wp2
  go_ret
  exact ⟨rfl, rfl⟩
theorem keepsS_set {S : Nat → Prop} (W : World) (p : Addr) (v : Value) (h : ¬ S p.block) : Keeps S W (W.setCell p v) :=
  ⟨by simp, fun g hg _ => Below.heap_setCell _ p _ g (fun e => h (e ▸ hg))⟩
def accB8 (pre : List (Nat × Fin 256)) : Nat := pre.foldl (fun a x => a * 256 + x.2.val) 0
theorem accB8_snoc (pre : List (Nat × Fin 256)) (x : Nat × Fin 256) : accB8 (pre ++ [x]) = accB8 pre * 256 + x.2.val := by unfold accB8; rw [List.foldl_append]; rfl
theorem accB8_lt (pre : List (Nat × Fin 256)) : accB8 pre < 256 ^ pre.length := by
  have h : ∀ (n : Nat) (l : List (Nat × Fin 256)), l.length = n → accB8 l < 256 ^ n := by
    intro n
    induction n with
    | zero => intro l hl; rw [List.eq_nil_of_length_eq_zero hl]; decide
    | succ n ih =>
      intro l hl
      rcases List.eq_nil_or_concat l with h0 | ⟨q, y, rfl⟩
      · rw [h0] at hl; cases hl
      · rw [List.concat_eq_append, accB8_snoc, Nat.pow_succ]
        have h1 := ih q (by simpa using hl)
        have h2 := y.2.isLt
        omega
  exact h _ pre rfl
theorem leN_snoc : ∀ (l : List Nat) (x : Nat), leN (l ++ [x]) = leN l + 256 ^ l.length * x
  | [], x => by simp [leN]
  | b :: r, x => by
    rw [List.cons_append, leN, leN_snoc r x, leN, List.length_cons, Nat.pow_succ, Nat.mul_comm (256 ^ r.length) 256, Nat.mul_assoc, Nat.mul_add]
    omega
theorem accB8_all (l : List (Fin 256)) : accB8 (bkw 0 l) = leN (l.map Fin.val) := by
  have h : ∀ j, j ≤ l.length → accB8 ((bkw 0 l).take (l.length - j)) = leN ((l.drop j).map Fin.val) := by
    intro j hj
    obtain ⟨n, hn⟩ : ∃ n, n = l.length - j := ⟨_, rfl⟩
    induction n generalizing j with
    | zero => rw [← hn, List.take_zero, List.drop_eq_nil_of_le (by omega)]; rfl
    | succ n ih =>
      have hx : l[j]? = some l[j] := List.getElem?_eq_getElem (by omega)
      rw [bkw_next 0 l j _ hx, accB8_snoc, ih (j + 1) (by omega) (by omega), List.drop_eq_getElem_cons (by omega : j < l.length), List.map_cons, leN]
      dsimp only
      omega
  have := h 0 (Nat.zero_le _)
  rwa [Nat.sub_zero, List.take_of_length_le (by rw [bkw_length]; exact Nat.le_refl _)] at this
theorem fin_map (l : List Nat) (h : ∀ x ∈ l, x < 256) : ∃ t : List (Fin 256), t.map Fin.val = l :=
  ⟨l.map (Fin.ofNat 256), by
    rw [List.map_map]
    refine (List.map_congr_left fun x hx => ?_).trans (List.map_id _)
    exact Nat.mod_eq_of_lt (h x hx)⟩
attribute [local go_sem] Oper.semAt_some
set_option maxRecDepth 100000 in
set_option maxHeartbeats 4000000 in
theorem gRead (l : List Nat) (hl : l.length ≤ 8) (h8 : ∀ x ∈ l, x < 256) (v : Value) (lo hi : Nat) (w : World) (h : ByS lo hi w v l) : Calls Tryz.prog 101 #[v] w (Ret (.int .u64 (leN l : Nat)) w) := by
  obtain ⟨t, rfl⟩ := fin_map l h8
  clear h8
  rw [List.length_map] at hl
  have h0 := (bys_base h)
  obtain ⟨A, cap, rfl⟩ := h.len
  rw [List.length_map] at *
  have HV := Lib.hid h0
  clear h h0
  refine (callsIn_wide (n := 3)).1 ?_
  refine callsIn_of_wp_marks Tryz.func101 rfl trivial ?_ rfl
  simp only [Tryz.ntmps101, List.size_toArray, List.length_cons, List.length_nil, Nat.reduceAdd, Nat.reduceSub, Array.replicate_succ, Array.replicate_zero, List.push_toArray, List.append_toArray, List.nil_append, List.cons_append]
  gi_upto_region 1 with (fail)
  refine stk1 (M := fun W => Code.wpIn _ _ _ _ _ _ W) fun W hB hz b2 => ?_
  have hWs : W.heap.size = w.heap.size + 1 := hz.out
  clear hz
  gi_wp2_with fail
  refine ⟨trivial, (callsIn_wide.2 (gBackB A t.length cap W)).mono ?_⟩
  rintro e w2 ⟨rfl, rfl⟩
  gi_wp2_with fail
  refine stk1 (M := fun W => Code.wpIn _ _ _ _ _ _ W) fun Y hBY hzY c1 => ?_
  have hYs : Y.heap.size = w.heap.size + 1 + 1 := by rw [hzY.out, hWs]
  rw [hWs] at c1
  have b2Y := b2.keep hBY
  have hBw := hB.trans (hBY.mono hB.size)
  have HVY := Lib.hid (HV.out.keep hBw)
  clear hzY b2 hBY hB
  refine wpIn_seqT (S := fun g => g < w.heap.size ∨ g = w.heap.size + 1) (bIter t (.slice A t.length cap) 2 0 w.heap.size (w.heap.size + 1) (by decide) _ Y HVY.out (c1.cell 0) (by omega) (.inr rfl) (fun g _ hg => .inl hg)) (by decide) rfl (enters_of Tryz.func147 (by kernel_rfl) rfl) (fun g hg => by rcases hg with hg | hg <;> omega)
    (fun pre W => Blk W w.heap.size 32 #[.int .u64 (accB8 pre : Nat)] ∧ Below w.heap.size w W ∧ Y.heap.size ≤ W.heap.size)
    ?hI (fun pre W h => h.2.2) ?h0 (fun x a' W => a' = { tmps := #[.slice A t.length cap, undef, .pointer (some ⟨w.heap.size, 0, none⟩), undef, .int .u8 (x.2.val : Int), .slice A t.length cap, .func (.func 147) #[] #[.pointer (some ⟨w.heap.size + 1, 0, none⟩)], .int .i64 (x.1 : Int), .int .u8 (x.2.val : Int), undef, undef, undef, undef, undef, undef], defers := [] }) (fun x a' s W W' row h _ _ => h) ?assign ?body ?done
  case hI =>
    rintro pre W W' row ⟨q1, q2, q3⟩ hg hr
    exact ⟨blk_own (β := Unit) () W W' row q1 hg hr, ownFrom_below (β := Unit) (Nat.le_refl _) (by omega) () W W' row q2 hg hr, Nat.le_trans q3 hg.size⟩
  case h0 => exact ⟨b2Y, hBw, Nat.le_refl _⟩
  case assign =>
    intro l x W K _ hK
    simp only [boxAct, List.setIfInBounds_toArray, List.set_cons_succ, List.set_cons_zero]
    gi_wp2_with fail
    exact hK _ _ (Below.refl _ _) rfl
  case body =>
    rintro l pre x W a' rfl ⟨q1, q2, q3⟩ hlt
    have hm : accB8 pre < 72057594037927936 := by
      have h1 := accB8_lt pre
      have h2 : 256 ^ pre.length ≤ 256 ^ 7 := Nat.pow_le_pow_right (by decide) (by omega)
      have h3 : (256 : Nat) ^ 7 = 72057594037927936 := rfl
      omega
    have HS := Lib.hid (accB8_snoc pre x)
    have hx := x.2.isLt
    generalize accB8 pre = m at *
    obtain ⟨y, hy⟩ : ∃ y, y = x.2.val := ⟨_, rfl⟩
    rw [← hy] at hx HS ⊢
    clear hy
    have HO := Lib.hid (u64_shl_or m y hm hx)
    have c1 := q1.cell
    have c2 := q1.frozen
    gi_wp2_with fail
    rw [HO.out, HS.out]
    exact ⟨KeepsOthers.setCell _ _ _, keepsS_set _ _ _ (by simp), q1.set_ 0 _, q2.setCell (p := ⟨w.heap.size, 0, none⟩) (Nat.le_refl _) _, by omega⟩
  case done =>
    intro D V hD ⟨q1, q2, q3⟩ hK
    rw [accB8_all] at q1
    generalize leN (t.map Fin.val) = y at *
    have e1 := q1.cell
    have e2 := q1.frozen
    gi_wp2_with fail
    obtain ⟨Z, hZ⟩ : ∃ Z, V.setCell ⟨w.heap.size, 0, none⟩ (.int .u64 (y : Int)) = Z := ⟨_, rfl⟩
    rw [hZ]
    have bZ : Blk Z w.heap.size 32 #[.int .u64 (y : Int)] := by rw [← hZ]; exact q1.set_ 0 _
    have hBZ : Below w.heap.size w Z := by rw [← hZ]; exact q2.setCell (p := ⟨w.heap.size, 0, none⟩) (Nat.le_refl _) _
    have hne : D ≠ w.heap.size := by omega
    have hKZ : Z.heap[D]? = some (.deferred (some [])) := by
      rw [← hZ, Below.heap_setCell _ ⟨w.heap.size, _, none⟩ _ D hne]
      exact hK
    refine ⟨by simp, .inl ⟨_, _, rfl, run_takeDeferred hKZ, ?_⟩⟩
    have bZ' : Blk (Z.putObj D (.deferred none)) w.heap.size 32 #[.int .u64 (y : Int)] := (World.putObj_heap_other (Ne.symm hne)).trans bZ
    have e4 := bZ'.cell
    refine ⟨.int .u64 (y : Int), ?_, ?_⟩
    · simp [results, Tryz.results101, go_sem, e4]
    · exact ⟨rfl, below_putObj hBZ D _ (by omega)⟩
end Go.Proofs.YtoiampgfnidfdaaGreatDoor
namespace Go.Proofs.YtoiampgfnidfdaaGreatDoor
open Go.RowKit

theorem step_grows {P : Program} {o : Oper} {a : Act} {w : World} {s x : Operand} {t e : TypeId} {i : TypeInfo} {z : Value} {size bytes n m lo hi lo2 hi2 : Nat} {ao : Option Addr} {olds news : List Value} {v2 : Value}
    (ho : o.op = .call { callee := .builtin .append, args := #[s, x], argTypes := #[t, t] }) (ht : P.underlying t = some (.slice e)) (hie : P.info? e = some i) (hz : i.zero = some z) (hsize : i.size = size) (hby : i.bytes = bytes) (hzs : z.cells.size = size) (hsz : 0 < size)
    (h1 : ∀ u ∈ news, u.oneCell' = true) (hs : a.eval s = .slice ao n n) (hnone : ao = none → n = 0) (hx : a.eval x = v2) (hr1 : Rd lo hi size w (.slice ao n n) n olds) (hr2 : Rd lo2 hi2 size w v2 m news) (hm : 0 < m) (hk : n + m ≤ maxLen) (hk2 : (n + m) * bytes ≤ 140737488355328) :
    stepAt P o a w fun v' w' => w'.ownsRow w.heap.size e size v' (n + m) (olds ++ news) ∧ Below w.heap.size w w' := by
  obtain ⟨g2, off2, c2, rfl, -, -, -, q2, q3⟩ := Rd.form hr2 hm
  have hcell : ∀ j u, news[j]? = some u → w.cell? (Addr.add ⟨g2, off2, none⟩ j) = some u := fun j u hj => by rw [Addr.add_lit]; exact q3 j u hj
  cases ao with
  | some b =>
    have hold : ∀ j u, olds[j]? = some u → w.cell? (b.add j) = some u := by
      rcases Nat.eq_zero_or_pos n with h0 | h0
      · subst h0
        have : olds = [] := List.eq_nil_of_length_eq_zero (by rw [hr1.1]; omega)
        intro j u hj
        rw [this] at hj
        cases hj
      · obtain ⟨g, off, c, hv, -, -, -, -, q⟩ := Rd.form hr1 h0
        cases hv
        exact fun j u hj => by rw [Addr.add_lit]; exact q j u hj
    obtain ⟨v', w', hrun, r1, r2⟩ := run_append_arg_grows (P := P) w t o.type e i z size bytes ht hie hz hsize hby hzs hsz b n n olds hr1.1 hold ⟨g2, off2, none⟩ m c2 news hr2.1 hcell (by omega) hk hk2
    unfold stepAt execOp
    simp only [ho]
    simp [resolve, invoke, builtin, hs, hx, hrun, Result.andThen]
    exact ⟨r1, below_of_grown r2⟩
  | none =>
    obtain rfl := hnone rfl
    obtain rfl : olds = [] := List.eq_nil_of_length_eq_zero (by rw [hr1.1]; omega)
    obtain ⟨v', w', hrun, r1, r2, _⟩ := run_append_own (P := P) w w.heap.size t o.type e i z size bytes ht hie hz hsize hby hzs hsz (.slice none 0 0) 0 [] (World.ownsRow_nil w _ e size) ⟨g2, off2, none⟩ m c2 news hr2.1 hcell h1 hk hk2 (Nat.le_refl _)
    unfold stepAt execOp
    simp only [ho]
    simp [resolve, invoke, builtin, hs, hx, hrun, Result.andThen]
    exact ⟨by simpa using r1, below_of_grown (show w.grownBy w' none from r2)⟩
theorem step_litL {o : Oper} {a : Act} {w : World} {len : Nat} {parts : List (Nat × Operand)} (l : List Nat) (hl : l.length = len) (h0 : 0 < len) (hs : len ≤ 1000000) (ho : o.op = .buildSlice 56 len parts.toArray)
    (hv : (parts.map fun x => (x.1, a.eval x.2)) = ((byc l).zipIdx 0).map fun x => (x.2, x.1)) : stepAt Tryz.prog o a w fun v w' => v = .slice (some ⟨w.heap.size, 0, none⟩) len len ∧ ByS w.heap.size w'.heap.size w' v l ∧ Below w.heap.size w w' := by
  obtain ⟨iu8, hu8, uz0, uz1, uz2⟩ := info_parts u8_info
  refine stepAt_mono (fun v w' hh => ?_) (step_litF u8_slice hu8 uz0 uz1 (by rw [byc_length]; exact hl) h0 (by omega) ho hv (fun v hv => ?_))
  · obtain ⟨⟨rfl, h1, h2⟩, h3⟩ := hh
    subst hl
    exact ⟨rfl, bys_blk h2 hs (Nat.le_refl _) h1, h3⟩
  · obtain ⟨x, _, rfl⟩ := List.mem_map.1 hv
    rfl
theorem step_catG {o : Oper} {a : Act} {w : World} {s x : Operand} {l m : List Nat} {ao : Option Addr} {v2 : Value} {lo hi lo2 hi2 : Nat} (ho : o.op = .call { callee := .builtin .append, args := #[s, x], argTypes := #[56, 56] })
    (hs : a.eval s = .slice ao l.length l.length) (hnone : ao = none → l.length = 0) (hx : a.eval x = v2) (h1 : ByS lo hi w (.slice ao l.length l.length) l) (h2 : ByS lo2 hi2 w v2 m) (hm : 0 < m.length) (hl : l.length ≤ 1000000) (hm2 : m.length ≤ 1000000) :
    stepAt Tryz.prog o a w fun v' w' => OwA (l ++ m) w.heap.size w'.heap.size v' w' ∧ Below w.heap.size w w' := by
  obtain ⟨iu8, hu8, uz0, uz1, uz2⟩ := info_parts u8_info
  refine stepAt_mono (fun v w' hh => ?_) (step_grows ho u8_slice hu8 uz0 uz1 uz2 rfl (by decide) (byc_one m) hs hnone hx h1 h2 hm (by unfold maxLen; omega) (by omega))
  refine ⟨OwB.a ?_, hh.2⟩
  unfold OwB
  rw [byc_app, List.length_append]
  exact hh.1
theorem OwA.form {l : List Nat} {lo hi : Nat} {v : Value} {w : World} (h : OwA l lo hi v w) (h0 : 0 < l.length) : ∃ g cap, v = .slice (some ⟨g, 0, none⟩) l.length cap ∧ l.length ≤ cap ∧ cap ≤ maxLen ∧ lo ≤ g ∧ g < hi := by
  rcases h.1.2 with ⟨_, h2⟩ | ⟨g, cap, cur, rfl, r1, r2, r3, r4, _⟩
  · omega
  · exact ⟨g, cap, rfl, r3, r4, r1, h.2 g rfl⟩
theorem le8_leN (d : List Nat) (o : Nat) (h : o + 8 ≤ d.length) : le8 d o 8 = leN ((d.drop o).take 8) := by
  have hl : 8 ≤ (d.drop o).length := by rw [List.length_drop]; omega
  have hg : ∀ j, d.getD (o + j) 0 = (d.drop o).getD j 0 := fun j => by
    rw [List.getD_eq_getElem?_getD, List.getD_eq_getElem?_getD, List.getElem?_drop]
  simp only [le8, Nat.sub_zero]
  rw [show o + 7 = o + 7 from rfl, hg 7, hg (7 - 1), hg (7 - 2), hg (7 - 3), hg (7 - 4), hg (7 - 5), hg (7 - 6), hg (7 - 7)]
  generalize d.drop o = l at *
  match l, hl with
  | a :: b :: c :: e :: f :: g :: p :: q :: r, _ =>
    simp [leN]
    omega
end Go.Proofs.YtoiampgfnidfdaaGreatDoor
namespace Go.Proofs.YtoiampgfnidfdaaGreatDoor
open Go.RowKit

attribute [local irreducible] wpRg
end Go.Proofs.YtoiampgfnidfdaaGreatDoor
namespace Go.Proofs.YtoiampgfnidfdaaGreatDoor
open Go.RowKit

theorem gRedF (x : Int) (h : Word x) (w : World) : Calls Tryz.prog 100 #[.int .u64 x] w (Ret (.int .u64 (fv (fz x))) w) :=
  (fRed x h.1 h.2 w).mono fun e w' ⟨he, hw⟩ => by
    subst hw
    exact ⟨by rw [he, fv_fz], Below.refl _ _⟩
attribute [local irreducible] wpRg
end Go.Proofs.YtoiampgfnidfdaaGreatDoor
namespace Go.Proofs.YtoiampgfnidfdaaGreatDoor
open Go.RowKit

theorem en_attestor_meter_read : ∀ args w, (callFunc 101 args).run Tryz.prog w = .ok (.enter 101 args) w := enters_of Tryz.func101 (by kernel_rfl) rfl
theorem en_attestor_meter_coordinates : ∀ args w, (callFunc 53 args).run Tryz.prog w = .ok (.enter 53 args) w := enters_of Tryz.func53 (by kernel_rfl) rfl
def cdK (seed : Dg) (n k log j : Nat) : List E := coordM seed n k j ++ List.replicate (log - j) 0
theorem cdK_len (seed : Dg) (n k log j : Nat) (h : j ≤ log) : (cdK seed n k log j).length = log := by simp [cdK, coordM]; omega
theorem cdK_zero (seed : Dg) (n k log : Nat) : cdK seed n k log 0 = List.replicate log 0 := by simp [cdK, coordM]
theorem cdK_all (seed : Dg) (n k log : Nat) : cdK seed n k log log = coordM seed n k log := by simp [cdK]
theorem cdK_get (seed : Dg) (n k log j : Nat) (h : j < log) : (cdK seed n k log j)[j]? = some 0 := by
  unfold cdK
  rw [List.getElem?_append_right (by rw [coordM_length]; exact Nat.le_refl _), coordM_length, Nat.sub_self, List.getElem?_replicate, if_pos (by omega)]
theorem cdK_set (seed : Dg) (n k log j : Nat) (h : j < log) : (cdK seed n k log j).set j (cdE (keyD seed (cdB n k j))) = cdK seed n k log (j + 1) := by
  unfold cdK
  rw [List.set_append_right _ _ (by rw [coordM_length]; exact Nat.le_refl _), coordM_length, Nat.sub_self, coordM_succ, show log - j = (log - (j + 1)) + 1 by omega, List.replicate_succ, List.set_cons_zero, List.append_assoc]
  rfl
theorem byc_part {W : World} {g : Nat} {t : TypeId} {d : List Nat} (h : Blk W g t (byc d).toArray) (hd : d.length = 32) (o m c : Nat) (ho : o + m ≤ 32) (hc : m ≤ c) : ByS 0 W.heap.size W (.slice (some ⟨g, o, none⟩) m c) ((d.drop o).take m) := by
  have hl : ((d.drop o).take m).length = m := by rw [List.length_take, List.length_drop, hd]; omega
  refine ⟨by rw [byc_length]; omega, by omega, some ⟨g, o, none⟩, c, by rw [hl], by omega, fun _ => ⟨g, o, rfl, Nat.zero_le _, h.lt, h.lt, fun j u hu => ?_⟩⟩
  rw [h.cell]
  unfold byc at hu ⊢
  rw [List.getElem?_map, List.getElem?_take] at hu
  split at hu
  · rw [List.getElem?_drop] at hu
    simpa using hu
  · cases hu
theorem keyD_ok (key : Dg) (b : List Nat) : DgOk (keyD key b) := ⟨sha_length _, sha_lt _⟩
attribute [local irreducible] wpRg
set_option maxRecDepth 100000 in
set_option maxHeartbeats 4000000 in
theorem gCoords (seed : Dg) (hs : DgOk seed) (n k log : Nat) (hn : n ≤ 1000000) (hk : k ≤ 1000000) (hl : log ≤ 200) (w : World) (hL : Lsh w) : Calls Tryz.prog 53 #[dgv seed, .int .i64 (n : Int), .int .i64 (k : Int), .int .i64 (log : Int)] w (RetR (ExtA (coordM seed n k log)) w) := by
  obtain ⟨Sk, hSk⟩ : ∃ S, S = dgv seed := ⟨_, rfl⟩
  rw [← hSk]
  have HL := Lib.hid hL
  have HS := Lib.hid hs
  clear hL hs
  go_enter Tryz.func53, Tryz.ntmps53
  go_upto_region 1 with (fail)
  refine wp_stk1 fun W hB hz b4 => ?_
  have b4' : Blk W w.heap.size 23 (byc seed).toArray := by first | exact b4 | (rw [hSk] at b4; exact b4)
  have hWs : W.heap.size = w.heap.size + 1 := hz.out
  clear b4 hz hSk
  have mk := mk_ext log (by omega) W
  rw [hWs] at mk
  go_upto_region 2 with (fail)
  refine wp_stk1 fun X hX hXz b9 => ?_
  rw [hWs] at b9
  have hXs : X.heap.size = w.heap.size + 1 + 1 := by rw [hXz.out, hWs]
  have hBX := hB.trans (hX.mono hB.size)
  have b4X := b4'.keep hX
  have b90 : Blk X (w.heap.size + 1) 86 ((cdK seed n k log 0).flatMap ec).toArray := by rw [cdK_zero]; exact b9
  clear hXz mk b4' b9 hX hB hWs
  refine wp_region_lit ?_
  refine wpList_plain rfl fun K1 hK1 => wp_of_step (stepAt_mono (fun v15 w15 hh => ?_) (step_litL [112, 111, 105, 110, 116] rfl (by decide) (by decide) rfl (by simp [Act.eval, byc])))
  obtain ⟨rfl, s15, B15⟩ := hh
  refine hK1 _ _ ?_
  clear hK1 K1
  try simp only [Act.put, List.setIfInBounds_toArray, List.set_cons_succ, List.set_cons_zero]
  simp only [List.length_cons, List.length_nil, Nat.zero_add, Nat.reduceAdd] at s15
  refine wpList_plain rfl fun K2 hK2 => wp_of_step (stepAt_mono (fun v16 w16 hh => ?_) (step_convB s15 (by decide) rfl rfl))
  obtain ⟨rfl, s16, B16⟩ := hh
  refine hK2 _ _ ?_
  clear hK2 K2
  try simp only [Act.put, List.setIfInBounds_toArray, List.set_cons_succ, List.set_cons_zero]
  have B156 := B15.trans B16
  iterate 4 (refine wpList_plain rfl fun K hK => ?_; go_big_op; refine hK _ _ ?_; clear hK K)
  refine wpList_plain rfl fun K4 hK4 => wp_of_step (stepAt_mono (fun v21 w21 hh => ?_) (step_litB [n % 256, k % 256] rfl (by simp) (by simp) rfl (by simp [Act.eval, byc])))
  obtain ⟨s21, B21⟩ := hh
  refine hK4 _ _ ?_
  clear hK4 K4
  try simp only [Act.put, List.setIfInBounds_toArray, List.set_cons_succ, List.set_cons_zero]
  have hz16 := B156.size
  refine wpList_plain rfl fun K5 hK5 => wp_of_step (stepAt_mono (fun v22 w22 hh => ?_) (step_catG (l := [112, 111, 105, 110, 116]) rfl rfl (fun h => by cases h) rfl (s16.keep B21) s21 (by simp) (by decide) (by simp)))
  obtain ⟨o22, B22⟩ := hh
  refine hK5 _ _ ?_
  clear hK5 K5
  try simp only [Act.put, List.setIfInBounds_toArray, List.set_cons_succ, List.set_cons_zero]
  have B22' := (B156.trans (B21.mono hz16)).trans (B22.mono (by have := B21.size; omega))
  rw [show [112, 111, 105, 110, 116] ++ [n % 256, k % 256] = (cdB n k 0).take 7 from rfl] at o22
  obtain ⟨g10, c10, hv10, hc10, hm10, hg10, hg10b⟩ := o22.form (by simp [cdB])
  have hb8 : (cdB n k 0).take 7 = [112, 111, 105, 110, 116, n % 256, k % 256] := rfl
  rw [hb8] at o22 hv10 hc10
  simp only [List.length_cons, List.length_nil, Nat.zero_add, Nat.reduceAdd] at hv10 hc10
  subst hv10
  have b4c := b4X.keep B22'
  have b9c := b90.keep B22'
  have hBc := hBX.trans (B22'.mono hBX.size)
  have o10 : ByS (w.heap.size + 1 + 1) w22.heap.size w22 (.slice (some ⟨g10, 0, none⟩) 7 c10) [112, 111, 105, 110, 116, n % 256, k % 256] := (o22.bys (by simp)).wide (by have := B21.size; omega) (Nat.le_refl _)
  have hgw : w.heap.size + 1 < g10 := by have := B21.size; omega
  clear B15 B16 B156 B21 B22 B22' s15 s16 s21 o22 b4X b90 hBX hz16 hXs hg10
  try simp only [Act.put, List.setIfInBounds_toArray, List.set_cons_succ, List.set_cons_zero]
  go_wp2_with fail
  obtain ⟨i32', h32, i320, i321, i322⟩ := info_parts b32_info
  obtain ⟨T, hT⟩ : ∃ T, T = w22.heap.size := ⟨_, rfl⟩
  rw [← hT] at o10
  have hTw : w.heap.size + 1 < T := by omega
  clear hT hg10b
  go_loopw [25] (fun i wr => ∃ j : Nat, j ≤ log ∧ i = .int .i64 j ∧ Blk wr (w.heap.size + 1) 86 ((cdK seed n k log j).flatMap ec).toArray ∧ Blk wr w.heap.size 23 (byc seed).toArray ∧ ByS (w.heap.size + 1 + 1) T wr (.slice (some ⟨g10, 0, none⟩) 7 c10) [112, 111, 105, 110, 116, n % 256, k % 256] ∧ Below w.heap.size w wr) (fun i _ => log - (intOf i).toNat)
  case atStart => exact ⟨0, Nat.zero_le _, rfl, b9c, b4c, o10, hBc⟩
  case round =>
    clear b9c b4c o10 hBc
    obtain ⟨j, hj, rfl, b9, b4, o10, hBr⟩ := hrel
    by_cases hlt : j < log
    · have hj8 : j % 256 = j := Nat.mod_eq_of_lt (by omega)
      have hlb : ([112, 111, 105, 110, 116, n % 256, k % 256] : List Nat).length = 7 := rfl
      have hb7 : ∀ x ∈ ([112, 111, 105, 110, 116, n % 256, k % 256] ++ [j % 256] : List Nat), x < 256 := by
        intro x hx
        simp only [List.cons_append, List.nil_append, List.mem_cons, List.not_mem_nil, or_false] at hx
        omega
      have HC7 := Lib.hid hb7
      have HE := Lib.hid (show ([112, 111, 105, 110, 116, n % 256, k % 256] ++ [j % 256] : List Nat) = cdB n k j from rfl)
      have h77 : ByS (w.heap.size + 1 + 1) T wr (.slice (some ⟨g10, 0, none⟩) 7 7) [112, 111, 105, 110, 116, n % 256, k % 256] := by
        obtain ⟨q1, q2, A, c, hv, q3, q4⟩ := o10
        cases hv
        exact ⟨q1, q2, _, 7, rfl, Nat.le_refl _, q4⟩
      have H77 := Lib.hid h77
      have hbl := b4.lt
      clear hb7 h77
      go_upto_region 6 with (fail)
      refine wp_region_rg 13 [(0, Spec.val (dgv seed)), (9, Spec.rel (ByA [j % 256]) AnyV), (10, Spec.rel (OwA ([112, 111, 105, 110, 116, n % 256, k % 256] ++ [j % 256])) AnyV), (11, Spec.val (dgv (keyD seed ([112, 111, 105, 110, 116, n % 256, k % 256] ++ [j % 256])))), (12, Spec.rel (New 23 (zb 32).toArray) (NewF))] (by kernel_rfl) (by kernel_rfl) (by kernel_rfl) ⟨fit_of (by_st), fit_of (ow_st), fit_new, trivial⟩ ?_
      refine rg_val rfl rfl (fun W1 hW1 hF => step_loadR (cs := byc seed) b32_under rfl (by rw [b32_size, byc_length, HS.out.1]) rfl rfl (blk_range (b4.keep (grw_below hW1)))) ?_
      intro a' ha
      simp only [Act.put, List.setIfInBounds_toArray, List.set_cons_succ, List.set_cons_zero] at ha
      subst ha
      iterate 8 (refine rg_det rfl rfl rfl (fun K hK => ?_); go_big_quiet_op; refine hK _ ?_; clear hK K)
      refine rg_rel rfl rfl (fun W1 hW1 hF => step_litB [j % 256] rfl (by simp) (by simp) rfl (by simp [Act.eval, byc]; omega)) ?_
      intro n9 m9 v9 hn9 hm9 hd9 hf9 a' ha
      simp only [Act.put, List.setIfInBounds_toArray, List.set_cons_succ, List.set_cons_zero] at ha
      subst ha
      refine rg_rel rfl rfl (fun W1 hW1 hF => step_catG (l := [112, 111, 105, 110, 116, n % 256, k % 256]) rfl rfl (fun h => by cases h) rfl (H77.out.keep (grw_below hW1)) (pick_last hF (by kernel_rfl)).2 (by simp) (by simp) (by simp)) ?_
      intro n10 m10 v10 hn10 hm10 hd10 hf10 a' ha
      simp only [Act.put, List.setIfInBounds_toArray, List.set_cons_succ, List.set_cons_zero] at ha
      subst ha
      refine rg_val rfl rfl (fun W1 hW1 hF => step_callv en_attestor_sha256_Keyed (gKeyed seed HS.out ([112, 111, 105, 110, 116, n % 256, k % 256] ++ [j % 256]) (by simp) HC7.out _ _ _ W1 (HL.out.keep (hBr.trans ((grw_below hW1).mono hBr.size))) ((pick_last hF (by kernel_rfl)).2.bys (by simp))) rfl rfl) ?_
      intro a' ha
      simp only [Act.put, List.setIfInBounds_toArray, List.set_cons_succ, List.set_cons_zero] at ha
      subst ha
      refine rg_rel rfl rfl (fun W1 hW1 hF => step_new h32 i320 rfl) ?_
      intro n12 m12 v12 hn12 hm12 hd12 hf12 a' ha
      simp only [Act.put, List.setIfInBounds_toArray, List.set_cons_succ, List.set_cons_zero] at ha
      subst ha
      obtain rfl := hf12
      refine rg_nil (fun w' hw' hF => ?_)
      obtain ⟨z, rfl⟩ := hw'
      simp only [List.drop_succ_cons, List.drop_zero]
      obtain ⟨hq12, -, hl12, bq⟩ := end_last hF
      rw [HE.out]
      obtain ⟨d, hd⟩ : ∃ d, d = keyD seed (cdB n k j) := ⟨_, rfl⟩
      have hdk : DgOk d := by rw [hd]; exact keyD_ok _ _
      rw [← hd]
      have HD := Lib.hid hd
      clear hd
      refine wpList_put rfl 23 (.tmp 12) (.tmp 39) rfl rfl (cells := byc d) rfl bq (by rw [byc_length, hdk.1]; simp [zb]) (by rw [b32_size, byc_length, hdk.1]) (byc_all _) (spl_all _ _ (by rw [byc_length, hdk.1]; simp [zb])) fun Y hY bY => ?_
      have hBwY : Below wr.heap.size wr Y := below_put z.h hY hn12
      have b9Y := b9.keep hBwY
      have b4Y := b4.keep hBwY
      have o10Y := Rd.keep o10 hBwY
      have hBY := hBr.trans (hBwY.mono hBr.size)
      have hgn : w.heap.size + 1 < n12 := by have := b9.lt; omega
      have hlY := bY.lt
      clear hF bq hY o10 b9 b4 hBr H77 HC7 hBwY hl12 hq12 hn12 hm12 hd12 hn9 hm9 hd9 hf9 hn10 hm10 hd10 hf10 hbl hlb
      try simp only [Act.put, List.setIfInBounds_toArray, List.set_cons_succ, List.set_cons_zero]
      go_upto_region 7 with (fail)
      refine wp_region_lit ?_
      iterate 3 (refine wpList_plain rfl fun K hK => ?_; go_big_op; refine hK _ _ ?_; clear hK K)
      have y0 := byc_part bY hdk.1 0 8 32 (by decide) (by decide)
      refine wpList_plain rfl fun K9 hK9 => wp_of_step (stepAt_mono (fun v43 w43 hh => ?_) (step_callv en_attestor_meter_read (gRead ((d.drop 0).take 8) (by simp [hdk.1]) (fun x hx => hdk.2 x (List.mem_of_mem_drop (List.mem_of_mem_take hx))) _ _ _ Y y0) rfl rfl))
      obtain ⟨rfl, B43⟩ := hh
      refine hK9 _ _ ?_
      clear hK9 K9
      try simp only [Act.put, List.setIfInBounds_toArray, List.set_cons_succ, List.set_cons_zero]
      rw [← le8_leN d 0 (by rw [hdk.1]; decide)]
      have hlt8 : le8 d 0 8 < 18446744073709551616 := le8_lt d hdk.2 0 8
      refine wpList_plain rfl fun K10 hK10 => wp_of_step (stepAt_mono (fun v44 w44 hh => ?_) (step_callv en_attestor_field_Reduce (gRedF (le8 d 0 8 : Nat) ⟨by omega, by omega⟩ w43) rfl rfl))
      obtain ⟨rfl, B44⟩ := hh
      refine hK10 _ _ ?_
      clear hK10 K10
      try simp only [Act.put, List.setIfInBounds_toArray, List.set_cons_succ, List.set_cons_zero]
      have B4 := B43.trans (B44.mono B43.size)
      have b9c := b9Y.keep B4
      have b4c := b4Y.keep B4
      have o10c := Rd.keep o10Y B4
      have bdc := bY.keep B4
      have hBc := hBY.trans (B4.mono hBY.size)
      obtain ⟨s1, s2⟩ := blk_cellE b9c (cdK_get seed n k log j hlt)
      have e9 := b9c.frozen
      have hl9 := b9c.lt
      have hld := bdc.lt
      clear B43 B44 B4 b9Y b4Y o10Y bY hBY y0 hlt8 hlY
      go_upto_region 8 with (fail)
      obtain ⟨x0, hx0⟩ : ∃ x, x = fz ((le8 d 0 8 : Nat) : Int) := ⟨_, rfl⟩
      rw [← hx0]
      refine set1 (M := fun W => Code.wp _ _ _ _ W) b9c fun Z hZ bZ => ?_
      have b4Z := hZ.blk b4c (by omega)
      have bdZ := hZ.blk bdc (by omega)
      have hBZ := below_put hBc hZ (by omega)
      have o10Z : ByS (w.heap.size + 1 + 1) T Z (.slice (some ⟨g10, 0, none⟩) 7 c10) [112, 111, 105, 110, 116, n % 256, k % 256] := o10c.other (Nat.le_of_eq hZ.size.symm) fun g h1 _ _ => hZ.other g (by omega)
      clear b4c bdc hBc o10c hZ b9c s1 e9 hl9 hld
      refine wp_region_lit ?_
      iterate 3 (refine wpList_plain rfl fun K hK => ?_; go_big_op; refine hK _ _ ?_; clear hK K)
      have y8 := byc_part bdZ hdk.1 8 8 24 (by decide) (by decide)
      refine wpList_plain rfl fun K12 hK12 => wp_of_step (stepAt_mono (fun v50 w50 hh => ?_) (step_callv en_attestor_meter_read (gRead ((d.drop 8).take 8) (by simp [hdk.1]) (fun x hx => hdk.2 x (List.mem_of_mem_drop (List.mem_of_mem_take hx))) _ _ _ Z y8) rfl rfl))
      obtain ⟨rfl, B50⟩ := hh
      refine hK12 _ _ ?_
      clear hK12 K12
      try simp only [Act.put, List.setIfInBounds_toArray, List.set_cons_succ, List.set_cons_zero]
      rw [← le8_leN d 8 (by rw [hdk.1]; decide)]
      have hlt8 : le8 d 8 8 < 18446744073709551616 := le8_lt d hdk.2 8 8
      refine wpList_plain rfl fun K13 hK13 => wp_of_step (stepAt_mono (fun v51 w51 hh => ?_) (step_callv en_attestor_field_Reduce (gRedF (le8 d 8 8 : Nat) ⟨by omega, by omega⟩ w50) rfl rfl))
      obtain ⟨rfl, B51⟩ := hh
      refine hK13 _ _ ?_
      clear hK13 K13
      try simp only [Act.put, List.setIfInBounds_toArray, List.set_cons_succ, List.set_cons_zero]
      have B5 := B50.trans (B51.mono B50.size)
      have b9c := bZ.keep B5
      have b4c := b4Z.keep B5
      have o10c := Rd.keep o10Z B5
      have hBc := hBZ.trans (B5.mono hBZ.size)
      have s2' : w51.cell? ⟨w.heap.size + 1, j * 2 + 1, none⟩ = some (.int .u64 0) := by
        rw [b9c.cell]
        simp
        exact flat_get ec_len _ j 1 0 _ (cdK_get seed n k log j hlt) rfl
      have e9 := b9c.frozen
      have hl9 := b9c.lt
      clear B50 B51 B5 bZ b4Z o10Z bdZ hBZ y8 hlt8 s2
      go_upto_region 9 with (fail)
      obtain ⟨x1, hx1⟩ : ∃ x, x = fz ((le8 d 8 8 : Nat) : Int) := ⟨_, rfl⟩
      rw [← hx1]
      refine set1 (M := fun W => Code.wp _ _ _ _ W) b9c fun Z2 hZ2 bZ2 => ?_
      have hx : (⟨x0, x1⟩ : E) = cdE (keyD seed (cdB n k j)) := by rw [hx0, hx1, ← HD.out]; rfl
      have b9n : Blk Z2 (w.heap.size + 1) 86 ((cdK seed n k log (j + 1)).flatMap ec).toArray := by
        rw [← cdK_set seed n k log j hlt, ← hx, ← set_flat (⟨x0, x1⟩ : E) _ j (by rw [cdK_len seed n k log j (by omega)]; exact hlt)]
        simpa using bZ2
      have b4n := hZ2.blk b4c (by omega)
      have hBn := below_put hBc hZ2 (by omega)
      have o10n : ByS (w.heap.size + 1 + 1) T Z2 (.slice (some ⟨g10, 0, none⟩) 7 c10) [112, 111, 105, 110, 116, n % 256, k % 256] := o10c.other (Nat.le_of_eq hZ2.size.symm) fun g h1 _ _ => hZ2.other g (by omega)
      clear hx hx0 hx1 bZ2 b9c b4c hBc o10c hZ2 s2' e9
      go_wp2_with fail
      exact ⟨⟨j + 1, by omega, by go_num, b9n, b4n, o10n, hBn⟩, by simp [intOf]; omega⟩
    · obtain rfl : j = log := by omega
      rw [cdK_all] at b9
      go_wp2_with fail
      refine bodyPost_ret (v := .slice (some ⟨w.heap.size + 1, 0, none⟩) j j) (by simp [results, Tryz.results53, go_sem]) rfl ⟨_, rfl, ?_, hBr⟩
      have hlen := coordM_length seed n k j
      have hw := b9.lt
      refine ⟨by rw [hlen, flat_length ec_len, hlen], by rw [hlen]; omega, _, j, by rw [hlen], by rw [hlen]; exact Nat.le_refl _, fun _ => ⟨_, 0, rfl, by omega, hw, hw, fun i u hu => ?_⟩⟩
      rw [Nat.zero_add, b9.cell]
      simpa using hu
end Go.Proofs.YtoiampgfnidfdaaGreatDoor
namespace Go.Proofs.YtoiampgfnidfdaaGreatDoor
open Go.RowKit

theorem en_attestor_attestorref26_word : ∀ args w, (callFunc 90 args).run Tryz.prog w = .ok (.enter 90 args) w := enters_of Tryz.func90 (by kernel_rfl) rfl
theorem en_attestor_attestorref26_Coordinates : ∀ args w, (callFunc 43 args).run Tryz.prog w = .ok (.enter 43 args) w := enters_of Tryz.func43 (by kernel_rfl) rfl
theorem own_lenR {w : World} {base n size : Nat} {e : TypeId} {v : Value} {cs : List Value} (h : w.ownsRow base e size v n cs) : ∃ A cap, v = .slice A n cap := by
  rcases h.2 with ⟨rfl, h2⟩ | ⟨g, cap, cur, rfl, _⟩
  · exact ⟨none, 0, by rw [h2]⟩
  · exact ⟨_, _, rfl⟩
theorem leN_take (l : List Nat) (i x : Nat) (hx : l[i]? = some x) : leN (l.take (i + 1)) = leN (l.take i) + 256 ^ i * x := by
  have hi := (List.getElem?_eq_some_iff.1 hx).1
  rw [List.take_add_one, hx]
  simp only [Option.toList_some]
  rw [leN_snoc, List.length_take, Nat.min_eq_left (by omega)]
theorem word_wrap (y x j : Nat) (hy : y < 256 ^ j) (hx : x < 256) (hj : 256 ^ j ≤ 72057594037927936) : IntKind.u64.wrap ((y : Int) + IntKind.u64.wrap ((x : Int) * 2 ^ (8 * j))) = ((y + 256 ^ j * x : Nat) : Int) := by
  have h1 : (2 : Int) ^ (8 * j) = ((256 ^ j : Nat) : Int) := by
    rw [Int.pow_mul]
    simp
  rw [h1]
  generalize 256 ^ j = p at *
  have h2 : (x : Int) * (p : Int) = ((p * x : Nat) : Int) := by rw [Int.natCast_mul, Int.mul_comm]
  have h3 : p * x ≤ p * 255 := Nat.mul_le_mul_left _ (by omega)
  rw [h2]
  generalize p * x = q at *
  rw [IntWalk.u64_in (q : Int) (by omega), IntWalk.u64_in _ (by omega)]
  omega
attribute [local irreducible] wpRg
set_option maxRecDepth 100000 in
set_option maxHeartbeats 4000000 in
theorem rWord26 (d : Dg) (hd : DgOk d) (o : Nat) (ho : o ≤ 24) (w : World) : Calls Tryz.prog 90 #[dgv d, .int .i64 (o : Int)] w (Ret (.int .u64 (le8 d o 8 : Nat)) w) := by
  obtain ⟨S, hS⟩ : ∃ S, S = dgv d := ⟨_, rfl⟩
  rw [← hS]
  have HD := Lib.hid hd
  have hdl := hd.1
  have HE := Lib.hid (le8_leN d o (by omega))
  clear hd
  go_enter Tryz.func90, Tryz.ntmps90
  go_upto_region 1 with (fail)
  refine wp_stk1 fun W hB hz b2 => ?_
  have b2' : Blk W w.heap.size 23 (byc d).toArray := by first | exact b2 | (rw [hS] at b2; exact b2)
  clear b2 hz hS
  go_wp2_with fail
  go_loopw [5, 6] (fun u i wr => ∃ j : Nat, j ≤ 8 ∧ i = .int .i64 j ∧ u = .int .u64 (leN ((d.drop o).take j) : Nat) ∧ Blk wr w.heap.size 23 (byc d).toArray ∧ Below w.heap.size w wr) (fun _ i _ => 8 - (intOf i).toNat)
  case atStart => exact ⟨0, Nat.zero_le _, rfl, rfl, b2', hB⟩
  case round =>
    clear b2' hB
    obtain ⟨j, hj, rfl, rfl, b2, hBr⟩ := hrel
    by_cases hlt : j < 8
    · obtain ⟨x, hx⟩ : ∃ x, d[o + j]? = some x := ⟨d[o + j]'(by omega), List.getElem?_eq_getElem (by omega)⟩
      have hx8 := HD.out.2 x (List.mem_of_getElem? hx)
      have c1 : wr.cell? ⟨w.heap.size, o + j, none⟩ = some (.int .u8 (x : Int)) := by rw [b2.cell]; simp [byc, hx]
      have hbl := b2.lt
      have HN := Lib.hid (leN_take (d.drop o) j x (by rw [List.getElem?_drop, hx]))
      have hle : leN ((d.drop o).take j) < 256 ^ j := by
        have := leN_lt ((d.drop o).take j) (fun y hy => HD.out.2 y (List.mem_of_mem_drop (List.mem_of_mem_take hy)))
        rwa [List.length_take, List.length_drop, hdl, Nat.min_eq_left (by omega)] at this
      generalize leN ((d.drop o).take j) = y at *
      clear hx
      have h256 : 256 ^ j ≤ 72057594037927936 := Nat.le_trans (Nat.pow_le_pow_right (by decide) (show j ≤ 7 by omega)) (by decide)
      have HW := Lib.hid (word_wrap y x j hle hx8 h256)
      clear hle h256
      go_wp2_with fail
      rw [HW.out]
      exact ⟨⟨j + 1, by omega, by go_num, by rw [HN.out], b2, hBr⟩, by simp [intOf]; omega⟩
    · obtain rfl : j = 8 := by omega
      rw [← HE.out]
      go_wp2_with fail
      exact bodyPost_ret (v := .int .u64 (le8 d o 8 : Nat)) (by simp [results, Tryz.results90, go_sem]) rfl ⟨rfl, hBr⟩
set_option maxRecDepth 100000 in
set_option maxHeartbeats 4000000 in
theorem rCoords (seed : Dg) (hs : DgOk seed) (n k log : Nat) (hn : n ≤ 1000000) (hk : k ≤ 1000000) (hl : log ≤ 200) (w : World) : Calls Tryz.prog 43 #[dgv seed, .agg #[.int .i64 (n : Int), .int .i64 (k : Int)], .int .i64 (log : Int)] w (RetR (ExtA (coordM seed n k log)) w) := by
  obtain ⟨Sk, hSk⟩ : ∃ S, S = dgv seed := ⟨_, rfl⟩
  rw [← hSk]
  have HS := Lib.hid hs
  clear hs
  obtain ⟨i0, hi0, iz0, iz1, iz2⟩ := info_parts ext_info
  obtain ⟨i32', h32, i320, i321, i322⟩ := info_parts b32_info
  go_enter Tryz.func43, Tryz.ntmps43
  go_upto_region 1 with (fail)
  refine wp_stk2 fun W hB hz b3 b4 => ?_
  have b3' : Blk W w.heap.size 23 (byc seed).toArray := by first | exact b3 | (rw [hSk] at b3; exact b3)
  have hWs : W.heap.size = w.heap.size + 1 + 1 := hz.out
  clear b3 hz hSk
  go_wp2_with fail
  go_loopw [7, 8] (fun u i wr => ∃ j : Nat, j ≤ log ∧ i = .int .i64 j ∧ wr.ownsRow (w.heap.size + 1 + 1) 86 2 u (coordM seed n k j).length ((coordM seed n k j).flatMap ec) ∧ Blk wr w.heap.size 23 (byc seed).toArray ∧ Blk wr (w.heap.size + 1) 92 #[.int .i64 (n : Int), .int .i64 (k : Int)] ∧ Below w.heap.size w wr) (fun _ i _ => log - (intOf i).toNat)
  case atStart =>
    refine ⟨0, Nat.zero_le _, rfl, ⟨rfl, .inr ⟨w.heap.size + 1 + 1, 0, #[], rfl, Nat.le_refl _, ?_, Nat.le_refl _, by simp, rfl, by simp [coordM]⟩⟩, b3'.below ((Below.refl _ W).alloc (Nat.le_refl _) _) b3'.lt, b4.below ((Below.refl _ W).alloc (Nat.le_refl _) _) b4.lt, hB.trans ((Below.refl _ W).alloc (by omega) _)⟩
    have := World.alloc_heap_new W (.cells #[] 86)
    rwa [hWs] at this
  case round =>
    clear b3' b4 hB hWs
    obtain ⟨j, hj, rfl, hown, b3, b4, hBr⟩ := hrel
    by_cases hlt : j < log
    · have c1 := b4.cell
      have h4l := b4.lt
      go_upto_region 5 with (fail)
      refine wp_region_lit ?_
      refine wpList_plain rfl fun K1 hK1 => wp_of_step (stepAt_mono (fun v17 w17 hh => ?_) (step_litL [112, 111, 105, 110, 116] rfl (by decide) (by decide) rfl (by simp [Act.eval, byc])))
      obtain ⟨rfl, s17, B17⟩ := hh
      refine hK1 _ _ ?_
      clear hK1 K1
      try simp only [Act.put, List.setIfInBounds_toArray, List.set_cons_succ, List.set_cons_zero]
      simp only [List.length_cons, List.length_nil, Nat.zero_add, Nat.reduceAdd] at s17
      refine wpList_plain rfl fun K2 hK2 => wp_of_step (stepAt_mono (fun v18 w18 hh => ?_) (step_convB s17 (by decide) rfl rfl))
      obtain ⟨rfl, s18, B18⟩ := hh
      refine hK2 _ _ ?_
      clear hK2 K2
      try simp only [Act.put, List.setIfInBounds_toArray, List.set_cons_succ, List.set_cons_zero]
      have B178 := B17.trans B18
      have b4w := b4.keep B178
      clear c1
      have c1 := b4w.cell
      iterate 8 (refine wpList_plain rfl fun K hK => ?_; go_big_op; refine hK _ _ ?_; clear hK K)
      refine wpList_plain rfl fun K4 hK4 => wp_of_step (stepAt_mono (fun v27 w27 hh => ?_) (step_litB [n % 256, k % 256, j % 256] rfl (by simp) (by simp) rfl (by simp [Act.eval, byc]; omega)))
      obtain ⟨s27, B27⟩ := hh
      refine hK4 _ _ ?_
      clear hK4 K4
      try simp only [Act.put, List.setIfInBounds_toArray, List.set_cons_succ, List.set_cons_zero]
      have hz := B178.size
      have hz7 := B27.size
      refine wpList_plain rfl fun K5 hK5 => wp_of_step (stepAt_mono (fun v28 w28 hh => ?_) (step_catG (l := [112, 111, 105, 110, 116]) rfl rfl (fun h => by cases h) rfl (s18.keep B27) s27 (by simp) (by decide) (by simp)))
      obtain ⟨o28, B28⟩ := hh
      refine hK5 _ _ ?_
      clear hK5 K5
      try simp only [Act.put, List.setIfInBounds_toArray, List.set_cons_succ, List.set_cons_zero]
      have B5 := (B178.trans (B27.mono hz)).trans (B28.mono (by omega))
      rw [show [112, 111, 105, 110, 116] ++ [n % 256, k % 256, j % 256] = cdB n k j from rfl] at o28
      have s28 := o28.bys (by simp [cdB])
      obtain ⟨A28, c28, hv28, -, -, -⟩ := o28.form (by simp [cdB])
      subst hv28
      have hb8 : ∀ x ∈ cdB n k j, x < 256 := by
        intro x hx
        simp only [cdB, List.cons_append, List.nil_append, List.mem_cons, List.not_mem_nil, or_false] at hx
        omega
      have hlen8 : (cdB n k j).length = 8 := rfl
      have hownB := own_below hown (Nat.le_refl _) B5
      have b3B := b3.keep B5
      have b4B := b4.keep B5
      have hBB := hBr.trans (B5.mono hBr.size)
      clear hown b3 b4 hBr B17 B18 B178 B27 B28 B5 s17 s18 s27 o28 hz hz7 c1 b4w
      try simp only [Act.put, List.setIfInBounds_toArray, List.set_cons_succ, List.set_cons_zero]
      go_upto_region 6 with (fail)
      refine wp_region_lit ?_
      refine wpList_plain rfl fun K7 hK7 => wp_of_step (stepAt_mono (fun v29 w29 hh => ?_) (step_loadR0 (cs := byc seed) b32_under rfl (by rw [b32_size, byc_length, HS.out.1]) rfl rfl (blk_range b3B)))
      obtain ⟨rfl, rfl⟩ := hh
      refine hK7 _ _ ?_
      clear hK7 K7
      try simp only [Act.put, List.setIfInBounds_toArray, List.set_cons_succ, List.set_cons_zero]
      iterate 1 (refine wpList_plain rfl fun K hK => ?_; go_big_op; refine hK _ _ ?_; clear hK K)
      refine wpList_plain rfl fun K9 hK9 => wp_of_step (stepAt_mono (fun v31 w31 hh => ?_) (step_callv en_attestor_attestorref07_Keyed (rKeyed seed HS.out (cdB n k j) (by rw [hlen8]; decide) hb8 _ _ _ w29 s28) rfl rfl))
      obtain ⟨rfl, B31⟩ := hh
      refine hK9 _ _ ?_
      clear hK9 K9
      try simp only [Act.put, List.setIfInBounds_toArray, List.set_cons_succ, List.set_cons_zero]
      obtain ⟨d, hd⟩ : ∃ d, d = keyD seed (cdB n k j) := ⟨_, rfl⟩
      have hdk : DgOk d := by rw [hd]; exact keyD_ok _ _
      rw [← hd]
      have HD := Lib.hid hd
      clear hd
      refine wpList_plain rfl fun K10 hK10 => wp_of_step (stepAt_mono (fun v10 w10 hh => ?_) (step_new0 h32 i320 rfl))
      obtain ⟨rfl, rfl⟩ := hh
      refine hK10 _ _ ?_
      clear hK10 K10
      try simp only [Act.put, List.setIfInBounds_toArray, List.set_cons_succ, List.set_cons_zero]
      have c10 : Blk (w31.alloc (.cells (Value.agg (zb 32).toArray).cells 23)) w31.heap.size 23 (zb 32).toArray := World.alloc_heap_new w31 _
      have BA := B31.trans ((Below.refl _ w31).alloc B31.size (.cells (Value.agg (zb 32).toArray).cells 23))
      obtain ⟨g10, hg10⟩ : ∃ g, g = w31.heap.size := ⟨_, rfl⟩
      rw [← hg10] at c10 ⊢
      refine wpList_put rfl 23 (.tmp 10) (.tmp 31) rfl rfl (cells := byc d) rfl c10 (by rw [byc_length, hdk.1]; simp [zb]) (by rw [b32_size, byc_length, hdk.1]) (byc_all _) (spl_all _ _ (by rw [byc_length, hdk.1]; simp [zb])) fun Y hY bY => ?_
      have BY : Below w29.heap.size w29 Y := below_put BA hY (by have := B31.size; omega)
      have hownY := own_below hownB (Nat.le_refl _) BY
      have b3Y := b3B.keep BY
      have b4Y := b4B.keep BY
      have hBY := hBB.trans (BY.mono hBB.size)
      clear hownB b3B b4B hBB B31 BA c10 hY BY hg10 s28 hb8
      obtain ⟨A7, c7, rfl⟩ := own_lenR hownY
      try simp only [Act.put, List.setIfInBounds_toArray, List.set_cons_succ, List.set_cons_zero]
      go_upto_region 7 with (fail)
      refine wp_region_rg 9 [(1, Spec.val (dgv d)), (2, Spec.val (.int .u64 (le8 d 0 8 : Nat))), (3, Spec.val (.int .u64 (fv (fz (le8 d 0 8 : Nat))))), (4, Spec.val (dgv d)), (5, Spec.val (.int .u64 (le8 d 8 8 : Nat))), (6, Spec.val (.int .u64 (fv (fz (le8 d 8 8 : Nat))))), (8, Spec.rel (Lit 86 1 #[.int .u64 (fv (fz (le8 d 0 8 : Nat))), .int .u64 (fv (fz (le8 d 8 8 : Nat)))]) (LitF 1))] (by kernel_rfl) (by kernel_rfl) (by kernel_rfl) ⟨fit_lit, trivial⟩ ?_
      refine rg_det rfl rfl rfl (fun K hK => ?_)
      go_big_quiet_op
      refine hK _ ?_; clear hK K
      refine rg_val rfl rfl (fun W1 hW1 hF => step_loadR (cs := byc d) b32_under rfl (by rw [b32_size, byc_length, hdk.1]) rfl rfl (blk_range (bY.keep (grw_below hW1)))) ?_
      intro a' ha
      simp only [Act.put, List.setIfInBounds_toArray, List.set_cons_succ, List.set_cons_zero] at ha
      subst ha
      refine rg_val rfl rfl (fun W1 hW1 hF => step_callv en_attestor_attestorref26_word (rWord26 d hdk 0 (by decide) W1) rfl rfl) ?_
      intro a' ha
      simp only [Act.put, List.setIfInBounds_toArray, List.set_cons_succ, List.set_cons_zero] at ha
      subst ha
      refine rg_val rfl rfl (fun W1 hW1 hF => step_callv en_attestor_attestorref01_Reduce (rRedF (le8 d 0 8 : Nat) ⟨by omega, by have := le8_lt d hdk.2 0 8; omega⟩ W1) rfl rfl) ?_
      intro a' ha
      simp only [Act.put, List.setIfInBounds_toArray, List.set_cons_succ, List.set_cons_zero] at ha
      subst ha
      refine rg_val rfl rfl (fun W1 hW1 hF => step_loadR (cs := byc d) b32_under rfl (by rw [b32_size, byc_length, hdk.1]) rfl rfl (blk_range (bY.keep (grw_below hW1)))) ?_
      intro a' ha
      simp only [Act.put, List.setIfInBounds_toArray, List.set_cons_succ, List.set_cons_zero] at ha
      subst ha
      refine rg_val rfl rfl (fun W1 hW1 hF => step_callv en_attestor_attestorref26_word (rWord26 d hdk 8 (by decide) W1) rfl rfl) ?_
      intro a' ha
      simp only [Act.put, List.setIfInBounds_toArray, List.set_cons_succ, List.set_cons_zero] at ha
      subst ha
      refine rg_val rfl rfl (fun W1 hW1 hF => step_callv en_attestor_attestorref01_Reduce (rRedF (le8 d 8 8 : Nat) ⟨by omega, by have := le8_lt d hdk.2 8 8; omega⟩ W1) rfl rfl) ?_
      intro a' ha
      simp only [Act.put, List.setIfInBounds_toArray, List.set_cons_succ, List.set_cons_zero] at ha
      subst ha
      refine rg_det rfl rfl rfl (fun K hK => ?_)
      go_big_quiet_op
      refine hK _ ?_; clear hK K
      refine rg_rel rfl rfl (fun W1 hW1 hF => step_lit1 Tryz.underlying78 hi0 iz0 iz1 (by decide) (by decide) rfl rfl rfl) ?_
      intro n8 m8 v8 hn8 hm8 hd8 hf8 a' ha
      simp only [Act.put, List.setIfInBounds_toArray, List.set_cons_succ, List.set_cons_zero] at ha
      subst ha
      obtain rfl := hf8
      refine rg_nil (fun w' hw' hF => ?_)
      obtain ⟨z, rfl⟩ := hw'
      simp only [List.drop_succ_cons, List.drop_zero]
      obtain ⟨-, -, hl8, bl⟩ := end_last hF
      have hownz := own_below hownY (Nat.le_refl _) z.h
      have b3z := b3Y.keep z.h
      have b4z := b4Y.keep z.h
      have hBz := hBY.trans (z.h.mono hBY.size)
      have hsz : w.heap.size + 1 + 1 ≤ z.w.heap.size := by have := b4z.lt; omega
      clear hF hownY b3Y b4Y hBY
      refine wpList_app1 rfl _ _ rfl Tryz.underlying78 hi0 iz0 iz1 iz2 rfl (by decide) (cl := ec (cdE d)) rfl (ec_one _) rfl rfl hownz bl (by rw [coordM_length]; unfold maxLen; omega) (by rw [coordM_length]; omega) hsz fun v41 w41 hown3 hgrow hB3 => ?_
      have hcs : coordM seed n k (j + 1) = coordM seed n k j ++ [cdE d] := by rw [coordM_succ, HD.out]
      have hown4 : w41.ownsRow (w.heap.size + 1 + 1) 86 2 v41 (coordM seed n k (j + 1)).length ((coordM seed n k (j + 1)).flatMap ec) := by
        rw [hcs, List.flatMap_append, List.length_append]
        simpa using hown3
      have b34 := b3z.below hB3 (by omega)
      have b44 := b4z.below hB3 (by omega)
      have hB4 := hBz.trans (hB3.mono (by omega))
      clear hownz b3z b4z hBz hown3 hgrow hB3 hcs
      try simp only [Act.put, List.setIfInBounds_toArray, List.set_cons_succ, List.set_cons_zero]
      go_wp2_with fail
      exact ⟨⟨j + 1, by omega, by go_num, hown4, b34, b44, hB4⟩, by simp [intOf]; omega⟩
    · obtain rfl : j = log := by omega
      obtain ⟨A7, c7, rfl⟩ := own_lenR hown
      go_wp2_with fail
      refine bodyPost_ret (v := .slice A7 (coordM seed n k j).length c7) (by simp [results, Tryz.results43, go_sem]) rfl ⟨_, rfl, ?_, hBr⟩
      exact (exts_of_own hown rfl (by rw [coordM_length]; omega) (Nat.le_refl _)).wide (by omega) (Nat.le_refl _)
end Go.Proofs.YtoiampgfnidfdaaGreatDoor
