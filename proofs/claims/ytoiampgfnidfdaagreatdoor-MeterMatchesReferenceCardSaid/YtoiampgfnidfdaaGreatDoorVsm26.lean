/-
  What one operation changes, in mathematics (for MeterVersions).
-/
import Derived.Test.YtoiampgfnidfdaaGreatDoorStt26
import Derived.Test.YtoiampgfnidfdaaGreatDoorSnw26
import Derived.Test.YtoiampgfnidfdaaGreatDoorCut
import Derived.Test.YtoiampgfnidfdaaGreatDoorStm26
import Derived.Test.YtoiampgfnidfdaaGreatDoorMs26
set_option maxRecDepth 100000
set_option maxHeartbeats 8000000
namespace Go.Proofs.YtoiampgfnidfdaaGreatDoor
open Go.RowKit

def stC (m : Mt) (vE vL : Value) : List Value := mtc m vE ++ [vL]
def stV (m : Mt) (vE vL : Value) : Value := .agg (stC m vE vL).toArray
theorem Jj (m : Mt) (vE vL : Value) (h : m.seed.length = 32) : (stC m vE vL).length = 35 := by simp [stC, J0 m vE h]
theorem J28 (m : Mt) (vE vL : Value) (hE : vE.oneCell' = true) (hL : vL.oneCell' = true) : (stC m vE vL).all (·.oneCell') = true := by
 unfold stC
 rw [List.all_append, Ji m vE hE]
 simp [hL]
theorem Ju : Tryz.prog.underlying 38 = some (.struct (Tryz.prog.fieldsOf 38)) := by kernel_rfl
theorem Jo : (Tryz.prog.info? 38).map (·.size) = some 35 := by kernel_rfl
theorem st_mt {W : World} {g : Nat} {t : TypeId} {m : Mt} {vE vL : Value} (b : Blk W g t (stC m vE vL).toArray) : W.rangeAt g 0 (mtc m vE) := fun j u hu => by
 rw [b.cell, Nat.zero_add]
 simp only [List.getElem?_toArray]
 unfold stC
 rw [List.getElem?_append_left (List.getElem?_eq_some_iff.1 hu).1]
 exact hu
theorem st_34 {W : World} {g : Nat} {t : TypeId} {m : Mt} {vE vL : Value} (b : Blk W g t (stC m vE vL).toArray) (h : m.seed.length = 32) : W.cell? ⟨g, 34, none⟩ = some vL := by
 rw [b.cell]
 simp only [List.getElem?_toArray]
 unfold stC
 rw [List.getElem?_append_right (by rw [J0 m vE h]; exact Nat.le_refl _), J0 m vE h]
 rfl
theorem J8q : Tryz.prog.underlying 36 = some (.slice 64) := by kernel_rfl
theorem J94 {b : Bse} {u : StrW} {s : Stm} (h : StrIB b u s) : ∀ v ∈ smc u, v.oneCell' = true := by
 obtain ⟨⟨A1, c1, e1⟩, ⟨A2, c2, e2⟩⟩ := h.len
 intro v hv
 simp only [smc, List.mem_cons, List.not_mem_nil, or_false] at hv
 rcases hv with rfl | rfl
 · rw [e1]; rfl
 · rw [e2]; rfl
theorem Jkj {b : Bse} {us : List StrW} {ss : List Stm} (h : Al (StrIB b) us ss) : ∀ v ∈ us.flatMap smc, v.oneCell' = true := al_one h fun _ _ h => J94 h
def OwY (N : Nat) (e : TypeId) (size n : Nat) (cs : List Value) (_ hi : Nat) (v : Value) (w : World) : Prop := w.ownsRow N e size v n cs ∧ ∀ g, v.ownBlock = some g → g < hi
theorem Jic {P : Program} {o : Oper} {a : Act} {w : World} {s x : Operand} {t e : TypeId} {i : TypeInfo} {z : Value} {size bytes N b m lo2 hi2 : Nat} {news : List Value} {v2 : Value}
  (ho : o.op = .call { callee := .builtin .append, args := #[s, x], argTypes := #[t, t] }) (ht : P.underlying t = some (.slice e)) (hie : P.info? e = some i) (hz : i.zero = some z) (hsize : i.size = size) (hby : i.bytes = bytes) (hzs : z.cells.size = size) (hsz : 0 < size)
  (h1 : ∀ u ∈ news, u.oneCell' = true) (hs : a.eval s = .slice (some ⟨b, 0, none⟩) 0 0) (hNb : N ≤ b) (hb : Blk w b e #[]) (hx : a.eval x = v2) (hr2 : Rd lo2 hi2 size w v2 m news) (hk : m ≤ maxLen) (hk2 : m * bytes ≤ 140737488355328) :
  stepAt P o a w fun v' w' => OwY N e size m news w.heap.size w'.heap.size v' w' ∧ Below w.heap.size w w' := by
 have hbl := hb.lt
 by_cases hm : m = 0
 ·
  subst hm
  have hcl : news = [] := List.eq_nil_of_length_eq_zero (by rw [hr2.1]; omega)
  subst hcl
  obtain ⟨A2, cap2, rfl⟩ := hr2.len
  have hlc : ∀ (b : Addr) (W : World), (loadCells b 0).run P W = .ok #[] W := fun b W => run_loadCells_list (P := P) W b [] (fun j v hv => by simp at hv)
  have src : Src P i.size t (.slice A2 0 cap2) 0 [] w := ⟨.inl ⟨e, ht⟩, fun w' => by simp [Builtin.lenOf], by cases A2 <;> simp [Builtin.firstCells, hlc], by cases A2 <;> simp [Builtin.firstCells, hlc], by simp, fun u hu => by cases hu⟩
  have hrun := run_append_nothing (P := P) w t t o.type e i ht hie (some ⟨b, 0, none⟩) 0 0 (Nat.le_refl _) (.slice A2 0 cap2) src
  unfold stepAt execOp
  simp only [ho, resolve, invoke, builtin, Sem.run_bind, Sem.run_pure, Result.andThen_ok, List.map_toArray, List.map_cons, List.map_nil, hs, hx, hrun]
  refine ⟨⟨⟨by simp, .inr ⟨b, 0, #[], rfl, hNb, hb, Nat.le_refl _, Nat.zero_le _, by simp, by simp⟩⟩, fun g hg => ?_⟩, Below.refl _ _⟩
  cases hg
  exact hbl
 ·
  refine Jb (fun v w' hh => ?_) (J66 (lo := b) (hi := w.heap.size) (olds := []) ho ht hie hz hsize hby hzs hsz h1 hs (fun h => by cases h) hx ⟨by simp, by decide, _, 0, rfl, Nat.le_refl _, fun h => by omega⟩ hr2 (by omega) (by omega) (by simpa using hk2))
  obtain ⟨q1, q2⟩ := hh
  rw [Nat.zero_add, List.nil_append] at q1
  refine ⟨⟨⟨q1.1, ?_⟩, fun g hg => (Jk q1 hg).2⟩, q2⟩
  refine q1.2.imp id ?_
  rintro ⟨g, cap, cur, r1, r2, r3⟩
  exact ⟨g, cap, cur, r1, by omega, r3⟩
theorem Jfd : (Tryz.prog.info? 64).map (fun i => (i.zero, i.size, i.bytes)) = some (some (.agg #[.slice none 0 0, .slice none 0 0]), 2, 48) := by kernel_rfl
def SS (bs : Bse) (n g4 g7 : Nat) (ob : Option Nat) (g : Nat) : Prop := InB bs g ∨ (n ≤ g ∧ g ≠ g4 ∧ g ≠ g7 ∧ ob ≠ some g)
theorem ss_new {bs : Bse} {n g4 g7 N : Nat} {ob : Option Nat} (h2 : n ≤ N) (h4 : g4 < N) (h7 : g7 < N) (ho : ∀ g, ob = some g → g < N) : ∀ g, N ≤ g → SS bs n g4 g7 ob g := fun g hg => .inr ⟨by omega, by omega, by omega, fun e => by have := ho g e; omega⟩
theorem J2r {bs : Bse} {n g4 g7 : Nat} {ob : Option Nat} (hb : bs.W.heap.size ≤ n) (h : n ≤ g7) : ¬ SS bs n g4 g7 ob g7 := fun hh => by
 rcases hh with hh | hh
 · have := hh.2; omega
 · exact hh.2.2.1 rfl
theorem J4h {bs : Bse} {n g4 g7 : Nat} {ob : Option Nat} (hb : bs.W.heap.size ≤ n) (h : n ≤ g4) : ¬ SS bs n g4 g7 ob g4 := fun hh => by
 rcases hh with hh | hh
 · have := hh.2; omega
 · exact hh.2.1 rfl
theorem J50 {bs : Bse} {n g4 g7 g : Nat} {ob : Option Nat} (ho : ob = some g) (hb : bs.W.heap.size ≤ n) (h : n ≤ g) : ¬ SS bs n g4 g7 ob g := fun hh => by
 rcases hh with hh | hh
 · have := hh.2; omega
 · exact hh.2.2.2 ho
theorem ss_out {bs : Bse} {n g4 g7 g : Nat} {ob : Option Nat} (h : SS bs n g4 g7 ob g) : InB bs g ∨ n ≤ g := h.imp id fun h => h.1
theorem Jet {bs : Bse} {X Y : World} {n g4 g7 : Nat} {ob : Option Nat} (hg : X.grownBy Y ob) (hb : bs.W.heap.size ≤ n) (ho : ∀ g, ob = some g → n ≤ g) : (Bse.mk X (SS bs n g4 g7 ob)).ok Y := ⟨hg.size, fun g hh => hg.block g hh.2 fun e => J50 e.symm hb (ho g e.symm) hh.1⟩
theorem Jdc {bs : Bse} {X Y : World} {n g4 g7 : Nat} {ob : Option Nat} {v : Value} {es : List Ep} (h : EpsB ⟨X, SS bs n g4 g7 ob⟩ v es) (hg : X.grownBy Y ob) (hb : bs.W.heap.size ≤ n) (ho : ∀ g, ob = some g → n ≤ g) : EpsB ⟨Y, SS bs n g4 g7 ob⟩ v es := h.le (Bse.le_ok (c := ⟨Y, SS bs n g4 g7 ob⟩) (Jet hg hb ho) fun _ hg => hg.1)
theorem Jid {bs : Bse} {X Y : World} {n g4 g7 : Nat} {ob : Option Nat} {us : List StrW} {ss : List Stm} (h : Al (StrIB ⟨X, SS bs n g4 g7 ob⟩) us ss) (hg : X.grownBy Y ob) (hb : bs.W.heap.size ≤ n) (ho : ∀ g, ob = some g → n ≤ g) : Al (StrIB ⟨Y, SS bs n g4 g7 ob⟩) us ss := h.mono fun _ _ h => h.le (Bse.le_ok (c := ⟨Y, SS bs n g4 g7 ob⟩) (Jet hg hb ho) fun _ hg => hg.1)
theorem J3a {X Y : World} {S : Nat → Prop} {us : List StrW} {ss : List Stm} (h : Al (StrIB ⟨X, S⟩) us ss) (hb : Below X.heap.size X Y) : Al (StrIB ⟨Y, S⟩) us ss := h.mono fun _ _ h => h.le (Bse.le_ok (c := ⟨Y, S⟩) ((Bse.ok_self ⟨X, S⟩).below hb) fun _ hg => hg.1)
theorem sts_pt {X Y : World} {S : Nat → Prop} {us : List StrW} {ss : List Stm} {g : Nat} (h : Al (StrIB ⟨X, S⟩) us ss) (hp : Put X Y g) (hg : ¬ S g) : Al (StrIB ⟨Y, S⟩) us ss := h.mono fun _ _ h => h.le (Bse.le_ok (c := ⟨Y, S⟩) ((Bse.ok_self ⟨X, S⟩).put hp fun h => hg h.1) fun _ hg => hg.1)
theorem J7q {X : World} {S : Nat → Prop} {N n size : Nat} {e : TypeId} {v : Value} {cs : List Value} (h : X.ownsRow N e size v n cs) (hs : n ≤ 1000000) (hS : ∀ g, v.ownBlock = some g → S g) : RdB ⟨X, S⟩ size v n cs := by
 intro Y hY
 refine RdA.of (Rd.of_own (base := N) (e := e) ?_ (by omega) (Nat.le_refl _))
 obtain ⟨h1, h2⟩ := h
 refine ⟨h1, h2.imp id ?_⟩
 rintro ⟨g, cap, cur, rfl, q2, q3, q4⟩
 exact ⟨g, cap, cur, rfl, q2, (hY.2 g ⟨hS g rfl, (Array.getElem?_eq_some_iff.1 q3).1⟩).trans q3, q4⟩
theorem Jbg {X : World} {S T : Nat → Prop} {v : Value} {ss : List Stm} (h : StmsB ⟨X, S⟩ v ss) (hS : ∀ g, S g → T g) : StmsB ⟨X, T⟩ v ss := h.le (Bse.le_ok (c := ⟨X, T⟩) (Bse.ok_self ⟨X, S⟩) fun g hg => hS g hg.1)
theorem Jmn {X : World} {S T : Nat → Prop} {us : List StrW} {ss : List Stm} (h : Al (StrIB ⟨X, S⟩) us ss) (hS : ∀ g, S g → T g) : Al (StrIB ⟨X, T⟩) us ss := h.mono fun _ _ h => h.le (Bse.le_ok (c := ⟨X, T⟩) (Bse.ok_self ⟨X, S⟩) fun g hg => hS g hg.1)
theorem J87 {X w : World} {bs : Bse} {n N g4 g7 k : Nat} {ob : Option Nat} {v : Value} {us : List StrW} {ss : List Stm} (h : X.ownsRow N 64 2 v k (us.flatMap smc)) (ha : Al (StrIB ⟨X, SS bs n g4 g7 ob⟩) us ss) (hk : us.length = k) (hs : k ≤ 1000000) (hn : n = w.heap.size) (hN : n ≤ N) : StmsB (bs.new w X) v ss :=
 ⟨us, by rw [hk]; exact J7q h hs fun g hg => .inr (by have := (Jk h hg).1; omega), Jmn ha fun g hg => by rw [← hn]; exact ss_out hg⟩
theorem Jkk : ∀ (cs : List Value) (A : Option Addr) (n cap : Nat), cs.length = 34 → Tryz.prog.built 38 [(0, .agg cs.toArray), (1, .slice A n cap)] = some (cs ++ [Value.slice A n cap]).toArray
 | a0 :: a1 :: a2 :: a3 :: [a4, a5, a6, a7, a8, a9, a10, a11, a12, a13, a14, a15, a16, a17, a18, a19, a20, a21, a22, a23, a24, a25, a26, a27, a28, a29, a30, a31, a32, a33], _, _, _, _ => by kernel_rfl
theorem J5g {o : Oper} {a : Act} {w : World} {x y : Operand} {m : Mt} {vE : Value} {A : Option Addr} {n cap : Nat} (hs : m.seed.length = 32) (ho : o.op = .build 38 #[(0, x), (1, y)]) (hx : a.eval x = mtV m vE) (hy : a.eval y = .slice A n cap) : stepAt Tryz.prog o a w fun v w' => v = .agg (stC m vE (.slice A n cap)).toArray ∧ w' = w := by
 have hr := run_build (P := Tryz.prog) w 38 #[(0, mtV m vE), (1, .slice A n cap)] _ (Jkk (mtc m vE) A n cap (J0 m vE hs))
 unfold stepAt execOp
 simp only [ho, Sem.run_bind, List.map_toArray, List.map_cons, List.map_nil, hx, hy, hr, Result.andThen_ok]
 exact ⟨rfl, rfl⟩
theorem Jad (m : Mt) (a b : Int) : (openM m a b).1.seed = m.seed := by unfold openM; split <;> (try split) <;> (try split) <;> rfl
theorem J9p (m : Mt) : (closeM m).1.seed = m.seed := by unfold closeM; split <;> rfl
theorem J9q (m : Mt) (n : Int) : (spendM m n).1.seed = m.seed := by unfold spendM; split <;> (try split) <;> (try split) <;> rfl
theorem Jae (m : Mt) (r : Rdg) : (takeM m r).1.seed = m.seed := by unfold takeM; split <;> (try split) <;> (try split) <;> rfl
theorem J88 (m : Mt) (i : Int) (r : Rdg) : (retractM m i r).1.seed = m.seed := by unfold retractM; split <;> (try split) <;> (try split) <;> rfl
theorem Jgj {m : Mt} {ss : List Stm} {o : Op26} (h : o.kind % 8 = 0) {M : Mt} {c : Int} (hx : (M, c) = openM m ((o.i : Int) % 4) (1 + (o.n : Int) % 4)) : stepM (m, ss) o = if c = 0 then (M, ss ++ [[]]) else (m, ss) := by
 unfold stepM
 rw [h]
 dsimp only
 rw [show ((1 + o.n % 4 : Nat) : Int) = 1 + (o.n : Int) % 4 by omega, show ((o.i % 4 : Nat) : Int) = (o.i : Int) % 4 by omega, ← hx]
 rfl
theorem Jgk {m : Mt} {ss : List Stm} {o : Op26} (h : o.kind % 8 = 1) {M : Mt} {c : Int} (hx : (M, c) = closeM m) : stepM (m, ss) o = if c = 0 then (M, ss) else (m, ss) := by
 unfold stepM
 rw [h]
 dsimp only
 rw [← hx]
 rfl
theorem Jgl {m : Mt} {ss : List Stm} {o : Op26} (h : o.kind % 8 = 2) {M : Mt} {l : List Nat} {c : Int} (hx : (M, l, c) = spendM m ((o.n : Int) % 4)) : stepM (m, ss) o = if c = 0 then (M, ss) else (m, ss) := by
 unfold stepM
 rw [h]
 dsimp only
 rw [show ((o.n % 4 : Nat) : Int) = (o.n : Int) % 4 by omega, ← hx]
 rfl
theorem Jmo {m : Mt} {ss : List Stm} {o : Op26} (h : o.kind % 8 = 3) {r : Rdg} (hr : (ss.getD (ss.length - 1) [])[o.i % 8]? = some (r, false)) {M : Mt} {c : Int} (hx : (M, c) = retractM m ((o.i % 8 : Nat) : Int) r) : stepM (m, ss) o = if c = 0 then (M, ss.set (ss.length - 1) ((ss.getD (ss.length - 1) []).set (o.i % 8) (r, true))) else (m, ss) := by
 unfold stepM
 rw [h]
 dsimp only [St26.last, St26.put]
 rw [hr]
 dsimp only
 rw [← hx]
 rfl
theorem Jbh {m : Mt} {ss : List Stm} {o : Op26} (h : o.kind % 8 = 3) (hr : ∀ r, (ss.getD (ss.length - 1) [])[o.i % 8]? ≠ some (r, false)) : stepM (m, ss) o = (m, ss) := by
 unfold stepM
 rw [h]
 dsimp only [St26.last, St26.put]
 cases hq : (ss.getD (ss.length - 1) [])[o.i % 8]? with
 | none => rfl
 | some x =>
  obtain ⟨r, b⟩ := x
  cases b with
  | true => rfl
  | false => exact absurd hq (hr r)
theorem Jgm {m : Mt} {ss : List Stm} {o : Op26} (h : 4 ≤ o.kind % 8) {M : Mt} {c : Int} (hx : (M, c) = takeM m o.rdg) : stepM (m, ss) o = if c = 0 then (M, ss.set (ss.length - 1) (ss.getD (ss.length - 1) [] ++ [(o.rdg, false)])) else (m, ss) := by
 unfold stepM
 obtain ⟨j, hj⟩ : ∃ j, o.kind % 8 = j + 4 := ⟨o.kind % 8 - 4, by omega⟩
 rw [hj]
 dsimp only [St26.last, St26.put]
 rw [← hx]
 rfl
theorem J5h : Tryz.prog.underlying 70 = some (.struct (Tryz.prog.fieldsOf 70)) := by kernel_rfl
theorem J68 : (Tryz.prog.info? 70).map (·.size) = some 6 := by kernel_rfl
theorem rdgIn26 {o : Op26} (h : o.ok) : RdgIn o.rdg := by
 obtain ⟨_, h0, h1, h2, _, _⟩ := h
 unfold RdgIn Op26.rdg
 dsimp only
 omega
theorem spl_st (us : List StrW) (rest : List Value) (k : Nat) (x : StrW) (hk : k < us.length) : spl (us.flatMap smc ++ rest).toArray (k * 2) (smc x) = ((us.set k x).flatMap smc ++ rest).toArray := by
 have h1 : us = us.take k ++ us[k] :: us.drop (k + 1) := by rw [List.getElem_cons_drop, List.take_append_drop]
 have h2 : us.set k x = us.take k ++ x :: us.drop (k + 1) := List.set_eq_take_append_cons_drop.trans (by rw [if_pos hk])
 have h3 : ((us.take k).flatMap smc).length = k * 2 := by rw [Jz J39, List.length_take, Nat.min_eq_left (by omega)]
 have h4 : us.flatMap smc ++ rest = (us.take k).flatMap smc ++ (smc us[k] ++ ((us.drop (k + 1)).flatMap smc ++ rest)) := by
  conv => lhs; rw [h1]
  simp only [List.flatMap_append, List.flatMap_cons, List.append_assoc]
 have h5 : (us.set k x).flatMap smc ++ rest = (us.take k).flatMap smc ++ (smc x ++ ((us.drop (k + 1)).flatMap smc ++ rest)) := by
  rw [h2]
  simp only [List.flatMap_append, List.flatMap_cons, List.append_assoc]
 rw [h4, h5, ← h3]
 exact Jam (smc x) _ (smc us[k]) _ rfl
theorem Jdd {w : World} {N n : Nat} {v : Value} {us : List StrW} (h : w.ownsRow N 64 2 v n (us.flatMap smc)) (hn : us.length = n) (h0 : 0 < n) : ∃ g cap rest, v = .slice (some ⟨g, 0, none⟩) n cap ∧ n ≤ cap ∧ N ≤ g ∧ Blk w g 64 (us.flatMap smc ++ rest).toArray ∧ ∀ k x X, k < n → Blk X g 64 ((us.set k x).flatMap smc ++ rest).toArray → X.ownsRow N 64 2 v n ((us.set k x).flatMap smc) := by
 obtain ⟨h1, h2⟩ := h
 rcases h2 with ⟨_, h2⟩ | ⟨g, cap, cur, rfl, r1, r2, r3, r4, r5, r6⟩
 · omega
 ·
  have hc : us.flatMap smc ++ cur.toList.drop (n * 2) = cur.toList := by rw [← r6, List.take_append_drop]
  refine ⟨g, cap, cur.toList.drop (n * 2), rfl, r3, r1, ?_, fun k x X hk hX => ⟨by rw [Jz J39, List.length_set, hn], .inr ⟨g, cap, _, rfl, r1, hX, r3, r4, ?_, ?_⟩⟩⟩
  ·
   rw [hc]
   exact r2
  ·
   have hl := congrArg List.length hc
   rw [List.length_append, Jz J39, Array.length_toList] at hl
   rw [← r5, List.size_toArray, List.length_append, Jz J39, List.length_set]
   exact hl
  · rw [List.take_append_of_le_length (by rw [Jz J39, List.length_set, hn]; exact Nat.le_refl _), List.take_of_length_le (by rw [Jz J39, List.length_set, hn]; exact Nat.le_refl _)]
def TupS (_ : Nat) (v : Value) : Prop := ∃ (x : StrW) (_ : Unit), v = .tuple #[.agg (smc x).toArray, .int .i64 0]
theorem StrIB.fwd {X Y : World} {S : Nat → Prop} {u : StrW} {s : Stm} (h : StrIB ⟨X, S⟩ u s) (hb : Below X.heap.size X Y) : StrIB ⟨Y, S⟩ u s := h.le (Bse.le_ok (c := ⟨Y, S⟩) ((Bse.ok_self ⟨X, S⟩).below hb) fun _ hg => hg.1)
theorem StrIB.pt {X Y : World} {S : Nat → Prop} {u : StrW} {s : Stm} {g : Nat} (h : StrIB ⟨X, S⟩ u s) (hp : Put X Y g) (hg : ¬ S g) : StrIB ⟨Y, S⟩ u s := h.le (Bse.le_ok (c := ⟨Y, S⟩) ((Bse.ok_self ⟨X, S⟩).put hp fun h => hg h.1) fun _ hg => hg.1)
theorem Jeu {r : Rdg} (h : r.ok) : RdgIn r := by
 unfold Rdg.ok at h
 unfold RdgIn
 omega
theorem StrIB.now {X : World} {S : Nat → Prop} {u : StrW} {s : Stm} (h : StrIB ⟨X, S⟩ u s) : StrIn X u s := h.old (Bse.ok_self ⟨X, S⟩)
theorem Jmp {s : Stm} {i : Nat} {r : Rdg} {b : Bool} (h : s[i]? = some (r, b)) : (gnc s)[i]? = some (.bool b) := by simp [gnc, h]
theorem Jkl {s : Stm} {i : Nat} {r : Rdg} {b : Bool} (h : s[i]? = some (r, b)) (j : Nat) (v : Value) (hv : (rdc r)[j]? = some v) : (rdsc s)[i * 4 + j]? = some v :=
 J1l (f := fun y : Rdg × Bool => rdc y.1) (fun _ => rfl) s i j _ v h hv
theorem join26e {A : Prop} {M : Option Addr → Nat → World → Prop} (Q : Option Addr → Nat → World → Prop) (h : (∀ a c X, Q a c X → M a c X) → A) (k : ∀ a c X, Q a c X → M a c X) : A := h k
theorem join26s {A : Prop} {M : Nat → StrW → World → Prop} (Q : Nat → StrW → World → Prop) (h : (∀ n x X, Q n x X → M n x X) → A) (k : ∀ n x X, Q n x X → M n x X) : A := h k
def RstI (S : Nat → Prop) (s : Stm) (lo hi : Nat) (v : Value) (w : World) : Prop := (∀ g, S g → g < hi) ∧ ∃ x : StrW, v = .tuple #[.agg (smc x).toArray, .int .i64 0] ∧ StrIB ⟨w, fun g => S g ∨ (lo ≤ g ∧ g < hi)⟩ x s
theorem Jev {S : Nat → Prop} {s : Stm} : Fit (RstI S s) TupS := ⟨fun n m v w w' ⟨h1, x, h2, h3⟩ hb => ⟨h1, x, h2, h3.le (Bse.le_ok (c := ⟨w', fun g => S g ∨ (n ≤ g ∧ g < m)⟩) ⟨hb.size, fun g hg => hb.block g (hg.1.elim (fun h => h1 g h) fun h => h.2)⟩ fun _ hg => hg.1)⟩, fun _ => ⟨_, ⟨.slice none 0 0, .slice none 0 0⟩, (), rfl⟩, fun n m v w h => by
 obtain ⟨_, x, rfl, _⟩ := h
 exact ⟨x, (), rfl⟩⟩
theorem sresI {b : Bse} {s : Stm} {w : World} (hb : b.W.heap.size ≤ w.heap.size) : ∀ r W2, (∃ x' : StrW, r = .returned (.tuple #[.agg (smc x').toArray, .int .i64 0]) ∧ StrIB (b.new w W2) x' s ∧ Below w.heap.size w W2) → RetR (RstI (InB b) s) w r W2 := fun r W2 ⟨x, h1, h2, h3⟩ =>
 ⟨_, h1, ⟨fun g hg => by have := hg.2; have := h3.size; omega, x, rfl, h2.le (Bse.le_ok (c := ⟨W2, fun g => InB b g ∨ (w.heap.size ≤ g ∧ g < W2.heap.size)⟩) (Bse.ok_self _) fun g hg => hg.1.imp id fun h => ⟨h, hg.2⟩)⟩, h3⟩
theorem Jgn {S : Nat → Prop} {s : Stm} {lo hi : Nat} {x : StrW} {w : World} (h : RstI S s lo hi (.tuple #[.agg (smc x).toArray, .int .i64 0]) w) : StrIB ⟨w, fun g => S g ∨ (lo ≤ g ∧ g < hi)⟩ x s := by
 obtain ⟨_, x2, h2, h3⟩ := h
 have hv : x2 = x := by
  simp only [Value.tuple.injEq, Value.agg.injEq, smc, Array.mk.injEq, List.cons.injEq, and_true, List.toArray_inj] at h2
  obtain ⟨a, b⟩ := x
  obtain ⟨c, d⟩ := x2
  simp only [StrW.mk.injEq]
  exact ⟨h2.1.symm, h2.2.symm⟩
 subst hv
 exact h3
theorem StrIB.sub {X : World} {S T : Nat → Prop} {u : StrW} {s : Stm} (h : StrIB ⟨X, S⟩ u s) (hS : ∀ g, S g → g < X.heap.size → T g) : StrIB ⟨X, T⟩ u s := h.le (Bse.le_ok (c := ⟨X, T⟩) (Bse.ok_self ⟨X, S⟩) fun g hg => hS g hg.1 hg.2)
theorem st_rng {W : World} {g j : Nat} {t : TypeId} {us : List StrW} {rest : List Value} {u : StrW} (b : Blk W g t (us.flatMap smc ++ rest).toArray) (hu : us[j]? = some u) : W.rangeAt g (j * 2) (smc u) := fun i v hi => by
 have h1 := J1l J39 us j i _ v hu hi
 rw [b.cell]
 simp only [List.getElem?_toArray]
 rw [List.getElem?_append_left (List.getElem?_eq_some_iff.1 h1).1]
 exact h1
theorem take_c {m : Mt} {r : Rdg} {M : Mt} (hx : (M, (0 : Int)) = takeM m r) : 0 < m.eps.length := by
 unfold takeM at hx
 split at hx
 · cases hx
 ·
  split at hx
  · cases hx
  ·
   rename_i h
   exact (J36 (by simpa using h)).1
section
open Go.RowKit

attribute [local irreducible] wpRg
end
section
open Go.RowKit

def qc26 (seed : Dg) (v : Value) : List Value := byc seed ++ [v]
def qv26 (seed : Dg) (v : Value) : Value := .agg (qc26 seed v).toArray
theorem Jkm (seed : Dg) (v : Value) (h : seed.length = 32) : (qc26 seed v).length = 33 := by simp [qc26, J3, h]
theorem Jbi {W : World} {g : Nat} {t : TypeId} {seed : Dg} {v : Value} (b : Blk W g t (qc26 seed v).toArray) : W.rangeAt g 0 (byc seed) := fun j u hu => by
 rw [b.cell, Nat.zero_add]
 simp only [List.getElem?_toArray]
 unfold qc26
 rw [List.getElem?_append_left (List.getElem?_eq_some_iff.1 hu).1]
 exact hu
theorem q26_l {W : World} {g : Nat} {t : TypeId} {seed : Dg} {v : Value} (b : Blk W g t (qc26 seed v).toArray) (h : seed.length = 32) : W.cell? ⟨g, 32, none⟩ = some v := by
 rw [b.cell]
 simp only [List.getElem?_toArray]
 unfold qc26
 rw [List.getElem?_append_right (by rw [J3, h]; exact Nat.le_refl _), J3, h]
 rfl
theorem Jgo (o : Op26) : (opc o).length = 6 := rfl
def plK (seed : Dg) (l : List Op26) (k : Nat) : St26 := (l.take k).foldl stepM (⟨0, seed, []⟩, [])
theorem plK_ok (seed : Dg) (hs : DgOk seed) (l : List Op26) (k : Nat) : StOk26 k (plK seed l k) :=
 (Ja8 (l.take k) 0 (⟨0, seed, []⟩, []) ⟨hs, Nat.le_refl _, rfl, Nat.le_refl _, fun i e l h => (by cases h), fun i e h => (by cases h)⟩).mono (by simp; omega)
theorem Jkn (seed : Dg) (l : List Op26) (k : Nat) (o : Op26) (h : l[k]? = some o) : plK seed l (k + 1) = stepM (plK seed l k) o := by
 unfold plK
 rw [List.take_add_one, h, Option.toList_some, List.foldl_append]
 rfl
theorem Jc9 (seed : Dg) (l : List Op26) (k : Nat) (h : k = l.length ∧ k ≤ 25 ∨ k = 25) : plK seed l k = playM seed l := by
 unfold plK playM
 rcases h with ⟨rfl, h⟩ | rfl
 · rw [List.take_of_length_le (Nat.le_refl _), List.take_of_length_le h]
 · rfl
theorem Jhg : (Tryz.prog.info? 38).map (fun i => (i.zero, i.size, i.bytes)) = some (some (.agg (stC ⟨0, List.replicate 32 0, []⟩ (.slice none 0 0) (.slice none 0 0)).toArray), 35, 88) := by kernel_rfl
theorem Jie : ∀ (cs : List Value), cs.length = 34 → Tryz.prog.built 38 [(0, .agg cs.toArray)] = some (cs ++ [Value.slice none 0 0]).toArray
 | a0 :: a1 :: a2 :: a3 :: [a4, a5, a6, a7, a8, a9, a10, a11, a12, a13, a14, a15, a16, a17, a18, a19, a20, a21, a22, a23, a24, a25, a26, a27, a28, a29, a30, a31, a32, a33], _ => by kernel_rfl
theorem Jew {o : Oper} {a : Act} {w : World} {x : Operand} {m : Mt} {vE : Value} (hs : m.seed.length = 32) (ho : o.op = .build 38 #[(0, x)]) (hx : a.eval x = mtV m vE) : stepAt Tryz.prog o a w fun v w' => v = .agg (stC m vE (.slice none 0 0)).toArray ∧ w' = w := by
 have hr := run_build (P := Tryz.prog) w 38 #[(0, mtV m vE)] _ (Jie (mtc m vE) (J0 m vE hs))
 unfold stepAt execOp
 simp only [ho, Sem.run_bind, List.map_toArray, List.map_cons, List.map_nil, hx, hr, Result.andThen_ok]
 exact ⟨rfl, rfl⟩
def PSt (S : Nat → Prop) (s : St26) (v : Value) (w : World) : Prop := ∃ vE vL, v = stV s.1 vE vL ∧ EpsB ⟨w, S⟩ vE s.1.eps ∧ StmsB ⟨w, S⟩ vL s.2
def StF (m : Mt) (n : Nat) (_ : Nat) (v : Value) : Prop := ∃ (x : Option Addr × Nat) (y : Option Addr × Nat), v = stV m (.slice x.1 m.eps.length x.2) (.slice y.1 n y.2)
theorem Jmq {S : Nat → Prop} {s : St26} : Fit (Was (PSt S s)) (StF s.1 s.2.length) := ⟨was_st, fun _ => ⟨_, (none, 0), (none, 0), rfl⟩, fun n m v w h => by
 obtain ⟨w0, _, ⟨vE, vL, rfl, hE, hL⟩, _⟩ := h
 obtain ⟨A, cap, rfl⟩ := hE.len
 obtain ⟨B, cb, rfl⟩ := hL.len
 exact ⟨(A, cap), (B, cb), rfl⟩⟩
theorem pst_of {S : Nat → Prop} {s : St26} {n m : Nat} {vE vL : Value} {w : World} (h : Was (PSt S s) n m (stV s.1 vE vL) w) : EpsB ⟨w, S⟩ vE s.1.eps ∧ StmsB ⟨w, S⟩ vL s.2 := by
 obtain ⟨w0, h1, ⟨vE2, vL2, h2, h3, h5⟩, h4⟩ := h
 have hv : vE2 = vE ∧ vL2 = vL := by
  simp only [stV, stC, Value.agg.injEq, List.toArray_inj, Array.mk.injEq] at h2
  have h6 := List.append_inj' h2 rfl
  obtain ⟨h6, h7⟩ := h6
  unfold mtc at h6
  simp only [List.cons.injEq, List.append_cancel_left_eq, and_true, true_and] at h6 h7
  exact ⟨h6.symm, h7.symm⟩
 obtain ⟨rfl, rfl⟩ := hv
 subst h1
 exact ⟨h3.fwd h4, h5.fwd h4⟩
theorem Jmr {S : Nat → Prop} {s : St26} {w : World} (hS : ∀ g, w.heap.size ≤ g → S g) : ∀ r W2, (∃ vE' vL', r = .returned (stV s.1 vE' vL') ∧ EpsB (Bse.new ⟨w, S⟩ w W2) vE' s.1.eps ∧ StmsB (Bse.new ⟨w, S⟩ w W2) vL' s.2 ∧ Below w.heap.size w W2) → RetR (Was (PSt S s)) w r W2 := fun r W2 ⟨vE, vL, h1, h2, h3, h4⟩ =>
 ⟨_, h1, ⟨W2, rfl, ⟨vE, vL, rfl, eps_to h2 fun g hg _ => hS g hg, h3.le (Bse.le_of (Nat.le_refl _) fun g hg => ⟨hg.1.elim (fun h => h.1) (fun h => hS g h), rfl⟩)⟩, Below.refl _ _⟩, h4⟩
theorem Jko (b : Bse) : StmsB b (.slice none 0 0) [] := ⟨[], fun X _ => nil_rd X 2, Al.nil⟩
theorem Jif : Tryz.prog.underlying 26 = some (.struct (Tryz.prog.fieldsOf 26)) := by kernel_rfl
theorem Jkp : (Tryz.prog.info? 26).map (·.size) = some 33 := by kernel_rfl
def PlS (g1 g3 g : Nat) : Prop := g1 ≤ g ∧ g ≠ g3 ∧ g ≠ g1 + 1
attribute [local irreducible] wpRg
end
section
open Go.ChangeShapes Go.WideShapes Go.RowKit

def natU (v : Value) : Nat := match v with | .int _ z => z.toNat | _ => 0
theorem Jn8 {z : Int} (h : 0 ≤ z ∧ z < 256) : Value.int .u8 z = .int .u8 ((natU (.int .u8 z) : Nat) : Int) ∧ natU (.int .u8 z) < 256 := by
 unfold natU
 dsimp only
 rw [Int.toNat_of_nonneg h.1]
 exact ⟨rfl, by omega⟩
theorem okd_u8 {W : World} {n : Nat} {cs : List Value} (h : Okd Tryz.prog W n 5 cs) : ∃ x : Nat, x < 256 ∧ cs = [.int .u8 (x : Int)] := by
 obtain ⟨z, e, o⟩ := J4w Tryz.underlying5 h
 have hz := wf_u8 o
 exact ⟨z.toNat, by omega, by rw [e, Int.toNat_of_nonneg hz.1]⟩
theorem Jde {W : World} {n m : Nat} {t : TypeId} {cs : List Value} (ht : Tryz.prog.underlying t = some (.array m 5)) (hc : Tryz.prog.cellsOf t = m) (h : Okd Tryz.prog W n t cs) : ∃ l : List Nat, l.length = m ∧ (∀ x ∈ l, x < 256) ∧ cs = byc l := by
 obtain ⟨h1, q, h2⟩ := Jhk ht h
 have c6 : Tryz.prog.cellsOf 5 = 1 := by kernel_rfl
 rw [hc] at h1
 have key : ∀ i, i < m → ∃ x : Nat, x < 256 ∧ cs[i]? = some (.int .u8 (x : Int)) := fun i hi => by
  have h3 := h2 i hi
  rw [c6, Nat.mul_one] at h3
  obtain ⟨x, hx, e⟩ := okd_u8 h3
  refine ⟨x, hx, ?_⟩
  have : ((cs.drop i).take 1)[0]? = some (.int .u8 (x : Int)) := by rw [e]; rfl
  simpa using this
 refine ⟨cs.map natU, by rw [List.length_map, h1], fun x hx => ?_, List.ext_getElem? fun i => ?_⟩
 ·
  obtain ⟨v, hv, rfl⟩ := List.mem_map.1 hx
  obtain ⟨i, hi⟩ := List.getElem?_of_mem hv
  obtain ⟨x, hx, e⟩ := key i (by rw [← h1]; exact (List.getElem?_eq_some_iff.1 hi).1)
  rw [hi] at e
  rw [Option.some.inj e]
  show ((x : Int)).toNat < 256
  omega
 ·
  rcases Nat.lt_or_ge i m with hi | hi
  ·
   obtain ⟨x, hx, e⟩ := key i hi
   rw [e]
   unfold byc
   rw [List.getElem?_map, List.getElem?_map, e]
   rfl
  · rw [List.getElem?_eq_none (by omega), List.getElem?_eq_none (by rw [J3, List.length_map]; omega)]
theorem Jkq {W : World} {n : Nat} {cs : List Value} (h : Okd Tryz.prog W n 70 cs) : ∃ o : Op26, o.ok ∧ cs = opc o := by
 obtain ⟨h1, m, h2⟩ := J7f Tryz.underlying70 h
 have c1 : Tryz.prog.cellsOf 70 = 6 := by kernel_rfl
 have c6 : Tryz.prog.cellsOf 5 = 1 := by kernel_rfl
 have c3 : Tryz.prog.cellsOf 68 = 3 := by kernel_rfl
 rw [c1] at h1
 obtain ⟨a, b, c, d, e, f, rfl⟩ : ∃ a b c d e f, cs = [a, b, c, d, e, f] := by
  match cs, h1 with
  | [a, b, c, d, e, f], _ => exact ⟨a, b, c, d, e, f, rfl⟩
 obtain ⟨k0, k1, k2, k3, -⟩ := h2
 simp only [c6, c3, List.drop_zero, List.take_succ_cons, List.take_zero, List.drop_succ_cons] at k0 k1 k2 k3
 obtain ⟨x0, hx0, e0⟩ := okd_u8 k0
 obtain ⟨l, hl, hl2, e1⟩ := Jde Tryz.underlying68 c3 k1
 obtain ⟨x2, hx2, e2⟩ := okd_u8 k2
 obtain ⟨x3, hx3, e3⟩ := okd_u8 k3
 obtain ⟨y0, y1, y2, rfl⟩ : ∃ y0 y1 y2, l = [y0, y1, y2] := by
  match l, hl with
  | [a, b, c], _ => exact ⟨a, b, c, rfl⟩
 simp only [byc, List.map_cons, List.map_nil, List.cons.injEq, and_true] at e0 e1 e2 e3
 obtain ⟨e1a, e1b, e1c⟩ := e1
 subst e0; subst e1a; subst e1b; subst e1c; subst e2; subst e3
 exact ⟨⟨x0, y0, y1, y2, x2, x3⟩, ⟨hx0, hl2 _ (by simp), hl2 _ (by simp), hl2 _ (by simp), hx2, hx3⟩, rfl⟩
theorem Jig {W : World} {n : Nat} {cs : List Value} (h : Okd Tryz.prog W n 24 cs) : ∃ v, cs = [v] ∧ ∃ l : List Op26, Rd 0 W.heap.size 6 W v l.length (l.flatMap opc) ∧ ∀ o ∈ l, o.ok :=
 Jhl opc Op26.ok (by decide) Jgo Tryz.underlying24 (by kernel_rfl) (Nat.le_of_ble_eq_true (by kernel_rfl)) (fun n cs h => Jkq h) h
theorem Jms {W : World} {n : Nat} {cs : List Value} (h : Okd Tryz.prog W n 26 cs) : ∃ (seed : Dg) (l : List Op26) (vO : Value), cs = qc26 seed vO ∧ DgOk seed ∧ l.length ≤ 140737488355327 ∧ (∀ o ∈ l, o.ok) ∧ RdA 6 W vO l.length (l.flatMap opc) := by
 obtain ⟨h1, m, h2⟩ := J7f Tryz.underlying26 h
 have c1 : Tryz.prog.cellsOf 26 = 33 := by kernel_rfl
 have c2 : Tryz.prog.cellsOf 23 = 32 := by kernel_rfl
 have c3 : Tryz.prog.cellsOf 24 = 1 := by kernel_rfl
 rw [c1] at h1
 obtain ⟨k0, k1, -⟩ := h2
 dsimp only at k0 k1
 rw [c2] at k0
 rw [c3] at k1
 obtain ⟨seed, hs1, hs2, e0⟩ := Jde Tryz.underlying23 c2 k0
 obtain ⟨v, e1, l, hl1, hl2⟩ := Jig k1
 refine ⟨seed, l, v, ?_, ⟨hs1, hs2⟩, hl1.2.1, hl2, hl1⟩
 rw [List.drop_zero] at e0
 unfold qc26
 rw [← e0, ← e1, List.take_of_length_le (l := cs.drop 32) (by rw [List.length_drop]; omega), List.take_append_drop]
theorem Jmt {W : World} {nm : String} {g : Nat} {t : TypeId} {cs : Array Value} {fuel n : Nat} {d : DataW Unit} {p : List MemPlace} (zs : List Int) (hg : Tryz.prog.globalNamed nm = some g) (ht : Tryz.prog.underlying t = some (.array n 5)) (hv : W.var? Tryz.prog nm = some cs)
  (hd : DataW.trod (fun _ => ()) Tryz.prog W 0 (fun _ => true) false fuel t cs.toList = some (d, p)) (hz : d = .agg (zs.map fun z => .lit (.int .u8 z))) (hn : zs.length = n) : W.rangeAt g 0 (zs.map fun z => Value.int .u8 z) := by
 obtain ⟨xs, m, _, ex, _, hl, hel⟩ := DataW.trod_array ht hd
 have c5 : Tryz.prog.cellsOf 5 = 1 := by kernel_rfl
 intro r v hr
 have hr' : r < n := by
  rw [← hn]
  have := (List.getElem?_eq_some_iff.1 hr).1
  rwa [List.length_map] at this
 have hE := hel r hr'
 rw [c5, Nat.mul_one, List.getElem?_eq_getElem (by omega)] at hE
 obtain ⟨z, e1, e2, _⟩ := DataW.trod_int Tryz.underlying5 hE
 have e3 : (xs.map (·.1)) = zs.map fun n => .lit (.int .u8 n) := (DataW.agg.inj ((Prod.mk.inj ex).1.symm.trans hz))
 have e4 : (xs.map (·.1))[r]? = (zs.map fun n => (DataW.lit (.int .u8 n) : DataW Unit))[r]? := by rw [e3]
 rw [List.getElem?_map, List.getElem?_map, List.getElem?_eq_getElem (by omega : r < xs.length), List.getElem?_eq_getElem (by omega : r < zs.length), e2] at e4
 rw [List.getElem?_map, List.getElem?_eq_getElem (by omega : r < zs.length)] at hr
 simp only [Option.map_some, Option.some.injEq, DataW.lit.injEq, Lit.int.injEq, true_and] at e4 hr
 rw [← e4] at hr
 rw [Nat.zero_add, World.var?_cell hg hv r, ← hr]
 have : cs.toList[r]? = some (.int .u8 z) := by
  have h0 : ((cs.toList.drop r).take 1)[0]? = some (.int .u8 z) := by rw [e1]; rfl
  simpa using h0
 simpa using this
theorem gDbt : Tryz.prog.globalNamed "math/bits.deBruijn64tab" = some 3 := by kernel_rfl
theorem tDbt : (Tryz.prog.globals[3]?).map (·.type) = some 162 := by kernel_rfl
def dbZ : List Int := [0, 1, 56, 2, 57, 49, 28, 3, 61, 58, 42, 50, 38, 29, 17, 4, 62, 47, 59, 36, 45, 43, 51, 22, 53, 39, 33, 30, 24, 18, 12, 5, 63, 55, 48, 27, 60, 41, 37, 16, 46, 35, 44, 21, 52, 32, 23, 11, 54, 26, 40, 15, 34, 20, 31, 10, 25, 14, 19, 9, 13, 8, 7, 6]
theorem Jmu : (Rows.laid_math_bits_deBruijn64tab : DataW Unit) = .agg (dbZ.map fun z => .lit (.int .u8 z)) := by kernel_rfl
theorem Jca {W : World} {g i : Nat} {v : Value} (h : W.cell? ⟨g, i, none⟩ = some v) : g < W.heap.size := by
 rcases Nat.lt_or_ge g W.heap.size with h1 | h1
 · exact h1
 · simp only [World.cell?] at h; rw [Array.getElem?_eq_none h1] at h; cases h
theorem Jbj {W : World} (h : laidMetH Tryz.prog [("math/bits.deBruijn32tab", Rows.laid_math_bits_deBruijn32tab), ("math/bits.deBruijn64tab", Rows.laid_math_bits_deBruijn64tab), ("attestor/mle.one", Rows.laid_attestor_mle_one), ("attestor/sha256.constants", Rows.laid_attestor_sha256_constants), ("attestor/sha256.initial", Rows.laid_attestor_sha256_initial)] W) : Laid W ∧ Lsh W ∧ Ldb W := by
 rw [MakeChecks.laidMetH_plain _ _ _ (by kernel_rfl)] at h
 obtain ⟨ps, ⟨g8, t8, cs8, f8, p8, q8, hg8, ht8, hv8, hd8, ⟨g9, t9, cs9, f9, p9, q9, hg9, ht9, hv9, hd9, ⟨g0, t0, cs0, f0, p0, q0, hg0, ht0, hv0, hd0, ⟨g1, t1, cs1, f1, p1, q1, hg1, ht1, hv1, hd1, ⟨g2, t2, cs2, f2, p2, q2, hg2, ht2, hv2, hd2, _, _⟩, _⟩, _⟩, _⟩, _⟩, _, _⟩ := h
 obtain rfl := Option.some.inj (gCon.symm.trans hg1)
 obtain rfl := Option.some.inj (tCon.symm.trans ht1)
 obtain rfl := Option.some.inj (gIni.symm.trans hg2)
 obtain rfl := Option.some.inj (tIni.symm.trans ht2)
 obtain rfl := Option.some.inj (gDbt.symm.trans hg9)
 obtain rfl := Option.some.inj (tDbt.symm.trans ht9)
 have r2 := Je7 conZ gCon Tryz.underlying188 hv1 hd1 Jjb (by kernel_rfl)
 have r1 := Je7 [1779033703, 3144134277, 1013904242, 2773480762, 1359893119, 2600822924, 528734635, 1541459225] gIni Tryz.underlying172 hv2 hd2 rfl rfl
 have r9 := Jmt dbZ gDbt Tryz.underlying162 hv9 hd9 Jmu rfl
 rw [← con_zs] at r2
 rw [← ini_zs] at r1
 have d0 := r9 0 _ rfl
 have d1 := r9 1 _ rfl
 have d3 := r9 3 _ rfl
 have d7 := r9 7 _ rfl
 exact ⟨Jit hg0 ht0 hv0 hd0, ⟨r1, r2, Jca (r1 0 _ rfl), Jca (r2 0 _ rfl)⟩, ⟨d0, d1, d3, d7, Jca d0⟩⟩
end

theorem J51 : En Tryz.prog 28 := enters_of Tryz.func28 (by kernel_rfl) rfl
theorem Jkr (x F : E) : x = F ∨ (x ≠ F ∧ fv x.a ≠ fv F.a) ∨ (x ≠ F ∧ fv x.a = fv F.a ∧ fv x.b ≠ fv F.b) := by
 by_cases ha : fv x.a = fv F.a
 ·
  by_cases hb : fv x.b = fv F.b
  · exact .inl (E.ext_ (fv_inj ha) (fv_inj hb))
  · exact .inr (.inr ⟨fun e => hb (by rw [e]), ha, hb⟩)
 · exact .inr (.inl ⟨fun e => ha (by rw [e]), ha⟩)
theorem Jgp {xs ys : List E} {k : Nat} {x y : E} (hx : xs[k]? = some x) (hy : ys[k]? = some y) (h : x ≠ y) : xs ≠ ys := fun e => by
 subst e
 rw [hx] at hy
 exact h (Option.some.inj hy)
theorem Jmv {xs ys : List E} {k : Nat} {x : E} (hx : xs[k]? = some x) (hy : ys[k]? = some x) (h : xs.take k = ys.take k) : xs.take (k + 1) = ys.take (k + 1) := by
 rw [List.take_add_one, List.take_add_one, hx, hy, h]
theorem rSame2 (xs ys : List E) (v1 v2 : Value) (lo1 hi1 lo2 hi2 : Nat) (w : World) (h1 : ExtS lo1 hi1 w v1 xs) (h2 : ExtS lo2 hi2 w v2 ys) :
  Calls Tryz.prog 38 #[v1, v2] w (Ret (.bool (decide (xs = ys))) w) := by
 obtain ⟨A1, cap1, rfl⟩ := h1.len
 obtain ⟨A2, cap2, rfl⟩ := h2.len
 have hlen := h1.2.1
 have hlen2 := h2.2.1
 have H1 := Lib.hid h1
 have H2 := Lib.hid h2
 clear h1 h2
 obtain ⟨n, hn⟩ : ∃ n, n = xs.length := ⟨_, rfl⟩
 obtain ⟨m, hm⟩ : ∃ m, m = ys.length := ⟨_, rfl⟩
 obtain ⟨b, hb⟩ : ∃ b, b = decide (xs = ys) := ⟨_, rfl⟩
 rw [← hn] at H1 hlen
 rw [← hm] at H2 hlen2
 rw [← hn, ← hm, ← hb]
 have Hb := Lib.hid hb
 have Hn := Lib.hid hn
 have Hm := Lib.hid hm
 clear hb hn hm
 by_cases hnm : n = m
 ·
  subst hnm
  have hnn : (((n : Int) != (n : Int))) = false := by simp
  go_enter Tryz.func38, Tryz.ntmps38
  go_wp2
  go_loopw [5] (fun i wr => ∃ k : Nat, k ≤ n ∧ i = .int .i64 k ∧ xs.take k = ys.take k ∧ Below w.heap.size w wr) (fun i _ => n - (intOf i).toNat)
  case atStart => exact ⟨0, Nat.zero_le _, rfl, rfl, Below.refl _ _⟩
  case round =>
   obtain ⟨k, hk, rfl, htk, hB⟩ := hrel
   have HTk := Lib.hid htk
   clear htk
   by_cases hlt : k < n
   ·
    obtain ⟨g, off, cap', hv, q1, q2, q3, q4, q5⟩ := J32 H1.out (by rw [← Hn.out]; omega)
    rw [← Hn.out] at hv
    cases hv
    obtain ⟨g', off', cap'', hv, r1, r2, r3, r4, r5⟩ := J32 H2.out (by rw [← Hm.out]; omega)
    rw [← Hm.out] at hv
    cases hv
    obtain ⟨x, hx⟩ : ∃ x, xs[k]? = some x := ⟨_, List.getElem?_eq_getElem (by rw [← Hn.out]; exact hlt)⟩
    obtain ⟨y, hy⟩ : ∃ y, ys[k]? = some y := ⟨_, List.getElem?_eq_getElem (by rw [← Hm.out]; exact hlt)⟩
    obtain ⟨d1, d2⟩ := q5 k x hx
    obtain ⟨d3, d4⟩ := r5 k y hy
    have c1 := Je (W := wr) (Nat.lt_of_lt_of_le q4 hB.size) ((hB.cell (p := ⟨g, off + k * 2, none⟩) q4).trans d1)
    have c2 := Je (W := wr) (Nat.lt_of_lt_of_le q4 hB.size) ((hB.cell (p := ⟨g, off + k * 2 + 1, none⟩) q4).trans d2)
    have c3 := Je (W := wr) (Nat.lt_of_lt_of_le r4 hB.size) ((hB.cell (p := ⟨g', off' + k * 2, none⟩) r4).trans d3)
    have c4 := Je (W := wr) (Nat.lt_of_lt_of_le r4 hB.size) ((hB.cell (p := ⟨g', off' + k * 2 + 1, none⟩) r4).trans d4)
    have HX := Lib.hid hx
    have HY := Lib.hid hy
    clear q5 r5 d1 d2 d3 d4 hx hy
    rcases Jkr x y with rfl | ⟨hne, hq⟩ | ⟨hne, hq1, hq⟩
    ·
     go_wp2
     refine Jd 9 [] (by kernel_rfl) (by kernel_rfl) (by kernel_rfl) trivial ?_
     iterate 9 (refine rg_det rfl rfl rfl (fun K hK => ?_); go_big_quiet_op; refine hK _ ?_; clear hK K)
     refine rg_nil (fun w' hw' hF => ?_)
     obtain ⟨z, rfl⟩ := hw'
     simp only [List.drop_succ_cons, List.drop_zero]
     go_wp2
     exact ⟨⟨k + 1, by omega, by go_num, Jmv HX.out HY.out HTk.out, hB.trans (z.h.mono hB.size)⟩, by simp [intOf]; omega⟩
    ·
     have hb : b = false := by rw [Hb.out]; exact decide_eq_false (Jgp HX.out HY.out hne)
     clear hne
     subst hb
     go_wp2
     refine Jd 9 [] (by kernel_rfl) (by kernel_rfl) (by kernel_rfl) trivial ?_
     iterate 9 (refine rg_det rfl rfl rfl (fun K hK => ?_); go_big_quiet_op; refine hK _ ?_; clear hK K)
     refine rg_nil (fun w' hw' hF => ?_)
     obtain ⟨z, rfl⟩ := hw'
     simp only [List.drop_succ_cons, List.drop_zero]
     go_wp2
     go_ret
     exact ⟨rfl, hB.trans (z.h.mono hB.size)⟩
    ·
     have hb : b = false := by rw [Hb.out]; exact decide_eq_false (Jgp HX.out HY.out hne)
     clear hne
     subst hb
     go_wp2
     refine Jd 9 [] (by kernel_rfl) (by kernel_rfl) (by kernel_rfl) trivial ?_
     iterate 9 (refine rg_det rfl rfl rfl (fun K hK => ?_); go_big_quiet_op; refine hK _ ?_; clear hK K)
     refine rg_nil (fun w' hw' hF => ?_)
     obtain ⟨z, rfl⟩ := hw'
     simp only [List.drop_succ_cons, List.drop_zero]
     go_wp2
     go_ret
     exact ⟨rfl, hB.trans (z.h.mono hB.size)⟩
   ·
    obtain rfl : k = n := by omega
    have hb : b = true := by
     have := HTk.out
     rw [List.take_of_length_le (by rw [← Hn.out]; exact Nat.le_refl _), List.take_of_length_le (by rw [← Hm.out]; exact Nat.le_refl _)] at this
     rw [Hb.out]
     exact decide_eq_true this
    subst hb
    go_wp2
    go_ret
    exact ⟨rfl, hB⟩
 ·
  have hnn : (((n : Int) != (m : Int))) = true := by rw [bne_iff_ne]; omega
  have hb : b = false := by
   rw [Hb.out]
   refine decide_eq_false fun e => hnm ?_
   rw [Hn.out, Hm.out, e]
  subst hb
  clear hnm
  go_enter Tryz.func38, Tryz.ntmps38
  go_wp2
  go_ret
  exact ⟨rfl, Below.refl _ _⟩
theorem J9r {size n : Nat} {w : World} {v : Value} {cs : List Value} (h : RdA size w v n cs) (h0 : 0 < n) : ∃ g off cap, v = .slice (some ⟨g, off, none⟩) n cap ∧ n ≤ cap ∧ g < w.heap.size ∧ ∀ (j : Nat) u, cs[j]? = some u → w.cell? ⟨g, off + j, none⟩ = some u := RdA.form h h0
theorem rSameBytes (l : List Nat) (v1 v2 : Value) (w : World) (h1 : RdA 1 w v1 l.length (byc l)) (h2 : RdA 1 w v2 l.length (byc l)) : Calls Tryz.prog 28 #[v1, v2] w (Ret (.bool true) w) := by
 obtain ⟨A1, cap1, rfl⟩ := Rd.len h1
 obtain ⟨A2, cap2, rfl⟩ := Rd.len h2
 have hlen := h1.2.1
 obtain ⟨n, hn⟩ : ∃ n, n = l.length := ⟨_, rfl⟩
 rw [← hn] at h1 h2 hlen
 rw [← hn]
 have H1 := Lib.hid h1
 have H2 := Lib.hid h2
 have Hn := Lib.hid hn
 clear h1 h2 hn
 have hnn : (((n : Int) != (n : Int))) = false := by simp
 go_enter Tryz.func28, Tryz.ntmps28
 go_wp2
 go_loopw [5] (fun i wr => ∃ k : Nat, k ≤ n ∧ i = .int .i64 k ∧ Below w.heap.size w wr) (fun i _ => n - (intOf i).toNat)
 case atStart => exact ⟨0, Nat.zero_le _, rfl, Below.refl _ _⟩
 case round =>
  obtain ⟨k, hk, rfl, hB⟩ := hrel
  by_cases hlt : k < n
  ·
   obtain ⟨g, off, cap', hv, q1, q4, q5⟩ := J9r H1.out (by omega)
   cases hv
   obtain ⟨g', off', cap'', hv, r1, r4, r5⟩ := J9r H2.out (by omega)
   cases hv
   obtain ⟨x, hx⟩ : ∃ x, l[k]? = some x := ⟨_, List.getElem?_eq_getElem (by rw [← Hn.out]; exact hlt)⟩
   have hb : (byc l)[k]? = some (.int .u8 (x : Int)) := by unfold byc; rw [List.getElem?_map, hx]; rfl
   have c1 := Je (W := wr) (Nat.lt_of_lt_of_le q4 hB.size) ((hB.cell (p := ⟨g, off + k, none⟩) q4).trans (q5 k _ hb))
   have c3 := Je (W := wr) (Nat.lt_of_lt_of_le r4 hB.size) ((hB.cell (p := ⟨g', off' + k, none⟩) r4).trans (r5 k _ hb))
   clear q5 r5 hb hx
   have hnx : (((x : Int) != (x : Int))) = false := by simp
   go_wp2
   refine Jd 9 [] (by kernel_rfl) (by kernel_rfl) (by kernel_rfl) trivial ?_
   iterate 9 (refine rg_det rfl rfl rfl (fun K hK => ?_); go_big_quiet_op; refine hK _ ?_; clear hK K)
   refine rg_nil (fun w' hw' hF => ?_)
   obtain ⟨z, rfl⟩ := hw'
   simp only [List.drop_succ_cons, List.drop_zero]
   go_wp2
   exact ⟨⟨k + 1, by omega, by go_num, hB.trans (z.h.mono hB.size)⟩, by simp [intOf]; omega⟩
  ·
   obtain rfl : k = n := by omega
   go_wp2
   go_ret
   exact ⟨rfl, hB⟩
theorem rSameD (ds : List Dg) (v1 v2 : Value) (w : World) (h1 : DgsA w v1 ds) (h2 : DgsA w v2 ds) : Calls Tryz.prog 82 #[v1, v2] w (Ret (.bool true) w) := by
 obtain ⟨A1, cap1, rfl⟩ := DgsA.len h1
 obtain ⟨A2, cap2, rfl⟩ := DgsA.len h2
 have hlen := h1.1.2.1
 obtain ⟨n, hn⟩ : ∃ n, n = ds.length := ⟨_, rfl⟩
 rw [← hn] at h1 h2 hlen
 rw [← hn]
 have H1 := Lib.hid h1
 have H2 := Lib.hid h2
 have Hn := Lib.hid hn
 clear h1 h2 hn
 have hnn : (((n : Int) != (n : Int))) = false := by simp
 go_enter Tryz.func82, Tryz.ntmps82
 go_wp2
 go_loopw [5] (fun i wr => ∃ k : Nat, k ≤ n ∧ i = .int .i64 k ∧ Below w.heap.size w wr) (fun i _ => n - (intOf i).toNat)
 case atStart => exact ⟨0, Nat.zero_le _, rfl, Below.refl _ _⟩
 case round =>
  obtain ⟨k, hk, rfl, hB⟩ := hrel
  by_cases hlt : k < n
  ·
   obtain ⟨d, hd⟩ : ∃ d, ds[k]? = some d := ⟨_, List.getElem?_eq_getElem (by rw [← Hn.out]; exact hlt)⟩
   obtain ⟨g, off, cap', hv, q1, q4, q5, hdk⟩ := (H1.out.keep hB).at hd
   rw [← Hn.out] at hv
   cases hv
   obtain ⟨g', off', cap'', hv, r1, r4, r5, -⟩ := (H2.out.keep hB).at hd
   rw [← Hn.out] at hv
   cases hv
   have hl := hdk.1
   have HQ := Lib.hid q5
   have HR := Lib.hid r5
   clear hd q5 r5 q1 r1
   go_wp2_with fail
   refine Jd 9 [(3, Spec.val (dgv d)), (7, Spec.val (dgv d)), (8, Spec.val (.bool false))] (by kernel_rfl) (by kernel_rfl) (by kernel_rfl) trivial ?_
   iterate 3 (refine rg_det rfl rfl rfl (fun K hK => ?_); go_big_quiet_op; refine hK _ ?_; clear hK K)
   refine rg_val rfl rfl (fun W1 hW1 hF => Jf (cs := byc d) Jg rfl (by rw [Jc, J3, hl]) rfl rfl (Jr HQ.out q4 (J8 hW1))) ?_
   intro a' ha
   simp only [PutS] at ha
   subst ha
   iterate 3 (refine rg_det rfl rfl rfl (fun K hK => ?_); go_big_quiet_op; refine hK _ ?_; clear hK K)
   refine rg_val rfl rfl (fun W1 hW1 hF => Jf (cs := byc d) Jg rfl (by rw [Jc, J3, hl]) rfl rfl (Jr HR.out r4 (J8 hW1))) ?_
   intro a' ha
   simp only [PutS] at ha
   subst ha
   refine rg_val rfl rfl (fun W1 hW1 hF => Jb (fun _ _ h => ⟨h.1, by rw [h.2]; exact Below.refl _ _⟩) (Jer (d := d) rfl rfl rfl hl)) ?_
   intro a' ha
   simp only [PutS] at ha
   subst ha
   refine rg_nil (fun w' hw' hF => ?_)
   obtain ⟨z, rfl⟩ := hw'
   simp only [List.drop_succ_cons, List.drop_zero]
   clear hF
   go_wp2_with fail
   exact ⟨⟨k + 1, by omega, by go_num, hB.trans (z.h.mono hB.size)⟩, by simp [intOf]; omega⟩
  ·
   obtain rfl : k = n := by omega
   go_wp2_with fail
   go_ret
   exact ⟨rfl, hB⟩
section

instance decPt : DecidableEq Pt := fun a b =>
 if h : a.R = b.R ∧ a.V = b.V ∧ a.used = b.used then .isTrue (by obtain ⟨a1, a2, a3⟩ := a; obtain ⟨b1, b2, b3⟩ := b; obtain ⟨h1, h2, h3⟩ := h; dsimp only at h1 h2 h3; rw [h1, h2, h3])
 else .isFalse fun e => h (by rw [e]; exact ⟨rfl, rfl, rfl⟩)
instance decEp : DecidableEq Ep := fun a b =>
 if h : a.log = b.log ∧ a.count = b.count ∧ a.closed = b.closed ∧ a.pts = b.pts ∧ a.peaks = b.peaks then .isTrue (by obtain ⟨a1, a2, a3, a4, a5⟩ := a; obtain ⟨b1, b2, b3, b4, b5⟩ := b; obtain ⟨h1, h2, h3, h4, h5⟩ := h; dsimp only at h1 h2 h3 h4 h5; rw [h1, h2, h3, h4, h5])
 else .isFalse fun e => h (by rw [e]; exact ⟨rfl, rfl, rfl, rfl, rfl⟩)
instance decMt : DecidableEq Mt := fun a b =>
 if h : a.ver = b.ver ∧ a.seed = b.seed ∧ a.eps = b.eps then .isTrue (by obtain ⟨a1, a2, a3⟩ := a; obtain ⟨b1, b2, b3⟩ := b; obtain ⟨h1, h2, h3⟩ := h; dsimp only at h1 h2 h3; rw [h1, h2, h3])
 else .isFalse fun e => h (by rw [e]; exact ⟨rfl, rfl, rfl⟩)
def Hd (a b : Ep) : Prop := a.log = b.log → a.count = b.count → a.closed = b.closed → a.pts.length = b.pts.length → a.peaks = b.peaks
theorem Jmw (l : List Nat) (pts : List Pt) (k : Nat) (p : Pt) (h : pts[k]? = some p) : (useP l pts)[k]? = some (if k ∈ l then { p with used := true } else p) := by
 unfold useP
 rw [List.getElem?_mapIdx, h]
 rfl
end
end Go.Proofs.YtoiampgfnidfdaaGreatDoor
