/-
  The law's step, to the switch.
-/
import Derived.Test.YtoiampgfnidfdaaGreatDoorStt26
import Derived.Test.YtoiampgfnidfdaaGreatDoorSnw26
namespace Go.Proofs.YtoiampgfnidfdaaGreatDoor
open Go.RowKit

def stC (m : Mt) (vE vL : Value) : List Value := mtc m vE ++ [vL]
def stV (m : Mt) (vE vL : Value) : Value := .agg (stC m vE vL).toArray
theorem stC_len (m : Mt) (vE vL : Value) (h : m.seed.length = 32) : (stC m vE vL).length = 35 := by simp [stC, mtc_len m vE h]
theorem stC_one (m : Mt) (vE vL : Value) (hE : vE.oneCell' = true) (hL : vL.oneCell' = true) : (stC m vE vL).all (·.oneCell') = true := by
  unfold stC
  rw [List.all_append, mtc_one m vE hE]
  simp [hL]
theorem stt_under26 : Tryz.prog.underlying 38 = some (.struct (Tryz.prog.fieldsOf 38)) := by kernel_rfl
theorem stt_size26 : (Tryz.prog.info? 38).map (·.size) = some 35 := by kernel_rfl
theorem st_mt {W : World} {g : Nat} {t : TypeId} {m : Mt} {vE vL : Value} (b : Blk W g t (stC m vE vL).toArray) : W.rangeAt g 0 (mtc m vE) := fun j u hu => by
  rw [b.cell, Nat.zero_add]
  simp only [List.getElem?_toArray]
  unfold stC
  rw [List.getElem?_append_left (List.getElem?_eq_some_iff.1 hu).1]
  exact hu
theorem st_34 {W : World} {g : Nat} {t : TypeId} {m : Mt} {vE vL : Value} (b : Blk W g t (stC m vE vL).toArray) (h : m.seed.length = 32) : W.cell? ⟨g, 34, none⟩ = some vL := by
  rw [b.cell]
  simp only [List.getElem?_toArray]
  unfold stC
  rw [List.getElem?_append_right (by rw [mtc_len m vE h]; exact Nat.le_refl _), mtc_len m vE h]
  rfl
theorem stl_slice : Tryz.prog.underlying 36 = some (.slice 64) := by kernel_rfl
theorem smc_one {b : Bse} {u : StrW} {s : Stm} (h : StrIB b u s) : ∀ v ∈ smc u, v.oneCell' = true := by
  obtain ⟨⟨A1, c1, e1⟩, ⟨A2, c2, e2⟩⟩ := h.len
  intro v hv
  simp only [smc, List.mem_cons, List.not_mem_nil, or_false] at hv
  rcases hv with rfl | rfl
  · rw [e1]; rfl
  · rw [e2]; rfl
theorem smcs_one {b : Bse} {us : List StrW} {ss : List Stm} (h : Al (StrIB b) us ss) : ∀ v ∈ us.flatMap smc, v.oneCell' = true := al_one h fun _ _ h => smc_one h
def OwY (N : Nat) (e : TypeId) (size n : Nat) (cs : List Value) (_ hi : Nat) (v : Value) (w : World) : Prop := w.ownsRow N e size v n cs ∧ ∀ g, v.ownBlock = some g → g < hi
theorem fit_owy {N n size : Nat} {e : TypeId} {cs : List Value} : Fit (OwY N e size n cs) (SlF n) := ⟨fun _ m v w w' h hb => by
  refine ⟨?_, h.2⟩
  obtain ⟨⟨h1, h2⟩, h3⟩ := h
  refine ⟨h1, h2.imp id ?_⟩
  rintro ⟨g, cap, cur, rfl, q2, q3, q4⟩
  exact ⟨g, cap, cur, rfl, q2, (hb.block g (h3 g rfl)).trans q3, q4⟩, fun _ => ⟨.slice none n 0, none, 0, rfl⟩, fun _ _ _ _ h => own_lenR h.1⟩
theorem step_appY {P : Program} {o : Oper} {a : Act} {w : World} {s x : Operand} {t e : TypeId} {i : TypeInfo} {z : Value} {size bytes N b m lo2 hi2 : Nat} {news : List Value} {v2 : Value}
    (ho : o.op = .call { callee := .builtin .append, args := #[s, x], argTypes := #[t, t] }) (ht : P.underlying t = some (.slice e)) (hie : P.info? e = some i) (hz : i.zero = some z) (hsize : i.size = size) (hby : i.bytes = bytes) (hzs : z.cells.size = size) (hsz : 0 < size)
    (h1 : ∀ u ∈ news, u.oneCell' = true) (hs : a.eval s = .slice (some ⟨b, 0, none⟩) 0 0) (hNb : N ≤ b) (hb : Blk w b e #[]) (hx : a.eval x = v2) (hr2 : Rd lo2 hi2 size w v2 m news) (hk : m ≤ maxLen) (hk2 : m * bytes ≤ 140737488355328) :
    stepAt P o a w fun v' w' => OwY N e size m news w.heap.size w'.heap.size v' w' ∧ Below w.heap.size w w' := by
  have hbl := hb.lt
  by_cases hm : m = 0
  · subst hm
    have hcl : news = [] := List.eq_nil_of_length_eq_zero (by rw [hr2.1]; omega)
    subst hcl
    obtain ⟨A2, cap2, rfl⟩ := hr2.len
    have hlc : ∀ (b : Addr) (W : World), (loadCells b 0).run P W = .ok #[] W := fun b W => run_loadCells_list (P := P) W b [] (fun j v hv => by simp at hv)
    have src : Src P i.size t (.slice A2 0 cap2) 0 [] w := ⟨.inl ⟨e, ht⟩, fun w' => by simp [Builtin.lenOf], by cases A2 <;> simp [Builtin.firstCells, hlc], by cases A2 <;> simp [Builtin.firstCells, hlc], by simp, fun u hu => by cases hu⟩
    have hrun := run_append_nothing (P := P) w t t o.type e i ht hie (some ⟨b, 0, none⟩) 0 0 (Nat.le_refl _) (.slice A2 0 cap2) src
    unfold stepAt execOp
    simp only [ho, resolve, invoke, builtin, Sem.run_bind, Sem.run_pure, Result.andThen_ok, List.map_toArray, List.map_cons, List.map_nil, hs, hx, hrun]
    refine ⟨⟨⟨by simp, .inr ⟨b, 0, #[], rfl, hNb, hb, Nat.le_refl _, Nat.zero_le _, by simp, by simp⟩⟩, fun g hg => ?_⟩, Below.refl _ _⟩
    cases hg
    exact hbl
  · refine stepAt_mono (fun v w' hh => ?_) (step_grows (lo := b) (hi := w.heap.size) (olds := []) ho ht hie hz hsize hby hzs hsz h1 hs (fun h => by cases h) hx ⟨by simp, by decide, _, 0, rfl, Nat.le_refl _, fun h => by omega⟩ hr2 (by omega) (by omega) (by simpa using hk2))
    obtain ⟨q1, q2⟩ := hh
    rw [Nat.zero_add, List.nil_append] at q1
    refine ⟨⟨⟨q1.1, ?_⟩, fun g hg => (own_block q1 hg).2⟩, q2⟩
    refine q1.2.imp id ?_
    rintro ⟨g, cap, cur, r1, r2, r3⟩
    exact ⟨g, cap, cur, r1, by omega, r3⟩
theorem en_attestor_attestorlaw26_step : ∀ args w, (callFunc 36 args).run Tryz.prog w = .ok (.enter 36 args) w := enters_of Tryz.func36 (by kernel_rfl) rfl
theorem stpp_info26 : (Tryz.prog.info? 64).map (fun i => (i.zero, i.size, i.bytes)) = some (some (.agg #[.slice none 0 0, .slice none 0 0]), 2, 48) := by kernel_rfl
def SS (bs : Bse) (n g4 g7 : Nat) (ob : Option Nat) (g : Nat) : Prop := InB bs g ∨ (n ≤ g ∧ g ≠ g4 ∧ g ≠ g7 ∧ ob ≠ some g)
theorem ss_new {bs : Bse} {n g4 g7 N : Nat} {ob : Option Nat} (h2 : n ≤ N) (h4 : g4 < N) (h7 : g7 < N) (ho : ∀ g, ob = some g → g < N) : ∀ g, N ≤ g → SS bs n g4 g7 ob g := fun g hg => .inr ⟨by omega, by omega, by omega, fun e => by have := ho g e; omega⟩
theorem ss_not7 {bs : Bse} {n g4 g7 : Nat} {ob : Option Nat} (hb : bs.W.heap.size ≤ n) (h : n ≤ g7) : ¬ SS bs n g4 g7 ob g7 := fun hh => by
  rcases hh with hh | hh
  · have := hh.2; omega
  · exact hh.2.2.1 rfl
theorem ss_not4 {bs : Bse} {n g4 g7 : Nat} {ob : Option Nat} (hb : bs.W.heap.size ≤ n) (h : n ≤ g4) : ¬ SS bs n g4 g7 ob g4 := fun hh => by
  rcases hh with hh | hh
  · have := hh.2; omega
  · exact hh.2.1 rfl
theorem ss_notO {bs : Bse} {n g4 g7 g : Nat} {ob : Option Nat} (ho : ob = some g) (hb : bs.W.heap.size ≤ n) (h : n ≤ g) : ¬ SS bs n g4 g7 ob g := fun hh => by
  rcases hh with hh | hh
  · have := hh.2; omega
  · exact hh.2.2.2 ho
theorem ss_out {bs : Bse} {n g4 g7 g : Nat} {ob : Option Nat} (h : SS bs n g4 g7 ob g) : InB bs g ∨ n ≤ g := h.imp id fun h => h.1
theorem ss_grown {bs : Bse} {X Y : World} {n g4 g7 : Nat} {ob : Option Nat} (hg : X.grownBy Y ob) (hb : bs.W.heap.size ≤ n) (ho : ∀ g, ob = some g → n ≤ g) : (Bse.mk X (SS bs n g4 g7 ob)).ok Y := ⟨hg.size, fun g hh => hg.block g hh.2 fun e => ss_notO e.symm hb (ho g e.symm) hh.1⟩
theorem eps_grown {bs : Bse} {X Y : World} {n g4 g7 : Nat} {ob : Option Nat} {v : Value} {es : List Ep} (h : EpsB ⟨X, SS bs n g4 g7 ob⟩ v es) (hg : X.grownBy Y ob) (hb : bs.W.heap.size ≤ n) (ho : ∀ g, ob = some g → n ≤ g) : EpsB ⟨Y, SS bs n g4 g7 ob⟩ v es := h.le (Bse.le_ok (c := ⟨Y, SS bs n g4 g7 ob⟩) (ss_grown hg hb ho) fun _ hg => hg.1)
theorem sts_grown {bs : Bse} {X Y : World} {n g4 g7 : Nat} {ob : Option Nat} {us : List StrW} {ss : List Stm} (h : Al (StrIB ⟨X, SS bs n g4 g7 ob⟩) us ss) (hg : X.grownBy Y ob) (hb : bs.W.heap.size ≤ n) (ho : ∀ g, ob = some g → n ≤ g) : Al (StrIB ⟨Y, SS bs n g4 g7 ob⟩) us ss := h.mono fun _ _ h => h.le (Bse.le_ok (c := ⟨Y, SS bs n g4 g7 ob⟩) (ss_grown hg hb ho) fun _ hg => hg.1)
theorem sts_fwd {X Y : World} {S : Nat → Prop} {us : List StrW} {ss : List Stm} (h : Al (StrIB ⟨X, S⟩) us ss) (hb : Below X.heap.size X Y) : Al (StrIB ⟨Y, S⟩) us ss := h.mono fun _ _ h => h.le (Bse.le_ok (c := ⟨Y, S⟩) ((Bse.ok_self ⟨X, S⟩).below hb) fun _ hg => hg.1)
theorem sts_pt {X Y : World} {S : Nat → Prop} {us : List StrW} {ss : List Stm} {g : Nat} (h : Al (StrIB ⟨X, S⟩) us ss) (hp : Put X Y g) (hg : ¬ S g) : Al (StrIB ⟨Y, S⟩) us ss := h.mono fun _ _ h => h.le (Bse.le_ok (c := ⟨Y, S⟩) ((Bse.ok_self ⟨X, S⟩).put hp fun h => hg h.1) fun _ hg => hg.1)
theorem own_rdS {X : World} {S : Nat → Prop} {N n size : Nat} {e : TypeId} {v : Value} {cs : List Value} (h : X.ownsRow N e size v n cs) (hs : n ≤ 1000000) (hS : ∀ g, v.ownBlock = some g → S g) : RdB ⟨X, S⟩ size v n cs := by
  intro Y hY
  refine RdA.of (Rd.of_own (base := N) (e := e) ?_ (by omega) (Nat.le_refl _))
  obtain ⟨h1, h2⟩ := h
  refine ⟨h1, h2.imp id ?_⟩
  rintro ⟨g, cap, cur, rfl, q2, q3, q4⟩
  exact ⟨g, cap, cur, rfl, q2, (hY.2 g ⟨hS g rfl, (Array.getElem?_eq_some_iff.1 q3).1⟩).trans q3, q4⟩
theorem stms_sub {X : World} {S T : Nat → Prop} {v : Value} {ss : List Stm} (h : StmsB ⟨X, S⟩ v ss) (hS : ∀ g, S g → T g) : StmsB ⟨X, T⟩ v ss := h.le (Bse.le_ok (c := ⟨X, T⟩) (Bse.ok_self ⟨X, S⟩) fun g hg => hS g hg.1)
theorem sts_sub {X : World} {S T : Nat → Prop} {us : List StrW} {ss : List Stm} (h : Al (StrIB ⟨X, S⟩) us ss) (hS : ∀ g, S g → T g) : Al (StrIB ⟨X, T⟩) us ss := h.mono fun _ _ h => h.le (Bse.le_ok (c := ⟨X, T⟩) (Bse.ok_self ⟨X, S⟩) fun g hg => hS g hg.1)
theorem stms_own {X w : World} {bs : Bse} {n N g4 g7 k : Nat} {ob : Option Nat} {v : Value} {us : List StrW} {ss : List Stm} (h : X.ownsRow N 64 2 v k (us.flatMap smc)) (ha : Al (StrIB ⟨X, SS bs n g4 g7 ob⟩) us ss) (hk : us.length = k) (hs : k ≤ 1000000) (hn : n = w.heap.size) (hN : n ≤ N) : StmsB (bs.new w X) v ss :=
  ⟨us, by rw [hk]; exact own_rdS h hs fun g hg => .inr (by have := (own_block h hg).1; omega), sts_sub ha fun g hg => by rw [← hn]; exact ss_out hg⟩
theorem built_st : ∀ (cs : List Value) (A : Option Addr) (n cap : Nat), cs.length = 34 → Tryz.prog.built 38 [(0, .agg cs.toArray), (1, .slice A n cap)] = some (cs ++ [Value.slice A n cap]).toArray
  | a0 :: a1 :: a2 :: a3 :: [a4, a5, a6, a7, a8, a9, a10, a11, a12, a13, a14, a15, a16, a17, a18, a19, a20, a21, a22, a23, a24, a25, a26, a27, a28, a29, a30, a31, a32, a33], _, _, _, _ => by kernel_rfl
theorem step_buildS {o : Oper} {a : Act} {w : World} {x y : Operand} {m : Mt} {vE : Value} {A : Option Addr} {n cap : Nat} (hs : m.seed.length = 32) (ho : o.op = .build 38 #[(0, x), (1, y)]) (hx : a.eval x = mtV m vE) (hy : a.eval y = .slice A n cap) : stepAt Tryz.prog o a w fun v w' => v = .agg (stC m vE (.slice A n cap)).toArray ∧ w' = w := by
  have hr := run_build (P := Tryz.prog) w 38 #[(0, mtV m vE), (1, .slice A n cap)] _ (built_st (mtc m vE) A n cap (mtc_len m vE hs))
  unfold stepAt execOp
  simp only [ho, Sem.run_bind, List.map_toArray, List.map_cons, List.map_nil, hx, hy, hr, Result.andThen_ok]
  exact ⟨rfl, rfl⟩
theorem open_seed (m : Mt) (a b : Int) : (openM m a b).1.seed = m.seed := by unfold openM; split <;> (try split) <;> (try split) <;> rfl
theorem close_seed (m : Mt) : (closeM m).1.seed = m.seed := by unfold closeM; split <;> rfl
theorem spend_seed (m : Mt) (n : Int) : (spendM m n).1.seed = m.seed := by unfold spendM; split <;> (try split) <;> (try split) <;> rfl
theorem take_seed (m : Mt) (r : Rdg) : (takeM m r).1.seed = m.seed := by unfold takeM; split <;> (try split) <;> (try split) <;> rfl
theorem retract_seed (m : Mt) (i : Int) (r : Rdg) : (retractM m i r).1.seed = m.seed := by unfold retractM; split <;> (try split) <;> (try split) <;> rfl
theorem stepM_0 {m : Mt} {ss : List Stm} {o : Op26} (h : o.kind % 8 = 0) {M : Mt} {c : Int} (hx : (M, c) = openM m ((o.i : Int) % 4) (1 + (o.n : Int) % 4)) : stepM (m, ss) o = if c = 0 then (M, ss ++ [[]]) else (m, ss) := by
  unfold stepM
  rw [h]
  dsimp only
  rw [show ((1 + o.n % 4 : Nat) : Int) = 1 + (o.n : Int) % 4 by omega, show ((o.i % 4 : Nat) : Int) = (o.i : Int) % 4 by omega, ← hx]
  rfl
theorem stepM_1 {m : Mt} {ss : List Stm} {o : Op26} (h : o.kind % 8 = 1) {M : Mt} {c : Int} (hx : (M, c) = closeM m) : stepM (m, ss) o = if c = 0 then (M, ss) else (m, ss) := by
  unfold stepM
  rw [h]
  dsimp only
  rw [← hx]
  rfl
theorem stepM_2 {m : Mt} {ss : List Stm} {o : Op26} (h : o.kind % 8 = 2) {M : Mt} {l : List Nat} {c : Int} (hx : (M, l, c) = spendM m ((o.n : Int) % 4)) : stepM (m, ss) o = if c = 0 then (M, ss) else (m, ss) := by
  unfold stepM
  rw [h]
  dsimp only
  rw [show ((o.n % 4 : Nat) : Int) = (o.n : Int) % 4 by omega, ← hx]
  rfl
theorem stepM_3 {m : Mt} {ss : List Stm} {o : Op26} (h : o.kind % 8 = 3) {r : Rdg} (hr : (ss.getD (ss.length - 1) [])[o.i % 8]? = some (r, false)) {M : Mt} {c : Int} (hx : (M, c) = retractM m ((o.i % 8 : Nat) : Int) r) : stepM (m, ss) o = if c = 0 then (M, ss.set (ss.length - 1) ((ss.getD (ss.length - 1) []).set (o.i % 8) (r, true))) else (m, ss) := by
  unfold stepM
  rw [h]
  dsimp only [St26.last, St26.put]
  rw [hr]
  dsimp only
  rw [← hx]
  rfl
theorem stepM_3n {m : Mt} {ss : List Stm} {o : Op26} (h : o.kind % 8 = 3) (hr : ∀ r, (ss.getD (ss.length - 1) [])[o.i % 8]? ≠ some (r, false)) : stepM (m, ss) o = (m, ss) := by
  unfold stepM
  rw [h]
  dsimp only [St26.last, St26.put]
  cases hq : (ss.getD (ss.length - 1) [])[o.i % 8]? with
  | none => rfl
  | some x =>
    obtain ⟨r, b⟩ := x
    cases b with
    | true => rfl
    | false => exact absurd hq (hr r)
theorem stepM_4 {m : Mt} {ss : List Stm} {o : Op26} (h : 4 ≤ o.kind % 8) {M : Mt} {c : Int} (hx : (M, c) = takeM m o.rdg) : stepM (m, ss) o = if c = 0 then (M, ss.set (ss.length - 1) (ss.getD (ss.length - 1) [] ++ [(o.rdg, false)])) else (m, ss) := by
  unfold stepM
  obtain ⟨j, hj⟩ : ∃ j, o.kind % 8 = j + 4 := ⟨o.kind % 8 - 4, by omega⟩
  rw [hj]
  dsimp only [St26.last, St26.put]
  rw [← hx]
  rfl
theorem opp_under26 : Tryz.prog.underlying 70 = some (.struct (Tryz.prog.fieldsOf 70)) := by kernel_rfl
theorem opp_size26 : (Tryz.prog.info? 70).map (·.size) = some 6 := by kernel_rfl
theorem rdgIn26 {o : Op26} (h : o.ok) : RdgIn o.rdg := by
  obtain ⟨_, h0, h1, h2, _, _⟩ := h
  unfold RdgIn Op26.rdg
  dsimp only
  omega
theorem spl_st (us : List StrW) (rest : List Value) (k : Nat) (x : StrW) (hk : k < us.length) : spl (us.flatMap smc ++ rest).toArray (k * 2) (smc x) = ((us.set k x).flatMap smc ++ rest).toArray := by
  have h1 : us = us.take k ++ us[k] :: us.drop (k + 1) := by rw [List.getElem_cons_drop, List.take_append_drop]
  have h2 : us.set k x = us.take k ++ x :: us.drop (k + 1) := List.set_eq_take_append_cons_drop.trans (by rw [if_pos hk])
  have h3 : ((us.take k).flatMap smc).length = k * 2 := by rw [flat_length smc_len, List.length_take, Nat.min_eq_left (by omega)]
  have h4 : us.flatMap smc ++ rest = (us.take k).flatMap smc ++ (smc us[k] ++ ((us.drop (k + 1)).flatMap smc ++ rest)) := by
    conv => lhs; rw [h1]
    simp only [List.flatMap_append, List.flatMap_cons, List.append_assoc]
  have h5 : (us.set k x).flatMap smc ++ rest = (us.take k).flatMap smc ++ (smc x ++ ((us.drop (k + 1)).flatMap smc ++ rest)) := by
    rw [h2]
    simp only [List.flatMap_append, List.flatMap_cons, List.append_assoc]
  rw [h4, h5, ← h3]
  exact spl_mid (smc x) _ (smc us[k]) _ rfl
theorem own_formS {w : World} {N n : Nat} {v : Value} {us : List StrW} (h : w.ownsRow N 64 2 v n (us.flatMap smc)) (hn : us.length = n) (h0 : 0 < n) : ∃ g cap rest, v = .slice (some ⟨g, 0, none⟩) n cap ∧ n ≤ cap ∧ N ≤ g ∧ Blk w g 64 (us.flatMap smc ++ rest).toArray ∧ ∀ k x X, k < n → Blk X g 64 ((us.set k x).flatMap smc ++ rest).toArray → X.ownsRow N 64 2 v n ((us.set k x).flatMap smc) := by
  obtain ⟨h1, h2⟩ := h
  rcases h2 with ⟨_, h2⟩ | ⟨g, cap, cur, rfl, r1, r2, r3, r4, r5, r6⟩
  · omega
  · have hc : us.flatMap smc ++ cur.toList.drop (n * 2) = cur.toList := by rw [← r6, List.take_append_drop]
    refine ⟨g, cap, cur.toList.drop (n * 2), rfl, r3, r1, ?_, fun k x X hk hX => ⟨by rw [flat_length smc_len, List.length_set, hn], .inr ⟨g, cap, _, rfl, r1, hX, r3, r4, ?_, ?_⟩⟩⟩
    · rw [hc]
      exact r2
    · have hl := congrArg List.length hc
      rw [List.length_append, flat_length smc_len, Array.length_toList] at hl
      rw [← r5, List.size_toArray, List.length_append, flat_length smc_len, List.length_set]
      exact hl
    · rw [List.take_append_of_le_length (by rw [flat_length smc_len, List.length_set, hn]; exact Nat.le_refl _), List.take_of_length_le (by rw [flat_length smc_len, List.length_set, hn]; exact Nat.le_refl _)]
def TupS (_ : Nat) (v : Value) : Prop := ∃ (x : StrW) (_ : Unit), v = .tuple #[.agg (smc x).toArray, .int .i64 0]
theorem StrIB.fwd {X Y : World} {S : Nat → Prop} {u : StrW} {s : Stm} (h : StrIB ⟨X, S⟩ u s) (hb : Below X.heap.size X Y) : StrIB ⟨Y, S⟩ u s := h.le (Bse.le_ok (c := ⟨Y, S⟩) ((Bse.ok_self ⟨X, S⟩).below hb) fun _ hg => hg.1)
theorem StrIB.pt {X Y : World} {S : Nat → Prop} {u : StrW} {s : Stm} {g : Nat} (h : StrIB ⟨X, S⟩ u s) (hp : Put X Y g) (hg : ¬ S g) : StrIB ⟨Y, S⟩ u s := h.le (Bse.le_ok (c := ⟨Y, S⟩) ((Bse.ok_self ⟨X, S⟩).put hp fun h => hg h.1) fun _ hg => hg.1)
theorem str_to {w W2 : World} {S : Nat → Prop} {u : StrW} {s : Stm} (h : StrIB (Bse.new ⟨w, S⟩ w W2) u s) (hS : ∀ g, w.heap.size ≤ g → S g) : StrIB ⟨W2, S⟩ u s :=
  h.le (Bse.le_of (Nat.le_refl _) fun g hg => ⟨hg.1.elim (fun h => h.1) (fun h => hS g h), rfl⟩)
theorem rdgIn_ok {r : Rdg} (h : r.ok) : RdgIn r := by
  unfold Rdg.ok at h
  unfold RdgIn
  omega
theorem StrIB.now {X : World} {S : Nat → Prop} {u : StrW} {s : Stm} (h : StrIB ⟨X, S⟩ u s) : StrIn X u s := h.old (Bse.ok_self ⟨X, S⟩)
theorem gnc_get {s : Stm} {i : Nat} {r : Rdg} {b : Bool} (h : s[i]? = some (r, b)) : (gnc s)[i]? = some (.bool b) := by simp [gnc, h]
theorem rdsc_rng {s : Stm} {i : Nat} {r : Rdg} {b : Bool} (h : s[i]? = some (r, b)) (j : Nat) (v : Value) (hv : (rdc r)[j]? = some v) : (rdsc s)[i * 4 + j]? = some v :=
  flat_get (f := fun y : Rdg × Bool => rdc y.1) (fun _ => rfl) s i j _ v h hv
theorem join26e {A : Prop} {M : Option Addr → Nat → World → Prop} (Q : Option Addr → Nat → World → Prop) (h : (∀ a c X, Q a c X → M a c X) → A) (k : ∀ a c X, Q a c X → M a c X) : A := h k
theorem join26s {A : Prop} {M : Nat → StrW → World → Prop} (Q : Nat → StrW → World → Prop) (h : (∀ n x X, Q n x X → M n x X) → A) (k : ∀ n x X, Q n x X → M n x X) : A := h k
def RstI (S : Nat → Prop) (s : Stm) (lo hi : Nat) (v : Value) (w : World) : Prop := (∀ g, S g → g < hi) ∧ ∃ x : StrW, v = .tuple #[.agg (smc x).toArray, .int .i64 0] ∧ StrIB ⟨w, fun g => S g ∨ (lo ≤ g ∧ g < hi)⟩ x s
theorem fit_rsti {S : Nat → Prop} {s : Stm} : Fit (RstI S s) TupS := ⟨fun n m v w w' ⟨h1, x, h2, h3⟩ hb => ⟨h1, x, h2, h3.le (Bse.le_ok (c := ⟨w', fun g => S g ∨ (n ≤ g ∧ g < m)⟩) ⟨hb.size, fun g hg => hb.block g (hg.1.elim (fun h => h1 g h) fun h => h.2)⟩ fun _ hg => hg.1)⟩, fun _ => ⟨_, ⟨.slice none 0 0, .slice none 0 0⟩, (), rfl⟩, fun n m v w h => by
  obtain ⟨_, x, rfl, _⟩ := h
  exact ⟨x, (), rfl⟩⟩
theorem sresI {b : Bse} {s : Stm} {w : World} (hb : b.W.heap.size ≤ w.heap.size) : ∀ r W2, (∃ x' : StrW, r = .returned (.tuple #[.agg (smc x').toArray, .int .i64 0]) ∧ StrIB (b.new w W2) x' s ∧ Below w.heap.size w W2) → RetR (RstI (InB b) s) w r W2 := fun r W2 ⟨x, h1, h2, h3⟩ =>
  ⟨_, h1, ⟨fun g hg => by have := hg.2; have := h3.size; omega, x, rfl, h2.le (Bse.le_ok (c := ⟨W2, fun g => InB b g ∨ (w.heap.size ≤ g ∧ g < W2.heap.size)⟩) (Bse.ok_self _) fun g hg => hg.1.imp id fun h => ⟨h, hg.2⟩)⟩, h3⟩
theorem rsti_of {S : Nat → Prop} {s : Stm} {lo hi : Nat} {x : StrW} {w : World} (h : RstI S s lo hi (.tuple #[.agg (smc x).toArray, .int .i64 0]) w) : StrIB ⟨w, fun g => S g ∨ (lo ≤ g ∧ g < hi)⟩ x s := by
  obtain ⟨_, x2, h2, h3⟩ := h
  have hv : x2 = x := by
    simp only [Value.tuple.injEq, Value.agg.injEq, smc, Array.mk.injEq, List.cons.injEq, and_true, List.toArray_inj] at h2
    obtain ⟨a, b⟩ := x
    obtain ⟨c, d⟩ := x2
    simp only [StrW.mk.injEq]
    exact ⟨h2.1.symm, h2.2.symm⟩
  subst hv
  exact h3
theorem StrIB.sub {X : World} {S T : Nat → Prop} {u : StrW} {s : Stm} (h : StrIB ⟨X, S⟩ u s) (hS : ∀ g, S g → g < X.heap.size → T g) : StrIB ⟨X, T⟩ u s := h.le (Bse.le_ok (c := ⟨X, T⟩) (Bse.ok_self ⟨X, S⟩) fun g hg => hS g hg.1 hg.2)
theorem st_rng {W : World} {g j : Nat} {t : TypeId} {us : List StrW} {rest : List Value} {u : StrW} (b : Blk W g t (us.flatMap smc ++ rest).toArray) (hu : us[j]? = some u) : W.rangeAt g (j * 2) (smc u) := fun i v hi => by
  have h1 := flat_get smc_len us j i _ v hu hi
  rw [b.cell]
  simp only [List.getElem?_toArray]
  rw [List.getElem?_append_left (List.getElem?_eq_some_iff.1 h1).1]
  exact h1
theorem take_c {m : Mt} {r : Rdg} {M : Mt} (hx : (M, (0 : Int)) = takeM m r) : 0 < m.eps.length := by
  unfold takeM at hx
  split at hx
  · cases hx
  · split at hx
    · cases hx
    · rename_i h
      exact (isOpen_at (by simpa using h)).1
end Go.Proofs.YtoiampgfnidfdaaGreatDoor
