/-
  The meter in mathematics: what any operations keep.
  A meter in memory.
  The program's digests of leaves and pairs.
-/
import Derived.Test.YtoiampgfnidfdaaGreatDoorMt26
import Derived.Test.YtoiampgfnidfdaaGreatDoorShc
import Derived.Test.YtoiampgfnidfdaaGreatDoorZv
namespace Go.Proofs.YtoiampgfnidfdaaGreatDoor

abbrev Stm := List (Rdg × Bool)
def amt (c : Nat) (x : Rdg × Bool) : Int := [x.1.who, x.1.when, x.1.kind, x.1.value, if x.2 then 0 else 1].getD c 0
def colM (c log : Nat) (l : Stm) : List E := (List.range (2 ^ log)).map fun i => match l[i]? with | some x => eb (fz (amt c x)) | none => 0
theorem colM_length (c log : Nat) (l : Stm) : (colM c log l).length = 2 ^ log := by simp [colM]
theorem colM_get (c log : Nat) (l : Stm) (i : Nat) (h : i < 2 ^ log) : (colM c log l)[i]? = some (match l[i]? with | some x => eb (fz (amt c x)) | none => 0) := by
  simp [colM, h]
theorem eb_fz0 : eb (fz 0) = 0 := rfl
theorem eb_fz_neg : eb (fz 1) + eb (fz (-1)) = 0 := rfl
theorem col_take (c log : Nat) (l : Stm) (x : Rdg × Bool) (h : l.length < 2 ^ log) : colM c log (l ++ [x]) = (colM c log l).set l.length ((colM c log l).getD l.length 0 + eb (fz (amt c x))) := by
  have h0 : (colM c log l).getD l.length 0 = 0 := by
    rw [List.getD_eq_getElem?_getD, colM_get _ _ _ _ h, List.getElem?_eq_none (Nat.le_refl _)]; rfl
  rw [h0, E.zero_add]
  refine List.ext_getElem? fun i => ?_
  rw [List.getElem?_set, colM_length]
  by_cases hi : i < 2 ^ log
  · rw [colM_get _ _ _ _ hi, colM_get _ _ _ _ hi]
    by_cases h1 : l.length = i
    · subst h1
      simp [h]
    · rw [if_neg h1, List.getElem?_append]
      by_cases h2 : i < l.length
      · rw [if_pos h2]
      · rw [if_neg h2, List.getElem?_eq_none (l := l) (by omega), List.getElem?_eq_none (l := [x]) (by simp; omega)]
  · rw [List.getElem?_eq_none (by rw [colM_length]; omega), List.getElem?_eq_none (l := colM c log l) (by rw [colM_length]; omega)]
    split
    · omega
    · rfl
theorem col_gone (c log : Nat) (l : Stm) (i : Nat) (r : Rdg) (hi : l[i]? = some (r, false)) (h : l.length ≤ 2 ^ log) : colM c log (l.set i (r, true)) = (colM c log l).set i ((colM c log l).getD i 0 + eb (fz ([0, 0, 0, 0, (-1 : Int)].getD c 0))) := by
  have hl : i < l.length := (List.getElem?_eq_some_iff.1 hi).1
  have h0 : (colM c log l).getD i 0 = eb (fz (amt c (r, false))) := by
    rw [List.getD_eq_getElem?_getD, colM_get _ _ _ _ (by omega), hi]; rfl
  have h1 : eb (fz (amt c (r, false))) + eb (fz ([0, 0, 0, 0, (-1 : Int)].getD c 0)) = eb (fz (amt c (r, true))) := by
    unfold amt
    match c with
    | 0 => exact E.add_zero _
    | 1 => exact E.add_zero _
    | 2 => exact E.add_zero _
    | 3 => exact E.add_zero _
    | 4 =>
      show eb (fz 1) + eb (fz (-1)) = eb (fz 0)
      rw [eb_fz_neg]; rfl
    | _ + 5 => exact E.add_zero _
  rw [h0, h1]
  refine List.ext_getElem? fun j => ?_
  rw [List.getElem?_set, colM_length]
  by_cases hj : j < 2 ^ log
  · rw [colM_get _ _ _ _ hj, colM_get _ _ _ _ hj]
    by_cases h2 : i = j
    · subst h2
      simp [hl, hj]
    · rw [if_neg h2, List.getElem?_set_ne h2]
  · rw [List.getElem?_eq_none (by rw [colM_length]; omega), List.getElem?_eq_none (l := colM c log l) (by rw [colM_length]; omega)]
    split
    · omega
    · rfl
def valsM (log : Nat) (l : Stm) (R : List E) : List E := (List.range 5).map fun c => mev (colM c log l) R
theorem vals_take (log : Nat) (l : Stm) (r : Rdg) (R : List E) (hR : R.length = log) (h : l.length < 2 ^ log) (k : Pt) (hk : k.R = R) (hv : k.V = valsM log l R) : (addP l.length r.amts k).V = valsM log (l ++ [(r, false)]) R := by
  have hm : ∀ c, mev (colM c log (l ++ [(r, false)])) R = mev (colM c log l) R + eb (fz (amt c (r, false))) * eqi l.length R := fun c => by
    rw [col_take _ _ _ _ h]
    exact mev_add _ _ _ _ (by rw [colM_length, hR]) (by rw [hR]; exact h)
  unfold addP
  simp only [hv, hk]
  unfold valsM
  simp only [show List.range 5 = [0, 1, 2, 3, 4] from rfl, List.map_cons, List.map_nil, hm]
  rfl
theorem vals_gone (log : Nat) (l : Stm) (i : Nat) (r : Rdg) (R : List E) (hR : R.length = log) (h : l.length ≤ 2 ^ log) (hi : l[i]? = some (r, false)) (k : Pt) (hk : k.R = R) (hv : k.V = valsM log l R) : (addP i [0, 0, 0, 0, -1] k).V = valsM log (l.set i (r, true)) R := by
  have hl : i < l.length := (List.getElem?_eq_some_iff.1 hi).1
  have hm : ∀ c, mev (colM c log (l.set i (r, true))) R = mev (colM c log l) R + eb (fz ([0, 0, 0, 0, (-1 : Int)].getD c 0)) * eqi i R := fun c => by
    rw [col_gone _ _ _ _ _ hi h]
    exact mev_add _ _ _ _ (by rw [colM_length, hR]) (by rw [hR]; omega)
  unfold addP
  simp only [hv, hk]
  unfold valsM
  simp only [show List.range 5 = [0, 1, 2, 3, 4] from rfl, List.map_cons, List.map_nil, hm]
  rfl
structure Op26 where
  kind : Nat
  b0 : Nat
  b1 : Nat
  b2 : Nat
  i : Nat
  n : Nat
def Op26.ok (o : Op26) : Prop := o.kind < 256 ∧ o.b0 < 256 ∧ o.b1 < 256 ∧ o.b2 < 256 ∧ o.i < 256 ∧ o.n < 256
def Op26.rdg (o : Op26) : Rdg := ⟨o.b0 % 16, o.b1, o.b0 / 16, o.b2⟩
theorem Op26.rdg_ok {o : Op26} (h : o.ok) : o.rdg.ok := by
  obtain ⟨_, h0, h1, h2, _, _⟩ := h
  unfold Rdg.ok Op26.rdg
  dsimp only
  omega
abbrev St26 := Mt × List Stm
def St26.last (s : St26) : Stm := s.2.getD (s.2.length - 1) []
def St26.put (s : St26) (m : Mt) (l : Stm) : St26 := (m, s.2.set (s.2.length - 1) l)
def stepM (s : St26) (o : Op26) : St26 :=
  match o.kind % 8 with
  | 0 => if (openM s.1 (o.i % 4 : Nat) (1 + o.n % 4 : Nat)).2 = 0 then ((openM s.1 (o.i % 4 : Nat) (1 + o.n % 4 : Nat)).1, s.2 ++ [[]]) else s
  | 1 => if (closeM s.1).2 = 0 then ((closeM s.1).1, s.2) else s
  | 2 => if (spendM s.1 (o.n % 4 : Nat)).2.2 = 0 then ((spendM s.1 (o.n % 4 : Nat)).1, s.2) else s
  | 3 => match s.last[o.i % 8]? with
    | some (r, false) => if (retractM s.1 (o.i % 8 : Nat) r).2 = 0 then s.put (retractM s.1 (o.i % 8 : Nat) r).1 (s.last.set (o.i % 8) (r, true)) else s
    | _ => s
  | _ => if (takeM s.1 o.rdg).2 = 0 then s.put (takeM s.1 o.rdg).1 (s.last ++ [(o.rdg, false)]) else s
def playM (seed : Dg) (l : List Op26) : St26 := (l.take 25).foldl stepM (⟨0, seed, []⟩, [])
structure EpOk (seed : Dg) (n : Nat) (e : Ep) (l : Stm) : Prop where
  log : e.log ≤ 3
  cnt : e.count = l.length
  le : l.length ≤ 2 ^ e.log
  p1 : 1 ≤ e.pts.length
  p4 : e.pts.length ≤ 4
  pt : ∀ k p, e.pts[k]? = some p → p.R = coordM seed n k e.log ∧ p.V = valsM e.log l p.R ∧ (p.used = true → e.closed = true)
  pk : e.peaks = peaksN pairD [] 0 (l.map fun x => leafD x.1.enc)
  rd : ∀ x ∈ l, x.1.ok
structure StOk26 (k : Nat) (s : St26) : Prop where
  seed : s.1.seed.length = 32 ∧ ∀ x ∈ s.1.seed, x < 256
  ver : s.1.ver ≤ k
  len : s.2.length = s.1.eps.length
  eps : s.1.eps.length ≤ k
  ep : ∀ i e l, s.1.eps[i]? = some e → s.2[i]? = some l → EpOk s.1.seed i e l
  cl : ∀ i e, s.1.eps[i]? = some e → i + 1 < s.1.eps.length → e.closed = true
theorem at_get (m : Mt) (i : Nat) (h : i < m.eps.length) : m.eps[i]? = some (m.at i) := by
  unfold Mt.at
  rw [List.getD_eq_getElem?_getD, List.getElem?_eq_getElem h]
  rfl
theorem isOpen_at {m : Mt} (h : m.isOpen = true) : 0 < m.eps.length ∧ (m.at m.last).closed = false := by
  unfold Mt.isOpen at h
  rw [List.getLast?_eq_getElem?] at h
  rcases Nat.eq_zero_or_pos m.eps.length with h0 | h0
  · rw [List.getElem?_eq_none (by omega)] at h
    cases h
  · refine ⟨h0, ?_⟩
    rw [at_get m (m.eps.length - 1) (by omega)] at h
    unfold Mt.last
    simpa using h
theorem StOk26.mono {k k' : Nat} {s : St26} (h : StOk26 k s) (hk : k ≤ k') : StOk26 k' s := ⟨h.seed, Nat.le_trans h.ver hk, h.len, Nat.le_trans h.eps hk, h.ep, h.cl⟩
theorem put_ok26 {k : Nat} {s : St26} (h : StOk26 k s) (i : Nat) (e' : Ep) (l' : Stm) (hi : i < s.1.eps.length) (he : EpOk s.1.seed i e' l') (hc : i + 1 < s.1.eps.length → e'.closed = true) : StOk26 (k + 1) (s.1.put i e', s.2.set i l') := by
  refine ⟨h.seed, Nat.succ_le_succ h.ver, ?_, ?_, ?_, ?_⟩
  · simp only [Mt.put, List.length_set]
    exact h.len
  · simp only [Mt.put, List.length_set]
    exact Nat.le_succ_of_le h.eps
  · intro j e l hj hl
    simp only [Mt.put] at hj hl ⊢
    by_cases hji : i = j
    · subst hji
      rw [List.getElem?_set_self hi] at hj
      rw [List.getElem?_set_self (by rw [h.len]; exact hi)] at hl
      cases hj
      cases hl
      exact he
    · rw [List.getElem?_set_ne hji] at hj hl
      exact h.ep j e l hj hl
  · intro j e hj hl
    simp only [Mt.put, List.length_set] at hj hl
    by_cases hji : i = j
    · subst hji
      rw [List.getElem?_set_self hi] at hj
      cases hj
      exact hc hl
    · rw [List.getElem?_set_ne hji] at hj
      exact h.cl j e hj hl
theorem set_self26 {α : Type} (l : List α) (i : Nat) (x : α) (h : l[i]? = some x) : l.set i x = l := by
  refine List.ext_getElem? fun j => ?_
  by_cases hj : i = j
  · subst hj
    rw [List.getElem?_set_self (List.getElem?_eq_some_iff.1 h).1, h]
  · rw [List.getElem?_set_ne hj]
theorem StOk26.at {k : Nat} {s : St26} (h : StOk26 k s) (i : Nat) (hi : i < s.1.eps.length) : ∃ l, s.2[i]? = some l ∧ EpOk s.1.seed i (s.1.at i) l := by
  have hl : i < s.2.length := by rw [h.len]; exact hi
  exact ⟨s.2[i], List.getElem?_eq_getElem hl, h.ep i _ _ (at_get _ _ hi) (List.getElem?_eq_getElem hl)⟩
theorem newPts_get (seed : Dg) (n log pts k : Nat) (p : Pt) (h : (newPts seed n log pts)[k]? = some p) : k < pts ∧ p = ⟨coordM seed n k log, List.replicate 5 0, false⟩ := by
  unfold newPts at h
  rw [List.getElem?_map] at h
  by_cases hk : k < pts
  · rw [List.getElem?_range hk] at h
    cases h
    exact ⟨hk, rfl⟩
  · rw [List.getElem?_eq_none (by simp; omega)] at h
    cases h
theorem vals_nil (log : Nat) (R : List E) (hR : R.length = log) : valsM log [] R = List.replicate 5 0 := by
  have h : ∀ c, mev (colM c log []) R = 0 := fun c => by
    have : colM c log [] = List.replicate (2 ^ log) 0 := by
      unfold colM
      refine List.ext_getElem? fun j => ?_
      by_cases hj : j < 2 ^ log
      · simp [hj]
      · rw [List.getElem?_eq_none (by simp; omega), List.getElem?_eq_none (by simp; omega)]
    rw [this]
    exact mev_zero _ _ (by rw [hR])
  unfold valsM
  simp only [h]
  rfl
theorem stepOpen {k : Nat} {s : St26} (h : StOk26 k s) (log pts : Int) (hl : 0 ≤ log ∧ log ≤ 3) (hp : 1 ≤ pts ∧ pts ≤ 4) (he : (openM s.1 log pts).2 = 0) : StOk26 (k + 1) ((openM s.1 log pts).1, s.2 ++ [[]]) := by
  unfold openM at he ⊢
  split at he
  · cases he
  · split at he
    · cases he
    · split at he
      · cases he
      · rename_i h1 h2 h3
        rw [if_neg h1, if_neg h2, if_neg h3]
        dsimp only
        refine ⟨h.seed, Nat.succ_le_succ h.ver, by simp [h.len], by simp; exact h.eps, ?_, ?_⟩
        · intro i e l hi hl'
          dsimp only at hi hl' ⊢
          by_cases hlt : i < s.1.eps.length
          · rw [List.getElem?_append_left hlt] at hi
            rw [List.getElem?_append_left (by rw [h.len]; exact hlt)] at hl'
            exact h.ep i e l hi hl'
          · have hi2 := (List.getElem?_eq_some_iff.1 hi).1
            simp only [List.length_append, List.length_singleton] at hi2
            obtain rfl : i = s.1.eps.length := by omega
            rw [List.getElem?_append_right (Nat.le_refl _), Nat.sub_self] at hi
            rw [List.getElem?_append_right (by rw [h.len]; exact Nat.le_refl _), h.len, Nat.sub_self] at hl'
            cases hi
            cases hl'
            refine ⟨by dsimp only; omega, rfl, Nat.zero_le _, by simp [newPts]; omega, by simp [newPts]; omega, ?_, rfl, fun x hx => (by cases hx)⟩
            intro j p hj
            obtain ⟨_, rfl⟩ := newPts_get _ _ _ _ _ _ hj
            exact ⟨rfl, (vals_nil _ _ (coordM_length _ _ _ _)).symm, fun hu => (by cases hu)⟩
        · intro i e hi hlt
          simp only [List.length_append, List.length_singleton] at hlt
          dsimp only at hi
          rw [List.getElem?_append_left (by omega)] at hi
          by_cases h4 : i + 1 < s.1.eps.length
          · exact h.cl i e hi h4
          · have h5 : i = s.1.eps.length - 1 := by omega
            have h6 : s.1.isOpen = false := by simpa using h2
            unfold Mt.isOpen at h6
            rw [List.getLast?_eq_getElem?, ← h5, hi] at h6
            simpa using h6
theorem stepClose {k : Nat} {s : St26} (h : StOk26 k s) (he : (closeM s.1).2 = 0) : StOk26 (k + 1) ((closeM s.1).1, s.2) := by
  unfold closeM at he ⊢
  split at he
  · rename_i h1
    rw [if_pos h1]
    obtain ⟨h0, -⟩ := isOpen_at h1
    have hi : s.1.last < s.1.eps.length := by unfold Mt.last; omega
    obtain ⟨l, hl, hE⟩ := h.at _ hi
    have := put_ok26 h s.1.last { s.1.at s.1.last with closed := true } l hi ⟨hE.log, hE.cnt, hE.le, hE.p1, hE.p4, fun j p hj => ⟨(hE.pt j p hj).1, (hE.pt j p hj).2.1, fun _ => rfl⟩, hE.pk, hE.rd⟩ (fun _ => rfl)
    rwa [set_self26 _ _ _ hl] at this
  · cases he
theorem useP_get (l : List Nat) (pts : List Pt) (j : Nat) (p : Pt) (h : (useP l pts)[j]? = some p) : ∃ q, pts[j]? = some q ∧ p.R = q.R ∧ p.V = q.V := by
  unfold useP at h
  rw [List.getElem?_mapIdx] at h
  cases hq : pts[j]? with
  | none => rw [hq] at h; cases h
  | some q =>
    rw [hq] at h
    simp only [Option.map_some, Option.some.injEq] at h
    refine ⟨q, rfl, ?_⟩
    rw [← h]
    split <;> exact ⟨rfl, rfl⟩
theorem stepSpend {k : Nat} {s : St26} (h : StOk26 k s) (n : Int) (he : (spendM s.1 n).2.2 = 0) : StOk26 (k + 1) ((spendM s.1 n).1, s.2) := by
  unfold spendM at he ⊢
  split at he
  · cases he
  · split at he
    · cases he
    · split at he
      · cases he
      · rename_i h1 h2 h3
        rw [if_neg h1, if_neg h2, if_neg h3]
        have hi : n.toNat < s.1.eps.length := by omega
        obtain ⟨l, hl, hE⟩ := h.at _ hi
        have hcl : (s.1.at n.toNat).closed = true := by simpa using h2
        have := put_ok26 h n.toNat { s.1.at n.toNat with pts := useP ((freeM (s.1.at n.toNat).pts).take 2) (s.1.at n.toNat).pts } l hi ⟨hE.log, hE.cnt, hE.le, by simp [useP]; exact hE.p1, by simp [useP]; exact hE.p4, fun j p hj => by
          obtain ⟨q, hq, e1, e2⟩ := useP_get _ _ _ _ hj
          obtain ⟨r1, r2, _⟩ := hE.pt j q hq
          exact ⟨e1.trans r1, by rw [e1, e2]; exact r2, fun _ => hcl⟩, hE.pk, hE.rd⟩ (fun _ => hcl)
        rwa [set_self26 _ _ _ hl] at this
theorem last_get {k : Nat} {s : St26} (h : StOk26 k s) {l : Stm} (hl : s.2[s.1.last]? = some l) : s.last = l := by
  unfold St26.last
  rw [List.getD_eq_getElem?_getD, h.len]
  unfold Mt.last at hl
  rw [hl]
  rfl
theorem stepTake {k : Nat} {s : St26} (h : StOk26 k s) (r : Rdg) (he : (takeM s.1 r).2 = 0) : StOk26 (k + 1) (s.put (takeM s.1 r).1 (s.last ++ [(r, false)])) := by
  unfold takeM at he ⊢
  split at he
  · cases he
  · split at he
    · cases he
    · split at he
      · cases he
      · rename_i h1 h2 h3
        rw [if_neg h1, if_neg h2, if_neg h3]
        have h1 : r.ok := Decidable.not_not.1 h1
        obtain ⟨h0, ho⟩ := isOpen_at (m := s.1) (by simpa using h2)
        have hi : s.1.last < s.1.eps.length := by unfold Mt.last; omega
        obtain ⟨l, hl, hE⟩ := h.at _ hi
        rw [last_get h hl]
        unfold St26.put
        rw [h.len]
        have hlt : l.length < 2 ^ (s.1.at s.1.last).log := by
          have := hE.le
          have := hE.cnt
          omega
        refine put_ok26 h s.1.last _ (l ++ [(r, false)]) hi ⟨hE.log, by simp [hE.cnt], by simp; omega, by simp; exact hE.p1, by simp; exact hE.p4, ?_, ?_, ?_⟩ (fun hc => ?_)
        · intro j p hj
          dsimp only at hj
          rw [List.getElem?_map] at hj
          cases hq : (s.1.at s.1.last).pts[j]? with
          | none => rw [hq] at hj; cases hj
          | some q =>
            rw [hq] at hj
            simp only [Option.map_some, Option.some.injEq] at hj
            subst hj
            obtain ⟨r1, r2, r3⟩ := hE.pt j q hq
            refine ⟨r1, ?_, r3⟩
            rw [hE.cnt]
            exact vals_take _ _ _ _ (by rw [show (addP l.length r.amts q).R = q.R from rfl, r1, coordM_length]) hlt q rfl r2
        · dsimp only
          rw [List.map_append, peaksN_append, ← hE.pk, List.length_map, hE.cnt]
          simp only [List.map_cons, List.map_nil, peaksN, Nat.zero_add]
        · intro x hx
          rcases List.mem_append.1 hx with hx | hx
          · exact hE.rd x hx
          · rw [List.mem_singleton.1 hx]
            exact h1
        · unfold Mt.last at hc
          omega
theorem stepRetract {k : Nat} {s : St26} (h : StOk26 k s) (i : Nat) (r : Rdg) (hr : s.last[i]? = some (r, false)) (he : (retractM s.1 (i : Int) r).2 = 0) : StOk26 (k + 1) (s.put (retractM s.1 (i : Int) r).1 (s.last.set i (r, true))) := by
  unfold retractM at he ⊢
  split at he
  · cases he
  · split at he
    · cases he
    · split at he
      · cases he
      · rename_i h1 h2 h3
        rw [if_neg h1, if_neg h2, if_neg h3]
        obtain ⟨h0, ho⟩ := isOpen_at (m := s.1) (by simpa using h2)
        have hi : s.1.last < s.1.eps.length := by unfold Mt.last; omega
        obtain ⟨l, hl, hE⟩ := h.at _ hi
        rw [last_get h hl] at hr ⊢
        unfold St26.put
        rw [h.len]
        refine put_ok26 h s.1.last _ (l.set i (r, true)) hi ⟨hE.log, by simp [hE.cnt], by simp; exact hE.le, by simp; exact hE.p1, by simp; exact hE.p4, ?_, ?_, ?_⟩ (fun hc => ?_)
        · intro j p hj
          dsimp only at hj
          rw [List.getElem?_map] at hj
          cases hq : (s.1.at s.1.last).pts[j]? with
          | none => rw [hq] at hj; cases hj
          | some q =>
            rw [hq] at hj
            simp only [Option.map_some, Option.some.injEq, Int.toNat_natCast] at hj
            subst hj
            obtain ⟨r1, r2, r3⟩ := hE.pt j q hq
            exact ⟨r1, vals_gone _ _ _ _ _ (by rw [show (addP i [0, 0, 0, 0, -1] q).R = q.R from rfl, r1, coordM_length]) hE.le hr q rfl r2, r3⟩
        · dsimp only
          rw [hE.pk, List.map_set]
          congr 1
          refine (set_self26 _ _ _ ?_).symm
          rw [List.getElem?_map, hr]
          rfl
        · intro x hx
          rcases List.mem_or_eq_of_mem_set hx with hx | hx
          · exact hE.rd x hx
          · rw [hx]
            exact hE.rd (r, false) (List.mem_of_getElem? hr)
        · unfold Mt.last at hc
          omega
theorem step_ok26 {k : Nat} {s : St26} (h : StOk26 k s) (o : Op26) : StOk26 (k + 1) (stepM s o) := by
  have hk := h.mono (Nat.le_succ k)
  unfold stepM
  split
  · split
    · exact stepOpen h _ _ (by omega) (by omega) (by assumption)
    · exact hk
  · split
    · exact stepClose h (by assumption)
    · exact hk
  · split
    · exact stepSpend h _ (by assumption)
    · exact hk
  · split
    · split
      · exact stepRetract h _ _ (by assumption) (by assumption)
      · exact hk
    · exact hk
  · split
    · exact stepTake h _ (by assumption)
    · exact hk
theorem fold_ok26 : ∀ (l : List Op26) (k : Nat) (s : St26), StOk26 k s → StOk26 (k + l.length) (l.foldl stepM s)
  | [], _, _, h => h
  | o :: l, k, s, h => by
    rw [List.foldl_cons, List.length_cons, show k + (l.length + 1) = k + 1 + l.length by omega]
    exact fold_ok26 l _ _ (step_ok26 h o)
theorem play_ok26 (seed : Dg) (hs : seed.length = 32 ∧ ∀ x ∈ seed, x < 256) (l : List Op26) : StOk26 25 (playM seed l) :=
  (fold_ok26 (l.take 25) 0 _ ⟨hs, Nat.le_refl _, rfl, Nat.le_refl _, fun i e l h => (by cases h), fun i e h => (by cases h)⟩).mono (by simp; omega)
end Go.Proofs.YtoiampgfnidfdaaGreatDoor
namespace Go.Proofs.YtoiampgfnidfdaaGreatDoor
open Go.RowKit

def Al {α β : Type} (R : α → β → Prop) (us : List α) (ps : List β) : Prop := us.length = ps.length ∧ ∀ (k : Nat) u p, us[k]? = some u → ps[k]? = some p → R u p
section
variable {α β : Type} {R S : α → β → Prop} {us : List α} {ps : List β}
theorem Al.nil : Al R [] [] := ⟨rfl, fun k u p h => (by cases h)⟩
theorem Al.mono (h : Al R us ps) (hs : ∀ u p, R u p → S u p) : Al S us ps := ⟨h.1, fun k u p h1 h2 => hs _ _ (h.2 k u p h1 h2)⟩
theorem Al.snoc (h : Al R us ps) {u : α} {p : β} (hu : R u p) : Al R (us ++ [u]) (ps ++ [p]) := by
  refine ⟨by simp [h.1], fun k x y hx hy => ?_⟩
  by_cases hk : k < us.length
  · rw [List.getElem?_append_left hk] at hx
    rw [List.getElem?_append_left (by rw [← h.1]; exact hk)] at hy
    exact h.2 k x y hx hy
  · have hk2 := (List.getElem?_eq_some_iff.1 hx).1
    simp only [List.length_append, List.length_singleton] at hk2
    obtain rfl : k = us.length := by omega
    rw [List.getElem?_append_right (Nat.le_refl _), Nat.sub_self] at hx
    rw [List.getElem?_append_right (by rw [h.1]; exact Nat.le_refl _), h.1, Nat.sub_self] at hy
    cases hx
    cases hy
    exact hu
theorem Al.set (h : Al R us ps) {i : Nat} {u : α} {p : β} (hu : R u p) : Al R (us.set i u) (ps.set i p) := by
  refine ⟨by simp [h.1], fun k x y hx hy => ?_⟩
  by_cases hk : i = k
  · subst hk
    have h1 := (List.getElem?_eq_some_iff.1 hx).1
    have h2 := (List.getElem?_eq_some_iff.1 hy).1
    rw [List.length_set] at h1 h2
    rw [List.getElem?_set_self h1] at hx
    rw [List.getElem?_set_self h2] at hy
    cases hx
    cases hy
    exact hu
  · rw [List.getElem?_set_ne hk] at hx hy
    exact h.2 k x y hx hy
theorem Al.get (h : Al R us ps) {k : Nat} (hk : k < ps.length) : ∃ u p, us[k]? = some u ∧ ps[k]? = some p ∧ R u p := by
  have h1 : k < us.length := by rw [h.1]; exact hk
  exact ⟨us[k], ps[k], List.getElem?_eq_getElem h1, List.getElem?_eq_getElem hk, h.2 k _ _ (List.getElem?_eq_getElem h1) (List.getElem?_eq_getElem hk)⟩
theorem Al.take (h : Al R us ps) (n : Nat) : Al R (us.take n) (ps.take n) := by
  refine ⟨by simp [h.1], fun k x y hx hy => ?_⟩
  rw [List.getElem?_take] at hx hy
  split at hx
  · rename_i hk
    rw [if_pos hk] at hy
    exact h.2 k x y hx hy
  · cases hx
end
def RdA (size : Nat) (W : World) (v : Value) (n : Nat) (cs : List Value) : Prop := Rd 0 W.heap.size size W v n cs
theorem RdA.keep {size n : Nat} {W W' : World} {v : Value} {cs : List Value} (h : RdA size W v n cs) (hb : Below W.heap.size W W') : RdA size W' v n cs := (Rd.keep h hb).wide (Nat.le_refl _) hb.size
theorem RdA.of {size n lo hi : Nat} {W : World} {v : Value} {cs : List Value} (h : Rd lo hi size W v n cs) : RdA size W v n cs := by
  obtain ⟨q1, q2, A, cap, q3, q4, q5⟩ := h
  refine ⟨q1, q2, A, cap, q3, q4, fun h0 => ?_⟩
  obtain ⟨g, off, r1, r2, r3, r4, r5⟩ := q5 h0
  exact ⟨g, off, r1, Nat.zero_le _, r4, r4, r5⟩
def ExA (W : World) (v : Value) (xs : List E) : Prop := RdA 2 W v xs.length (xs.flatMap ec)
theorem ExA.keep {W W' : World} {v : Value} {xs : List E} (h : ExA W v xs) (hb : Below W.heap.size W W') : ExA W' v xs := RdA.keep h hb
structure PtW where
  r : Value
  v : Value
  u : Bool
def ptc (x : PtW) : List Value := [x.r, x.v, .bool x.u]
theorem ptc_len (x : PtW) : (ptc x).length = 3 := rfl
def PtIn (W : World) (x : PtW) (p : Pt) : Prop := ExA W x.r p.R ∧ ExA W x.v p.V ∧ x.u = p.used
theorem PtIn.keep {W W' : World} {x : PtW} {p : Pt} (h : PtIn W x p) (hb : Below W.heap.size W W') : PtIn W' x p := ⟨h.1.keep hb, h.2.1.keep hb, h.2.2⟩
def PtsA (W : World) (v : Value) (ps : List Pt) : Prop := ∃ us : List PtW, RdA 3 W v us.length (us.flatMap ptc) ∧ Al (PtIn W) us ps
theorem PtsA.keep {W W' : World} {v : Value} {ps : List Pt} (h : PtsA W v ps) (hb : Below W.heap.size W W') : PtsA W' v ps := by
  obtain ⟨us, h1, h2⟩ := h
  exact ⟨us, h1.keep hb, h2.mono fun _ _ h => h.keep hb⟩
theorem byc_len' (l : List Nat) : (byc l).length = l.length := by simp [byc]
def DgOk (d : Dg) : Prop := d.length = 32 ∧ ∀ x ∈ d, x < 256
def DgsA (W : World) (v : Value) (ds : List Dg) : Prop := RdA 32 W v ds.length (ds.flatMap byc) ∧ ∀ d ∈ ds, DgOk d
theorem DgsA.keep {W W' : World} {v : Value} {ds : List Dg} (h : DgsA W v ds) (hb : Below W.heap.size W W') : DgsA W' v ds := ⟨h.1.keep hb, h.2⟩
structure EpW where
  log : Nat
  count : Nat
  closed : Bool
  p : Value
  k : Value
def epc (x : EpW) : List Value := [.int .i64 (x.log : Int), .int .i64 (x.count : Int), .bool x.closed, x.p, x.k]
theorem epc_len (x : EpW) : (epc x).length = 5 := rfl
def EpIn (W : World) (x : EpW) (e : Ep) : Prop := (x.log = e.log ∧ x.count = e.count ∧ x.closed = e.closed) ∧ PtsA W x.p e.pts ∧ DgsA W x.k e.peaks
theorem EpIn.keep {W W' : World} {x : EpW} {e : Ep} (h : EpIn W x e) (hb : Below W.heap.size W W') : EpIn W' x e := ⟨h.1, h.2.1.keep hb, h.2.2.keep hb⟩
def EpsA (W : World) (v : Value) (es : List Ep) : Prop := ∃ us : List EpW, RdA 5 W v us.length (us.flatMap epc) ∧ Al (EpIn W) us es
theorem EpsA.keep {W W' : World} {v : Value} {es : List Ep} (h : EpsA W v es) (hb : Below W.heap.size W W') : EpsA W' v es := by
  obtain ⟨us, h1, h2⟩ := h
  exact ⟨us, h1.keep hb, h2.mono fun _ _ h => h.keep hb⟩
theorem RdA.form {size n : Nat} {W : World} {v : Value} {cs : List Value} (h : RdA size W v n cs) (h0 : 0 < n) : ∃ g off cap, v = .slice (some ⟨g, off, none⟩) n cap ∧ n ≤ cap ∧ g < W.heap.size ∧ ∀ j u, cs[j]? = some u → W.cell? ⟨g, off + j, none⟩ = some u := by
  obtain ⟨g, off, cap, h1, h2, _, _, h3, h4⟩ := Rd.form h h0
  exact ⟨g, off, cap, h1, h2, h3, h4⟩
theorem RdA.at {α : Type} {f : α → List Value} {size : Nat} {W : World} {v : Value} {us : List α} (hf : ∀ x, (f x).length = size) (h : RdA size W v us.length (us.flatMap f)) {k : Nat} {u : α} (hk : us[k]? = some u) :
    ∃ g off cap, v = .slice (some ⟨g, off, none⟩) us.length cap ∧ us.length ≤ cap ∧ g < W.heap.size ∧ ∀ j x, (f u)[j]? = some x → W.cell? ⟨g, off + (k * size + j), none⟩ = some x := by
  have h0 : 0 < us.length := by have := (List.getElem?_eq_some_iff.1 hk).1; omega
  obtain ⟨g, off, cap, h1, h2, h3, h4⟩ := h.form h0
  exact ⟨g, off, cap, h1, h2, h3, fun j x hj => h4 _ _ (flat_get hf us k j u x hk hj)⟩
theorem EpsA.len {W : World} {v : Value} {es : List Ep} (h : EpsA W v es) : ∃ A cap, v = .slice A es.length cap := by
  obtain ⟨us, h1, h2⟩ := h
  obtain ⟨A, cap, h3⟩ := Rd.len h1
  exact ⟨A, cap, by rw [h3, h2.1]⟩
theorem EpsA.small {W : World} {v : Value} {es : List Ep} (h : EpsA W v es) : es.length ≤ 140737488355327 := by
  obtain ⟨us, h1, h2⟩ := h
  rw [← h2.1]
  exact h1.2.1
theorem PtsA.len {W : World} {v : Value} {es : List Pt} (h : PtsA W v es) : ∃ A cap, v = .slice A es.length cap := by
  obtain ⟨us, h1, h2⟩ := h
  obtain ⟨A, cap, h3⟩ := Rd.len h1
  exact ⟨A, cap, by rw [h3, h2.1]⟩
theorem PtsA.small {W : World} {v : Value} {es : List Pt} (h : PtsA W v es) : es.length ≤ 140737488355327 := by
  obtain ⟨us, h1, h2⟩ := h
  rw [← h2.1]
  exact h1.2.1
theorem DgsA.len {W : World} {v : Value} {ds : List Dg} (h : DgsA W v ds) : ∃ A cap, v = .slice A ds.length cap := Rd.len h.1
theorem EpsA.at {W : World} {v : Value} {es : List Ep} (h : EpsA W v es) {k : Nat} {e : Ep} (hk : es[k]? = some e) : ∃ g off cap p d, v = .slice (some ⟨g, off, none⟩) es.length cap ∧ es.length ≤ cap ∧ g < W.heap.size ∧
    W.cell? ⟨g, off + k * 5, none⟩ = some (.int .i64 (e.log : Int)) ∧ W.cell? ⟨g, off + k * 5 + 1, none⟩ = some (.int .i64 (e.count : Int)) ∧ W.cell? ⟨g, off + k * 5 + 2, none⟩ = some (.bool e.closed) ∧
    W.cell? ⟨g, off + k * 5 + 3, none⟩ = some p ∧ W.cell? ⟨g, off + k * 5 + 4, none⟩ = some d ∧ PtsA W p e.pts ∧ DgsA W d e.peaks := by
  obtain ⟨us, h1, h2⟩ := h
  have hl : k < es.length := (List.getElem?_eq_some_iff.1 hk).1
  obtain ⟨u, e', hu, he', hR⟩ := h2.get hl
  obtain rfl : e' = e := Option.some.inj (he'.symm.trans hk)
  obtain ⟨g, off, cap, q1, q2, q3, q4⟩ := RdA.at epc_len h1 hu
  obtain ⟨⟨r1, r2, r3⟩, r4, r5⟩ := hR
  refine ⟨g, off, cap, u.p, u.k, by rw [q1, h2.1], by rw [← h2.1]; exact q2, q3, ?_, ?_, ?_, ?_, ?_, r4, r5⟩
  · rw [← r1]; exact q4 0 _ rfl
  · rw [← r2, Nat.add_assoc]; exact q4 1 _ rfl
  · rw [← r3, Nat.add_assoc]; exact q4 2 _ rfl
  · rw [Nat.add_assoc]; exact q4 3 _ rfl
  · rw [Nat.add_assoc]; exact q4 4 _ rfl
theorem PtsA.at {W : World} {v : Value} {ps : List Pt} (h : PtsA W v ps) {k : Nat} {p : Pt} (hk : ps[k]? = some p) : ∃ g off cap r x, v = .slice (some ⟨g, off, none⟩) ps.length cap ∧ ps.length ≤ cap ∧ g < W.heap.size ∧
    W.cell? ⟨g, off + k * 3, none⟩ = some r ∧ W.cell? ⟨g, off + k * 3 + 1, none⟩ = some x ∧ W.cell? ⟨g, off + k * 3 + 2, none⟩ = some (.bool p.used) ∧ ExA W r p.R ∧ ExA W x p.V := by
  obtain ⟨us, h1, h2⟩ := h
  have hl : k < ps.length := (List.getElem?_eq_some_iff.1 hk).1
  obtain ⟨u, e', hu, he', hR⟩ := h2.get hl
  obtain rfl : e' = p := Option.some.inj (he'.symm.trans hk)
  obtain ⟨g, off, cap, q1, q2, q3, q4⟩ := RdA.at ptc_len h1 hu
  obtain ⟨r1, r2, r3⟩ := hR
  refine ⟨g, off, cap, u.r, u.v, by rw [q1, h2.1], by rw [← h2.1]; exact q2, q3, ?_, ?_, ?_, r1, r2⟩
  · exact q4 0 _ rfl
  · rw [Nat.add_assoc]; exact q4 1 _ rfl
  · rw [← r3, Nat.add_assoc]; exact q4 2 _ rfl
theorem DgsA.at {W : World} {v : Value} {ds : List Dg} (h : DgsA W v ds) {k : Nat} {d : Dg} (hk : ds[k]? = some d) : ∃ g off cap, v = .slice (some ⟨g, off, none⟩) ds.length cap ∧ ds.length ≤ cap ∧ g < W.heap.size ∧ W.rangeAt g (off + k * 32) (byc d) ∧ DgOk d := by
  have hl : k < ds.length := (List.getElem?_eq_some_iff.1 hk).1
  have hd := h.2 d (List.mem_of_getElem? hk)
  obtain ⟨g, off, cap, h1, h2, h3, h4⟩ := h.1.form (by omega)
  refine ⟨g, off, cap, h1, h2, h3, fun j v hj => ?_, hd⟩
  rw [Nat.add_assoc]
  refine h4 _ _ ?_
  have hj2 : j < 32 := by
    have := (List.getElem?_eq_some_iff.1 hj).1
    rw [byc_len', hd.1] at this
    exact this
  have hall : ∀ (l : List Dg), (∀ x ∈ l, DgOk x) → ∀ (k : Nat) (d : Dg), l[k]? = some d → (l.flatMap byc)[k * 32 + j]? = (byc d)[j]? := by
    intro l
    induction l with
    | nil => intro _ k d hk; cases hk
    | cons y l ih =>
      intro hl k d hk
      have hy : (byc y).length = 32 := by rw [byc_len']; exact (hl y (List.mem_cons_self ..)).1
      rcases k with _ | k
      · cases hk
        rw [List.flatMap_cons, Nat.zero_mul, Nat.zero_add, List.getElem?_append_left (by omega)]
      · rw [List.flatMap_cons, List.getElem?_append_right (by rw [hy, Nat.succ_mul]; omega), hy, show (k + 1) * 32 + j - 32 = k * 32 + j by rw [Nat.succ_mul]; omega]
        exact ih (fun x hx => hl x (List.mem_cons_of_mem _ hx)) k d (by simpa using hk)
  rw [hall ds h.2 k d hk]
  exact hj
def mtc (m : Mt) (v : Value) : List Value := .int .u64 (m.ver : Int) :: (byc m.seed ++ [v])
def mtV (m : Mt) (v : Value) : Value := .agg (mtc m v).toArray
theorem mtc_len (m : Mt) (v : Value) (h : m.seed.length = 32) : (mtc m v).length = 34 := by simp [mtc, byc, h]
theorem mtc_33 (m : Mt) (v : Value) (h : m.seed.length = 32) : (mtc m v)[33]? = some v := by
  unfold mtc
  rw [List.getElem?_cons_succ, List.getElem?_append_right (by rw [byc_len', h]; omega), byc_len', h]
  rfl
theorem mtc_set (m : Mt) (v x : Value) (h : m.seed.length = 32) : (mtc m v).set 33 x = mtc m x := by
  unfold mtc
  rw [List.set_cons_succ, List.set_append_right _ _ (by rw [byc_len', h]; omega), byc_len', h]
  rfl
theorem mt_cell {W : World} {g : Nat} {t : TypeId} {m : Mt} {v : Value} (b : Blk W g t (mtc m v).toArray) (h : m.seed.length = 32) : W.cell? ⟨g, 33, none⟩ = some v := by
  rw [b.cell]
  simpa using mtc_33 m v h
theorem mt_cell0 {W : World} {g : Nat} {t : TypeId} {m : Mt} {v : Value} (b : Blk W g t (mtc m v).toArray) : W.cell? ⟨g, 0, none⟩ = some (.int .u64 (m.ver : Int)) := by
  rw [b.cell]
  simp [mtc]
theorem mt_seed {W : World} {g : Nat} {t : TypeId} {m : Mt} {v : Value} (b : Blk W g t (mtc m v).toArray) : W.rangeAt g 1 (byc m.seed) := fun j u hu => by
  rw [b.cell]
  have hj := (List.getElem?_eq_some_iff.1 hu).1
  simp only [List.getElem?_toArray]
  unfold mtc
  rw [show 1 + j = j + 1 by omega, List.getElem?_cons_succ, List.getElem?_append_left hj]
  exact hu
theorem mt_under : Tryz.prog.underlying 35 = some (.struct (Tryz.prog.fieldsOf 35)) := by kernel_rfl
theorem mt_size : (Tryz.prog.info? 35).map (·.size) = some 34 := by kernel_rfl
end Go.Proofs.YtoiampgfnidfdaaGreatDoor
namespace Go.Proofs.YtoiampgfnidfdaaGreatDoor
open Go.RowKit

theorem fit_byA {l : List Nat} : Fit (ByA l) (SlF l.length) := ⟨by_st, fun _ => ⟨.slice none l.length 0, none, 0, rfl⟩, fun _ _ _ _ h => by
  obtain ⟨A, cap, e⟩ := Rd.len h
  exact ⟨A, cap, e⟩⟩
theorem byl_lit {w w' : World} {n m k : Nat} {x : Value} {vs : List Value} {ps : List (List Nat)} (h : Lit 56 k vs.toArray n m x w') (hk : k = vs.length) (hs : vs.length ≤ 1000) (hm : m = w'.heap.size) (hl : vs.length = ps.length) (hB : Below w.heap.size w w')
    (ha : ∀ (i : Nat) u p, vs[i]? = some u → ps[i]? = some p → ∃ lo hi, ByS lo hi w u p) : BylA ps n m x w' := by
  obtain ⟨rfl, hn, hb⟩ := h
  subst hm
  subst hk
  refine ⟨vs, hl, ⟨by rw [hl]; simp, by omega, some ⟨n, 0, none⟩, vs.length, by rw [hl], by omega, fun _ => ⟨n, 0, rfl, Nat.le_refl _, hn, hb.lt, fun j x hj => ?_⟩⟩, fun i x p hx hp => ?_⟩
  · rw [Nat.zero_add, hb.cell]
    simpa using hj
  · obtain ⟨lo, hi, q⟩ := ha i x p hx hp
    exact bys_upto q hB
theorem bys2 {w : World} {u1 u2 : Value} {p1 p2 : List Nat} {l1 h1 l2 h2 : Nat} (a : ByS l1 h1 w u1 p1) (b : ByS l2 h2 w u2 p2) : ∀ (i : Nat) u p, [u1, u2][i]? = some u → [p1, p2][i]? = some p → ∃ lo hi, ByS lo hi w u p := fun i u p hu hp => by
  rcases i with _ | _ | i
  · cases hu; cases hp; exact ⟨_, _, a⟩
  · cases hu; cases hp; exact ⟨_, _, b⟩
  · cases hu
theorem bys3 {w : World} {u1 u2 u3 : Value} {p1 p2 p3 : List Nat} {l1 h1 l2 h2 l3 h3 : Nat} (a : ByS l1 h1 w u1 p1) (b : ByS l2 h2 w u2 p2) (c : ByS l3 h3 w u3 p3) : ∀ (i : Nat) u p, [u1, u2, u3][i]? = some u → [p1, p2, p3][i]? = some p → ∃ lo hi, ByS lo hi w u p := fun i u p hu hp => by
  rcases i with _ | _ | _ | i
  · cases hu; cases hp; exact ⟨_, _, a⟩
  · cases hu; cases hp; exact ⟨_, _, b⟩
  · cases hu; cases hp; exact ⟨_, _, c⟩
  · cases hu
theorem en_slices_Concat___byte_byte_ : ∀ args w, (callFunc 124 args).run Tryz.prog w = .ok (.enter 124 args) w := en_slices_Concat
theorem en_attestor_sha256_Leaf : ∀ args w, (callFunc 105 args).run Tryz.prog w = .ok (.enter 105 args) w := enters_of Tryz.func105 (by kernel_rfl) rfl
theorem en_attestor_sha256_Pair : ∀ args w, (callFunc 107 args).run Tryz.prog w = .ok (.enter 107 args) w := enters_of Tryz.func107 (by kernel_rfl) rfl
attribute [local irreducible] wpRg
set_option maxRecDepth 100000 in
set_option maxHeartbeats 4000000 in
theorem gLeaf (b : List Nat) (hn : b.length ≤ 900000) (hb8 : ∀ x ∈ b, x < 256) (v : Value) (lo hi : Nat) (w : World) (hL : Lsh w) (h : ByS lo hi w v b) : Calls Tryz.prog 105 #[v] w (Ret (dgv (leafD b)) w) := by
  obtain ⟨A, cap, rfl⟩ := h.len
  obtain ⟨isl, hsl, sz0, sz1, sz2⟩ := info_parts byls_info
  have HV := Lib.hid h
  have HL := Lib.hid hL
  have H8 := Lib.hid (show ∀ x ∈ [[0], b].flatten, x < 256 by
    intro x hx
    simp only [List.flatten_cons, List.flatten_nil, List.append_nil, List.mem_append, List.mem_singleton] at hx
    rcases hx with hx | hx
    · rw [hx]; decide
    · exact hb8 x hx)
  have HF := Lib.hid (show [[0], b].flatten.length ≤ 1000000 by simp; omega)
  have HE := Lib.hid (show sha [[0], b].flatten = leafD b by unfold leafD; simp)
  clear h hL hb8
  go_enter Tryz.func105, Tryz.ntmps105
  go_upto_region 1 with (fail)
  refine wp_stk1 fun W hB hz b1 => ?_
  obtain ⟨cs0, hcs0, b1'⟩ : ∃ cs : Array Value, cs.size = 32 ∧ Blk W w.heap.size 23 cs := ⟨_, rfl, b1⟩
  clear b1 hz
  refine wp_region_lit ?_
  refine wpList_plain rfl fun K1 hK1 => wp_of_step (stepAt_mono (fun v3 w3 hh => ?_) (step_litB [0] rfl (by decide) (by decide) rfl (by simp [Act.eval, byc])))
  obtain ⟨s3, B3⟩ := hh
  refine hK1 _ _ ?_
  clear hK1 K1
  try simp only [Act.put, List.setIfInBounds_toArray, List.set_cons_succ, List.set_cons_zero]
  obtain ⟨A0, c0, rfl⟩ := Rd.len s3
  have hB3 := hB.trans (B3.mono hB.size)
  iterate 1 (refine wpList_plain rfl fun K hK => ?_; go_big_op; refine hK _ _ ?_; clear hK K)
  refine wpList_plain rfl fun K3 hK3 => wp_of_step (stepAt_mono (fun v5 w5 hh => ?_) (step_litF (parts := [(0, .tmp 3), (1, .tmp 4)]) (vs := [.slice A0 1 c0, .slice A b.length cap]) byls_slice hsl sz0 sz1 rfl (by simp) (by simp) rfl rfl (by simp [Value.cells])))
  obtain ⟨l5, B5⟩ := hh
  refine hK3 _ _ ?_
  clear hK3 K3
  try simp only [Act.put, List.setIfInBounds_toArray, List.set_cons_succ, List.set_cons_zero]
  have y5 := byl_lit (ps := [[0], b]) l5 rfl (by simp) rfl rfl B5 (bys2 s3 (HV.out.keep hB3))
  have hB5 := hB3.trans (B5.mono hB3.size)
  refine wpList_plain rfl fun K4 hK4 => wp_of_step (stepAt_mono (fun v6 w6 hh => ?_) (step_callr en_slices_Concat (gConcat [[0], b] HF.out (by simp) _ _ _ w5 y5.byl) rfl rfl))
  obtain ⟨o6, B6⟩ := hh
  refine hK4 _ _ ?_
  clear hK4 K4
  try simp only [Act.put, List.setIfInBounds_toArray, List.set_cons_succ, List.set_cons_zero]
  have hB6 := hB5.trans (B6.mono hB5.size)
  refine wpList_plain rfl fun K5 hK5 => wp_of_step (stepAt_mono (fun v7 w7 hh => ?_) (step_callv en_attestor_sha256_Sum (gSum _ HF.out H8.out _ _ _ w6 (HL.out.keep hB6) (o6.bys (Nat.le_trans HF.out (by decide)))) rfl rfl))
  obtain ⟨rfl, B7⟩ := hh
  refine hK5 _ _ ?_
  clear hK5 K5
  try simp only [Act.put, List.setIfInBounds_toArray, List.set_cons_succ, List.set_cons_zero]
  have hBz := hB6.trans (B7.mono hB6.size)
  rw [HE.out]
  have b1z := (((b1'.keep B3).keep B5).keep B6).keep B7
  refine wpList_put rfl 23 (.tmp 2) (.tmp 7) rfl rfl (cells := byc (leafD b)) rfl b1z (by rw [byc_length, leafD, sha_length, hcs0]; decide) (by rw [b32_size, byc_length, leafD, sha_length]) (byc_all _) (spl_all _ _ (by rw [hcs0, byc_length, leafD, sha_length])) fun Y hY bY => ?_
  have hBY := below_put hBz hY (Nat.le_refl _)
  clear b1z hBz b1' hB3 hB5 hB6 B3 B5 B6 B7 s3 l5 y5 o6 sz0 sz1 sz2 hsl
  go_wp2_with fail
  exact bodyPost_ret (v := dgv (leafD b)) (res_row (g := w.heap.size) rfl rfl b32_under rfl (by rw [b32_size, byc_length, leafD, sha_length]) bY) rfl ⟨rfl, hBY⟩
theorem byc_blk {W : World} {g : Nat} {t : TypeId} {d : List Nat} (h : Blk W g t (byc d).toArray) (hd : d.length = 32) : ByS 0 W.heap.size W (.slice (some ⟨g, 0, none⟩) 32 32) d := by
  have := bys_blk (lo := 0) (hi := W.heap.size) (l := d) h (by omega) (Nat.zero_le _) h.lt
  rwa [hd] at this
set_option maxRecDepth 100000 in
set_option maxHeartbeats 4000000 in
theorem gPair (a b : Dg) (ha : DgOk a) (hb : DgOk b) (w : World) (hL : Lsh w) : Calls Tryz.prog 107 #[dgv a, dgv b] w (Ret (dgv (pairD a b)) w) := by
  obtain ⟨Sa, hSa⟩ : ∃ S, S = dgv a := ⟨_, rfl⟩
  obtain ⟨Sb, hSb⟩ : ∃ S, S = dgv b := ⟨_, rfl⟩
  rw [← hSa, ← hSb]
  obtain ⟨isl, hsl, sz0, sz1, sz2⟩ := info_parts byls_info
  have HL := Lib.hid hL
  have HA := Lib.hid ha
  have HB := Lib.hid hb
  have H8 := Lib.hid (show ∀ x ∈ [[1], a, b].flatten, x < 256 by
    intro x hx
    simp only [List.flatten_cons, List.flatten_nil, List.append_nil, List.mem_append, List.mem_singleton] at hx
    rcases hx with hx | hx | hx
    · rw [hx]; decide
    · exact ha.2 x hx
    · exact hb.2 x hx)
  have HF := Lib.hid (show [[1], a, b].flatten.length ≤ 1000000 by simp [ha.1, hb.1])
  have HE := Lib.hid (show sha [[1], a, b].flatten = pairD a b by unfold pairD; simp)
  clear hL ha hb
  go_enter Tryz.func107, Tryz.ntmps107
  go_upto_region 1 with (fail)
  refine wp_stk3 fun W hB hz b2 b3 b4 => ?_
  have b2' : Blk W w.heap.size 23 (byc a).toArray := by first | exact b2 | (rw [hSa] at b2; exact b2)
  have b3' : Blk W (w.heap.size + 1) 23 (byc b).toArray := by first | exact b3 | (rw [hSb] at b3; exact b3)
  obtain ⟨cs0, hcs0, b4'⟩ : ∃ cs : Array Value, cs.size = 32 ∧ Blk W (w.heap.size + 1 + 1) 23 cs := ⟨_, rfl, b4⟩
  clear b2 b3 b4 hz hSa hSb
  refine wp_region_rg 6 [(0, Spec.rel (ByA [1]) (SlF 1)), (3, Spec.rel (BylA [[1], a, b]) AnyV), (4, Spec.rel (OwA ([[1], a, b].flatten)) AnyV), (5, Spec.val (dgv (sha [[1], a, b].flatten)))] (by kernel_rfl) (by kernel_rfl) (by kernel_rfl) ⟨fit_byA, fit_of (byl_st), fit_of (ow_st), trivial⟩ ?_
  refine rg_rel rfl rfl (fun W1 hW1 hF => step_litB [1] rfl (by decide) (by decide) rfl (by simp [Act.eval, Act.put, byc])) ?_
  intro n0 m0 v0 hn0 hm0 hd0 hf0 a' ha
  simp only [Act.put, List.setIfInBounds_toArray, List.set_cons_succ, List.set_cons_zero] at ha
  subst ha
  obtain ⟨A0, cap0, rfl⟩ := hf0
  iterate 2 (refine rg_det rfl rfl rfl (fun K hK => ?_); go_big_quiet_op; refine hK _ ?_; clear hK K)
  refine rg_rel rfl rfl (fun W1 hW1 hF => stepAt_mono (fun v w' hh => ⟨byl_lit hh.1 rfl (by simp) rfl rfl hh.2 (bys3 (pick_last hF (by kernel_rfl)).2 (byc_blk (b2'.keep (grw_below hW1)) HA.out.1) (byc_blk (b3'.keep (grw_below hW1)) HB.out.1)), hh.2⟩) (step_litF (parts := [(0, .tmp 5), (1, .tmp 6), (2, .tmp 7)]) (vs := [.slice A0 1 cap0, .slice (some ⟨w.heap.size, 0, none⟩) 32 32, .slice (some ⟨w.heap.size + 1, 0, none⟩) 32 32]) byls_slice hsl sz0 sz1 rfl (by simp) (by simp) rfl rfl (by simp [Value.cells]))) ?_
  intro n3 m3 v3 hn3 hm3 hd3 hf3 a' ha
  simp only [Act.put, List.setIfInBounds_toArray, List.set_cons_succ, List.set_cons_zero] at ha
  subst ha
  refine rg_rel rfl rfl (fun W1 hW1 hF => step_callr en_slices_Concat___byte_byte_ (gConcat [[1], a, b] HF.out (by simp) _ _ _ W1 (pick_last hF (by kernel_rfl)).2.byl) rfl rfl) ?_
  intro n4 m4 v4 hn4 hm4 hd4 hf4 a' ha
  simp only [Act.put, List.setIfInBounds_toArray, List.set_cons_succ, List.set_cons_zero] at ha
  subst ha
  refine rg_val rfl rfl (fun W1 hW1 hF => step_callv en_attestor_sha256_Sum (gSum _ HF.out H8.out _ _ _ W1 (HL.out.keep (hB.trans ((grw_below hW1).mono hB.size))) ((pick_last hF (by kernel_rfl)).2.bys (Nat.le_trans HF.out (by decide)))) rfl rfl) ?_
  intro a' ha
  simp only [Act.put, List.setIfInBounds_toArray, List.set_cons_succ, List.set_cons_zero] at ha
  subst ha
  refine rg_nil (fun w' hw' hF => ?_)
  obtain ⟨z, rfl⟩ := hw'
  simp only [List.drop_succ_cons, List.drop_zero]
  rw [HE.out]
  have b1z := b4'.gw z
  have hBz := hB.trans (z.h.mono hB.size)
  refine wpList_put rfl 23 (.tmp 4) (.tmp 10) rfl rfl (cells := byc (pairD a b)) rfl b1z (by rw [byc_length, pairD, sha_length, hcs0]; decide) (by rw [b32_size, byc_length, pairD, sha_length]) (byc_all _) (spl_all _ _ (by rw [hcs0, byc_length, pairD, sha_length])) fun Y hY bY => ?_
  have hBY := below_put hBz hY (by omega)
  clear hF b1z hBz b2' b3' b4' sz0 sz1 sz2 hsl
  go_wp2_with fail
  exact bodyPost_ret (v := dgv (pairD a b)) (res_row (g := w.heap.size + 1 + 1) rfl rfl b32_under rfl (by rw [b32_size, byc_length, pairD, sha_length]) bY) rfl ⟨rfl, hBY⟩
end Go.Proofs.YtoiampgfnidfdaaGreatDoor
