/-
  A meter in memory.
  The program's digests of leaves and pairs.
  The program's keyed digest.
  The reference's digests of leaves, of pairs, and the keyed digest.
-/
import Derived.Test.YtoiampgfnidfdaaGreatDoorMs26
import Derived.Test.YtoiampgfnidfdaaGreatDoorShc
import Derived.Test.YtoiampgfnidfdaaGreatDoorPa
import Derived.Test.YtoiampgfnidfdaaGreatDoorTag4
namespace Go.Proofs.YtoiampgfnidfdaaGreatDoor
open Go.RowKit

def Al {α β : Type} (R : α → β → Prop) (us : List α) (ps : List β) : Prop := us.length = ps.length ∧ ∀ (k : Nat) u p, us[k]? = some u → ps[k]? = some p → R u p
section
variable {α β : Type} {R S : α → β → Prop} {us : List α} {ps : List β}
theorem Al.nil : Al R [] [] := ⟨rfl, fun k u p h => (by cases h)⟩
theorem Al.mono (h : Al R us ps) (hs : ∀ u p, R u p → S u p) : Al S us ps := ⟨h.1, fun k u p h1 h2 => hs _ _ (h.2 k u p h1 h2)⟩
theorem Al.snoc (h : Al R us ps) {u : α} {p : β} (hu : R u p) : Al R (us ++ [u]) (ps ++ [p]) := by
  refine ⟨by simp [h.1], fun k x y hx hy => ?_⟩
  by_cases hk : k < us.length
  · rw [List.getElem?_append_left hk] at hx
    rw [List.getElem?_append_left (by rw [← h.1]; exact hk)] at hy
    exact h.2 k x y hx hy
  · have hk2 := (List.getElem?_eq_some_iff.1 hx).1
    simp only [List.length_append, List.length_singleton] at hk2
    obtain rfl : k = us.length := by omega
    rw [List.getElem?_append_right (Nat.le_refl _), Nat.sub_self] at hx
    rw [List.getElem?_append_right (by rw [h.1]; exact Nat.le_refl _), h.1, Nat.sub_self] at hy
    cases hx
    cases hy
    exact hu
theorem Al.set (h : Al R us ps) {i : Nat} {u : α} {p : β} (hu : R u p) : Al R (us.set i u) (ps.set i p) := by
  refine ⟨by simp [h.1], fun k x y hx hy => ?_⟩
  by_cases hk : i = k
  · subst hk
    have h1 := (List.getElem?_eq_some_iff.1 hx).1
    have h2 := (List.getElem?_eq_some_iff.1 hy).1
    rw [List.length_set] at h1 h2
    rw [List.getElem?_set_self h1] at hx
    rw [List.getElem?_set_self h2] at hy
    cases hx
    cases hy
    exact hu
  · rw [List.getElem?_set_ne hk] at hx hy
    exact h.2 k x y hx hy
theorem Al.get (h : Al R us ps) {k : Nat} (hk : k < ps.length) : ∃ u p, us[k]? = some u ∧ ps[k]? = some p ∧ R u p := by
  have h1 : k < us.length := by rw [h.1]; exact hk
  exact ⟨us[k], ps[k], List.getElem?_eq_getElem h1, List.getElem?_eq_getElem hk, h.2 k _ _ (List.getElem?_eq_getElem h1) (List.getElem?_eq_getElem hk)⟩
theorem Al.take (h : Al R us ps) (n : Nat) : Al R (us.take n) (ps.take n) := by
  refine ⟨by simp [h.1], fun k x y hx hy => ?_⟩
  rw [List.getElem?_take] at hx hy
  split at hx
  · rename_i hk
    rw [if_pos hk] at hy
    exact h.2 k x y hx hy
  · cases hx
end
def RdA (size : Nat) (W : World) (v : Value) (n : Nat) (cs : List Value) : Prop := Rd 0 W.heap.size size W v n cs
theorem RdA.keep {size n : Nat} {W W' : World} {v : Value} {cs : List Value} (h : RdA size W v n cs) (hb : Below W.heap.size W W') : RdA size W' v n cs := (Rd.keep h hb).wide (Nat.le_refl _) hb.size
theorem RdA.of {size n lo hi : Nat} {W : World} {v : Value} {cs : List Value} (h : Rd lo hi size W v n cs) : RdA size W v n cs := by
  obtain ⟨q1, q2, A, cap, q3, q4, q5⟩ := h
  refine ⟨q1, q2, A, cap, q3, q4, fun h0 => ?_⟩
  obtain ⟨g, off, r1, r2, r3, r4, r5⟩ := q5 h0
  exact ⟨g, off, r1, Nat.zero_le _, r4, r4, r5⟩
def ExA (W : World) (v : Value) (xs : List E) : Prop := RdA 2 W v xs.length (xs.flatMap ec)
theorem ExA.keep {W W' : World} {v : Value} {xs : List E} (h : ExA W v xs) (hb : Below W.heap.size W W') : ExA W' v xs := RdA.keep h hb
structure PtW where
  r : Value
  v : Value
  u : Bool
def ptc (x : PtW) : List Value := [x.r, x.v, .bool x.u]
theorem ptc_len (x : PtW) : (ptc x).length = 3 := rfl
def PtIn (W : World) (x : PtW) (p : Pt) : Prop := ExA W x.r p.R ∧ ExA W x.v p.V ∧ x.u = p.used
theorem PtIn.keep {W W' : World} {x : PtW} {p : Pt} (h : PtIn W x p) (hb : Below W.heap.size W W') : PtIn W' x p := ⟨h.1.keep hb, h.2.1.keep hb, h.2.2⟩
def PtsA (W : World) (v : Value) (ps : List Pt) : Prop := ∃ us : List PtW, RdA 3 W v us.length (us.flatMap ptc) ∧ Al (PtIn W) us ps
theorem PtsA.keep {W W' : World} {v : Value} {ps : List Pt} (h : PtsA W v ps) (hb : Below W.heap.size W W') : PtsA W' v ps := by
  obtain ⟨us, h1, h2⟩ := h
  exact ⟨us, h1.keep hb, h2.mono fun _ _ h => h.keep hb⟩
theorem byc_len' (l : List Nat) : (byc l).length = l.length := by simp [byc]
def DgOk (d : Dg) : Prop := d.length = 32 ∧ ∀ x ∈ d, x < 256
def DgsA (W : World) (v : Value) (ds : List Dg) : Prop := RdA 32 W v ds.length (ds.flatMap byc) ∧ ∀ d ∈ ds, DgOk d
theorem DgsA.keep {W W' : World} {v : Value} {ds : List Dg} (h : DgsA W v ds) (hb : Below W.heap.size W W') : DgsA W' v ds := ⟨h.1.keep hb, h.2⟩
structure EpW where
  log : Nat
  count : Nat
  closed : Bool
  p : Value
  k : Value
def epc (x : EpW) : List Value := [.int .i64 (x.log : Int), .int .i64 (x.count : Int), .bool x.closed, x.p, x.k]
theorem epc_len (x : EpW) : (epc x).length = 5 := rfl
def EpIn (W : World) (x : EpW) (e : Ep) : Prop := (x.log = e.log ∧ x.count = e.count ∧ x.closed = e.closed) ∧ PtsA W x.p e.pts ∧ DgsA W x.k e.peaks
theorem EpIn.keep {W W' : World} {x : EpW} {e : Ep} (h : EpIn W x e) (hb : Below W.heap.size W W') : EpIn W' x e := ⟨h.1, h.2.1.keep hb, h.2.2.keep hb⟩
def EpsA (W : World) (v : Value) (es : List Ep) : Prop := ∃ us : List EpW, RdA 5 W v us.length (us.flatMap epc) ∧ Al (EpIn W) us es
theorem EpsA.keep {W W' : World} {v : Value} {es : List Ep} (h : EpsA W v es) (hb : Below W.heap.size W W') : EpsA W' v es := by
  obtain ⟨us, h1, h2⟩ := h
  exact ⟨us, h1.keep hb, h2.mono fun _ _ h => h.keep hb⟩
theorem RdA.form {size n : Nat} {W : World} {v : Value} {cs : List Value} (h : RdA size W v n cs) (h0 : 0 < n) : ∃ g off cap, v = .slice (some ⟨g, off, none⟩) n cap ∧ n ≤ cap ∧ g < W.heap.size ∧ ∀ j u, cs[j]? = some u → W.cell? ⟨g, off + j, none⟩ = some u := by
  obtain ⟨g, off, cap, h1, h2, _, _, h3, h4⟩ := Rd.form h h0
  exact ⟨g, off, cap, h1, h2, h3, h4⟩
theorem RdA.at {α : Type} {f : α → List Value} {size : Nat} {W : World} {v : Value} {us : List α} (hf : ∀ x, (f x).length = size) (h : RdA size W v us.length (us.flatMap f)) {k : Nat} {u : α} (hk : us[k]? = some u) :
    ∃ g off cap, v = .slice (some ⟨g, off, none⟩) us.length cap ∧ us.length ≤ cap ∧ g < W.heap.size ∧ ∀ j x, (f u)[j]? = some x → W.cell? ⟨g, off + (k * size + j), none⟩ = some x := by
  have h0 : 0 < us.length := by have := (List.getElem?_eq_some_iff.1 hk).1; omega
  obtain ⟨g, off, cap, h1, h2, h3, h4⟩ := h.form h0
  exact ⟨g, off, cap, h1, h2, h3, fun j x hj => h4 _ _ (flat_get hf us k j u x hk hj)⟩
theorem EpsA.len {W : World} {v : Value} {es : List Ep} (h : EpsA W v es) : ∃ A cap, v = .slice A es.length cap := by
  obtain ⟨us, h1, h2⟩ := h
  obtain ⟨A, cap, h3⟩ := Rd.len h1
  exact ⟨A, cap, by rw [h3, h2.1]⟩
theorem PtsA.len {W : World} {v : Value} {es : List Pt} (h : PtsA W v es) : ∃ A cap, v = .slice A es.length cap := by
  obtain ⟨us, h1, h2⟩ := h
  obtain ⟨A, cap, h3⟩ := Rd.len h1
  exact ⟨A, cap, by rw [h3, h2.1]⟩
theorem DgsA.len {W : World} {v : Value} {ds : List Dg} (h : DgsA W v ds) : ∃ A cap, v = .slice A ds.length cap := Rd.len h.1
theorem EpsA.at {W : World} {v : Value} {es : List Ep} (h : EpsA W v es) {k : Nat} {e : Ep} (hk : es[k]? = some e) : ∃ g off cap p d, v = .slice (some ⟨g, off, none⟩) es.length cap ∧ es.length ≤ cap ∧ g < W.heap.size ∧
    W.cell? ⟨g, off + k * 5, none⟩ = some (.int .i64 (e.log : Int)) ∧ W.cell? ⟨g, off + k * 5 + 1, none⟩ = some (.int .i64 (e.count : Int)) ∧ W.cell? ⟨g, off + k * 5 + 2, none⟩ = some (.bool e.closed) ∧
    W.cell? ⟨g, off + k * 5 + 3, none⟩ = some p ∧ W.cell? ⟨g, off + k * 5 + 4, none⟩ = some d ∧ PtsA W p e.pts ∧ DgsA W d e.peaks := by
  obtain ⟨us, h1, h2⟩ := h
  have hl : k < es.length := (List.getElem?_eq_some_iff.1 hk).1
  obtain ⟨u, e', hu, he', hR⟩ := h2.get hl
  obtain rfl : e' = e := Option.some.inj (he'.symm.trans hk)
  obtain ⟨g, off, cap, q1, q2, q3, q4⟩ := RdA.at epc_len h1 hu
  obtain ⟨⟨r1, r2, r3⟩, r4, r5⟩ := hR
  refine ⟨g, off, cap, u.p, u.k, by rw [q1, h2.1], by rw [← h2.1]; exact q2, q3, ?_, ?_, ?_, ?_, ?_, r4, r5⟩
  · rw [← r1]; exact q4 0 _ rfl
  · rw [← r2, Nat.add_assoc]; exact q4 1 _ rfl
  · rw [← r3, Nat.add_assoc]; exact q4 2 _ rfl
  · rw [Nat.add_assoc]; exact q4 3 _ rfl
  · rw [Nat.add_assoc]; exact q4 4 _ rfl
theorem PtsA.at {W : World} {v : Value} {ps : List Pt} (h : PtsA W v ps) {k : Nat} {p : Pt} (hk : ps[k]? = some p) : ∃ g off cap r x, v = .slice (some ⟨g, off, none⟩) ps.length cap ∧ ps.length ≤ cap ∧ g < W.heap.size ∧
    W.cell? ⟨g, off + k * 3, none⟩ = some r ∧ W.cell? ⟨g, off + k * 3 + 1, none⟩ = some x ∧ W.cell? ⟨g, off + k * 3 + 2, none⟩ = some (.bool p.used) ∧ ExA W r p.R ∧ ExA W x p.V := by
  obtain ⟨us, h1, h2⟩ := h
  have hl : k < ps.length := (List.getElem?_eq_some_iff.1 hk).1
  obtain ⟨u, e', hu, he', hR⟩ := h2.get hl
  obtain rfl : e' = p := Option.some.inj (he'.symm.trans hk)
  obtain ⟨g, off, cap, q1, q2, q3, q4⟩ := RdA.at ptc_len h1 hu
  obtain ⟨r1, r2, r3⟩ := hR
  refine ⟨g, off, cap, u.r, u.v, by rw [q1, h2.1], by rw [← h2.1]; exact q2, q3, ?_, ?_, ?_, r1, r2⟩
  · exact q4 0 _ rfl
  · rw [Nat.add_assoc]; exact q4 1 _ rfl
  · rw [← r3, Nat.add_assoc]; exact q4 2 _ rfl
theorem DgsA.at {W : World} {v : Value} {ds : List Dg} (h : DgsA W v ds) {k : Nat} {d : Dg} (hk : ds[k]? = some d) : ∃ g off cap, v = .slice (some ⟨g, off, none⟩) ds.length cap ∧ ds.length ≤ cap ∧ g < W.heap.size ∧ W.rangeAt g (off + k * 32) (byc d) ∧ DgOk d := by
  have hl : k < ds.length := (List.getElem?_eq_some_iff.1 hk).1
  have hd := h.2 d (List.mem_of_getElem? hk)
  obtain ⟨g, off, cap, h1, h2, h3, h4⟩ := h.1.form (by omega)
  refine ⟨g, off, cap, h1, h2, h3, fun j v hj => ?_, hd⟩
  rw [Nat.add_assoc]
  refine h4 _ _ ?_
  have hj2 : j < 32 := by
    have := (List.getElem?_eq_some_iff.1 hj).1
    rw [byc_len', hd.1] at this
    exact this
  have hall : ∀ (l : List Dg), (∀ x ∈ l, DgOk x) → ∀ (k : Nat) (d : Dg), l[k]? = some d → (l.flatMap byc)[k * 32 + j]? = (byc d)[j]? := by
    intro l
    induction l with
    | nil => intro _ k d hk; cases hk
    | cons y l ih =>
      intro hl k d hk
      have hy : (byc y).length = 32 := by rw [byc_len']; exact (hl y (List.mem_cons_self ..)).1
      rcases k with _ | k
      · cases hk
        rw [List.flatMap_cons, Nat.zero_mul, Nat.zero_add, List.getElem?_append_left (by omega)]
      · rw [List.flatMap_cons, List.getElem?_append_right (by rw [hy, Nat.succ_mul]; omega), hy, show (k + 1) * 32 + j - 32 = k * 32 + j by rw [Nat.succ_mul]; omega]
        exact ih (fun x hx => hl x (List.mem_cons_of_mem _ hx)) k d (by simpa using hk)
  rw [hall ds h.2 k d hk]
  exact hj
def mtc (m : Mt) (v : Value) : List Value := .int .u64 (m.ver : Int) :: (byc m.seed ++ [v])
def mtV (m : Mt) (v : Value) : Value := .agg (mtc m v).toArray
theorem mtc_len (m : Mt) (v : Value) (h : m.seed.length = 32) : (mtc m v).length = 34 := by simp [mtc, byc, h]
theorem mtc_33 (m : Mt) (v : Value) (h : m.seed.length = 32) : (mtc m v)[33]? = some v := by
  unfold mtc
  rw [List.getElem?_cons_succ, List.getElem?_append_right (by rw [byc_len', h]; omega), byc_len', h]
  rfl
theorem mtc_set (m : Mt) (v x : Value) (h : m.seed.length = 32) : (mtc m v).set 33 x = mtc m x := by
  unfold mtc
  rw [List.set_cons_succ, List.set_append_right _ _ (by rw [byc_len', h]; omega), byc_len', h]
  rfl
theorem mt_cell {W : World} {g : Nat} {t : TypeId} {m : Mt} {v : Value} (b : Blk W g t (mtc m v).toArray) (h : m.seed.length = 32) : W.cell? ⟨g, 33, none⟩ = some v := by
  rw [b.cell]
  simpa using mtc_33 m v h
theorem mt_cell0 {W : World} {g : Nat} {t : TypeId} {m : Mt} {v : Value} (b : Blk W g t (mtc m v).toArray) : W.cell? ⟨g, 0, none⟩ = some (.int .u64 (m.ver : Int)) := by
  rw [b.cell]
  simp [mtc]
theorem mt_seed {W : World} {g : Nat} {t : TypeId} {m : Mt} {v : Value} (b : Blk W g t (mtc m v).toArray) : W.rangeAt g 1 (byc m.seed) := fun j u hu => by
  rw [b.cell]
  have hj := (List.getElem?_eq_some_iff.1 hu).1
  simp only [List.getElem?_toArray]
  unfold mtc
  rw [show 1 + j = j + 1 by omega, List.getElem?_cons_succ, List.getElem?_append_left hj]
  exact hu
theorem mt_under : Tryz.prog.underlying 35 = some (.struct (Tryz.prog.fieldsOf 35)) := by kernel_rfl
theorem mt_size : (Tryz.prog.info? 35).map (·.size) = some 34 := by kernel_rfl
end Go.Proofs.YtoiampgfnidfdaaGreatDoor
namespace Go.Proofs.YtoiampgfnidfdaaGreatDoor
open Go.RowKit

theorem fit_byA {l : List Nat} : Fit (ByA l) (SlF l.length) := ⟨by_st, fun _ => ⟨.slice none l.length 0, none, 0, rfl⟩, fun _ _ _ _ h => by
  obtain ⟨A, cap, e⟩ := Rd.len h
  exact ⟨A, cap, e⟩⟩
theorem byl_lit {w w' : World} {n m k : Nat} {x : Value} {vs : List Value} {ps : List (List Nat)} (h : Lit 56 k vs.toArray n m x w') (hk : k = vs.length) (hs : vs.length ≤ 1000) (hm : m = w'.heap.size) (hl : vs.length = ps.length) (hB : Below w.heap.size w w')
    (ha : ∀ (i : Nat) u p, vs[i]? = some u → ps[i]? = some p → ∃ lo hi, ByS lo hi w u p) : BylA ps n m x w' := by
  obtain ⟨rfl, hn, hb⟩ := h
  subst hm
  subst hk
  refine ⟨vs, hl, ⟨by rw [hl]; simp, by omega, some ⟨n, 0, none⟩, vs.length, by rw [hl], by omega, fun _ => ⟨n, 0, rfl, Nat.le_refl _, hn, hb.lt, fun j x hj => ?_⟩⟩, fun i x p hx hp => ?_⟩
  · rw [Nat.zero_add, hb.cell]
    simpa using hj
  · obtain ⟨lo, hi, q⟩ := ha i x p hx hp
    exact bys_upto q hB
theorem bys2 {w : World} {u1 u2 : Value} {p1 p2 : List Nat} {l1 h1 l2 h2 : Nat} (a : ByS l1 h1 w u1 p1) (b : ByS l2 h2 w u2 p2) : ∀ (i : Nat) u p, [u1, u2][i]? = some u → [p1, p2][i]? = some p → ∃ lo hi, ByS lo hi w u p := fun i u p hu hp => by
  rcases i with _ | _ | i
  · cases hu; cases hp; exact ⟨_, _, a⟩
  · cases hu; cases hp; exact ⟨_, _, b⟩
  · cases hu
theorem bys3 {w : World} {u1 u2 u3 : Value} {p1 p2 p3 : List Nat} {l1 h1 l2 h2 l3 h3 : Nat} (a : ByS l1 h1 w u1 p1) (b : ByS l2 h2 w u2 p2) (c : ByS l3 h3 w u3 p3) : ∀ (i : Nat) u p, [u1, u2, u3][i]? = some u → [p1, p2, p3][i]? = some p → ∃ lo hi, ByS lo hi w u p := fun i u p hu hp => by
  rcases i with _ | _ | _ | i
  · cases hu; cases hp; exact ⟨_, _, a⟩
  · cases hu; cases hp; exact ⟨_, _, b⟩
  · cases hu; cases hp; exact ⟨_, _, c⟩
  · cases hu
theorem en_slices_Concat___byte_byte_ : ∀ args w, (callFunc 124 args).run Tryz.prog w = .ok (.enter 124 args) w := en_slices_Concat
theorem en_attestor_sha256_Leaf : ∀ args w, (callFunc 105 args).run Tryz.prog w = .ok (.enter 105 args) w := enters_of Tryz.func105 (by kernel_rfl) rfl
theorem en_attestor_sha256_Pair : ∀ args w, (callFunc 107 args).run Tryz.prog w = .ok (.enter 107 args) w := enters_of Tryz.func107 (by kernel_rfl) rfl
attribute [local irreducible] wpRg
set_option maxRecDepth 100000 in
set_option maxHeartbeats 4000000 in
theorem gLeaf (b : List Nat) (hn : b.length ≤ 900000) (hb8 : ∀ x ∈ b, x < 256) (v : Value) (lo hi : Nat) (w : World) (hL : Lsh w) (h : ByS lo hi w v b) : Calls Tryz.prog 105 #[v] w (Ret (dgv (leafD b)) w) := by
  obtain ⟨A, cap, rfl⟩ := h.len
  obtain ⟨isl, hsl, sz0, sz1, sz2⟩ := info_parts byls_info
  have HV := Lib.hid h
  have HL := Lib.hid hL
  have H8 := Lib.hid (show ∀ x ∈ [[0], b].flatten, x < 256 by
    intro x hx
    simp only [List.flatten_cons, List.flatten_nil, List.append_nil, List.mem_append, List.mem_singleton] at hx
    rcases hx with hx | hx
    · rw [hx]; decide
    · exact hb8 x hx)
  have HF := Lib.hid (show [[0], b].flatten.length ≤ 1000000 by simp; omega)
  have HE := Lib.hid (show sha [[0], b].flatten = leafD b by unfold leafD; simp)
  clear h hL hb8
  go_enter Tryz.func105, Tryz.ntmps105
  go_upto_region 1 with (fail)
  refine wp_stk1 fun W hB hz b1 => ?_
  obtain ⟨cs0, hcs0, b1'⟩ : ∃ cs : Array Value, cs.size = 32 ∧ Blk W w.heap.size 23 cs := ⟨_, rfl, b1⟩
  clear b1 hz
  refine wp_region_lit ?_
  refine wpList_plain rfl fun K1 hK1 => wp_of_step (stepAt_mono (fun v3 w3 hh => ?_) (step_litB [0] rfl (by decide) (by decide) rfl (by simp [Act.eval, byc])))
  obtain ⟨s3, B3⟩ := hh
  refine hK1 _ _ ?_
  clear hK1 K1
  try simp only [Act.put, List.setIfInBounds_toArray, List.set_cons_succ, List.set_cons_zero]
  obtain ⟨A0, c0, rfl⟩ := Rd.len s3
  have hB3 := hB.trans (B3.mono hB.size)
  iterate 1 (refine wpList_plain rfl fun K hK => ?_; go_big_op; refine hK _ _ ?_; clear hK K)
  refine wpList_plain rfl fun K3 hK3 => wp_of_step (stepAt_mono (fun v5 w5 hh => ?_) (step_litF (parts := [(0, .tmp 3), (1, .tmp 4)]) (vs := [.slice A0 1 c0, .slice A b.length cap]) byls_slice hsl sz0 sz1 rfl (by simp) (by simp) rfl rfl (by simp [Value.cells])))
  obtain ⟨l5, B5⟩ := hh
  refine hK3 _ _ ?_
  clear hK3 K3
  try simp only [Act.put, List.setIfInBounds_toArray, List.set_cons_succ, List.set_cons_zero]
  have y5 := byl_lit (ps := [[0], b]) l5 rfl (by simp) rfl rfl B5 (bys2 s3 (HV.out.keep hB3))
  have hB5 := hB3.trans (B5.mono hB3.size)
  refine wpList_plain rfl fun K4 hK4 => wp_of_step (stepAt_mono (fun v6 w6 hh => ?_) (step_callr en_slices_Concat (gConcat [[0], b] HF.out (by simp) _ _ _ w5 y5.byl) rfl rfl))
  obtain ⟨o6, B6⟩ := hh
  refine hK4 _ _ ?_
  clear hK4 K4
  try simp only [Act.put, List.setIfInBounds_toArray, List.set_cons_succ, List.set_cons_zero]
  have hB6 := hB5.trans (B6.mono hB5.size)
  refine wpList_plain rfl fun K5 hK5 => wp_of_step (stepAt_mono (fun v7 w7 hh => ?_) (step_callv en_attestor_sha256_Sum (gSum _ HF.out H8.out _ _ _ w6 (HL.out.keep hB6) (o6.bys (Nat.le_trans HF.out (by decide)))) rfl rfl))
  obtain ⟨rfl, B7⟩ := hh
  refine hK5 _ _ ?_
  clear hK5 K5
  try simp only [Act.put, List.setIfInBounds_toArray, List.set_cons_succ, List.set_cons_zero]
  have hBz := hB6.trans (B7.mono hB6.size)
  rw [HE.out]
  have b1z := (((b1'.keep B3).keep B5).keep B6).keep B7
  refine wpList_put rfl 23 (.tmp 2) (.tmp 7) rfl rfl (cells := byc (leafD b)) rfl b1z (by rw [byc_length, leafD, sha_length, hcs0]; decide) (by rw [b32_size, byc_length, leafD, sha_length]) (byc_all _) (spl_all _ _ (by rw [hcs0, byc_length, leafD, sha_length])) fun Y hY bY => ?_
  have hBY := below_put hBz hY (Nat.le_refl _)
  clear b1z hBz b1' hB3 hB5 hB6 B3 B5 B6 B7 s3 l5 y5 o6 sz0 sz1 sz2 hsl
  go_wp2_with fail
  exact bodyPost_ret (v := dgv (leafD b)) (res_row (g := w.heap.size) rfl rfl b32_under rfl (by rw [b32_size, byc_length, leafD, sha_length]) bY) rfl ⟨rfl, hBY⟩
theorem byc_blk {W : World} {g : Nat} {t : TypeId} {d : List Nat} (h : Blk W g t (byc d).toArray) (hd : d.length = 32) : ByS 0 W.heap.size W (.slice (some ⟨g, 0, none⟩) 32 32) d := by
  have := bys_blk (lo := 0) (hi := W.heap.size) (l := d) h (by omega) (Nat.zero_le _) h.lt
  rwa [hd] at this
set_option maxRecDepth 100000 in
set_option maxHeartbeats 4000000 in
theorem gPair (a b : Dg) (ha : DgOk a) (hb : DgOk b) (w : World) (hL : Lsh w) : Calls Tryz.prog 107 #[dgv a, dgv b] w (Ret (dgv (pairD a b)) w) := by
  obtain ⟨Sa, hSa⟩ : ∃ S, S = dgv a := ⟨_, rfl⟩
  obtain ⟨Sb, hSb⟩ : ∃ S, S = dgv b := ⟨_, rfl⟩
  rw [← hSa, ← hSb]
  obtain ⟨isl, hsl, sz0, sz1, sz2⟩ := info_parts byls_info
  have HL := Lib.hid hL
  have HA := Lib.hid ha
  have HB := Lib.hid hb
  have H8 := Lib.hid (show ∀ x ∈ [[1], a, b].flatten, x < 256 by
    intro x hx
    simp only [List.flatten_cons, List.flatten_nil, List.append_nil, List.mem_append, List.mem_singleton] at hx
    rcases hx with hx | hx | hx
    · rw [hx]; decide
    · exact ha.2 x hx
    · exact hb.2 x hx)
  have HF := Lib.hid (show [[1], a, b].flatten.length ≤ 1000000 by simp [ha.1, hb.1])
  have HE := Lib.hid (show sha [[1], a, b].flatten = pairD a b by unfold pairD; simp)
  clear hL ha hb
  go_enter Tryz.func107, Tryz.ntmps107
  go_upto_region 1 with (fail)
  refine wp_stk3 fun W hB hz b2 b3 b4 => ?_
  have b2' : Blk W w.heap.size 23 (byc a).toArray := by first | exact b2 | (rw [hSa] at b2; exact b2)
  have b3' : Blk W (w.heap.size + 1) 23 (byc b).toArray := by first | exact b3 | (rw [hSb] at b3; exact b3)
  obtain ⟨cs0, hcs0, b4'⟩ : ∃ cs : Array Value, cs.size = 32 ∧ Blk W (w.heap.size + 1 + 1) 23 cs := ⟨_, rfl, b4⟩
  clear b2 b3 b4 hz hSa hSb
  refine wp_region_rg 6 [(0, Spec.rel (ByA [1]) (SlF 1)), (3, Spec.rel (BylA [[1], a, b]) AnyV), (4, Spec.rel (OwA ([[1], a, b].flatten)) AnyV), (5, Spec.val (dgv (sha [[1], a, b].flatten)))] (by kernel_rfl) (by kernel_rfl) (by kernel_rfl) ⟨fit_byA, fit_of (byl_st), fit_of (ow_st), trivial⟩ ?_
  refine rg_rel rfl rfl (fun W1 hW1 hF => step_litB [1] rfl (by decide) (by decide) rfl (by simp [Act.eval, Act.put, byc])) ?_
  intro n0 m0 v0 hn0 hm0 hd0 hf0 a' ha
  simp only [Act.put, List.setIfInBounds_toArray, List.set_cons_succ, List.set_cons_zero] at ha
  subst ha
  obtain ⟨A0, cap0, rfl⟩ := hf0
  iterate 2 (refine rg_det rfl rfl rfl (fun K hK => ?_); go_big_quiet_op; refine hK _ ?_; clear hK K)
  refine rg_rel rfl rfl (fun W1 hW1 hF => stepAt_mono (fun v w' hh => ⟨byl_lit hh.1 rfl (by simp) rfl rfl hh.2 (bys3 (pick_last hF (by kernel_rfl)).2 (byc_blk (b2'.keep (grw_below hW1)) HA.out.1) (byc_blk (b3'.keep (grw_below hW1)) HB.out.1)), hh.2⟩) (step_litF (parts := [(0, .tmp 5), (1, .tmp 6), (2, .tmp 7)]) (vs := [.slice A0 1 cap0, .slice (some ⟨w.heap.size, 0, none⟩) 32 32, .slice (some ⟨w.heap.size + 1, 0, none⟩) 32 32]) byls_slice hsl sz0 sz1 rfl (by simp) (by simp) rfl rfl (by simp [Value.cells]))) ?_
  intro n3 m3 v3 hn3 hm3 hd3 hf3 a' ha
  simp only [Act.put, List.setIfInBounds_toArray, List.set_cons_succ, List.set_cons_zero] at ha
  subst ha
  refine rg_rel rfl rfl (fun W1 hW1 hF => step_callr en_slices_Concat___byte_byte_ (gConcat [[1], a, b] HF.out (by simp) _ _ _ W1 (pick_last hF (by kernel_rfl)).2.byl) rfl rfl) ?_
  intro n4 m4 v4 hn4 hm4 hd4 hf4 a' ha
  simp only [Act.put, List.setIfInBounds_toArray, List.set_cons_succ, List.set_cons_zero] at ha
  subst ha
  refine rg_val rfl rfl (fun W1 hW1 hF => step_callv en_attestor_sha256_Sum (gSum _ HF.out H8.out _ _ _ W1 (HL.out.keep (hB.trans ((grw_below hW1).mono hB.size))) ((pick_last hF (by kernel_rfl)).2.bys (Nat.le_trans HF.out (by decide)))) rfl rfl) ?_
  intro a' ha
  simp only [Act.put, List.setIfInBounds_toArray, List.set_cons_succ, List.set_cons_zero] at ha
  subst ha
  refine rg_nil (fun w' hw' hF => ?_)
  obtain ⟨z, rfl⟩ := hw'
  simp only [List.drop_succ_cons, List.drop_zero]
  rw [HE.out]
  have b1z := b4'.gw z
  have hBz := hB.trans (z.h.mono hB.size)
  refine wpList_put rfl 23 (.tmp 4) (.tmp 10) rfl rfl (cells := byc (pairD a b)) rfl b1z (by rw [byc_length, pairD, sha_length, hcs0]; decide) (by rw [b32_size, byc_length, pairD, sha_length]) (byc_all _) (spl_all _ _ (by rw [hcs0, byc_length, pairD, sha_length])) fun Y hY bY => ?_
  have hBY := below_put hBz hY (by omega)
  clear hF b1z hBz b2' b3' b4' sz0 sz1 sz2 hsl
  go_wp2_with fail
  exact bodyPost_ret (v := dgv (pairD a b)) (res_row (g := w.heap.size + 1 + 1) rfl rfl b32_under rfl (by rw [b32_size, byc_length, pairD, sha_length]) bY) rfl ⟨rfl, hBY⟩
end Go.Proofs.YtoiampgfnidfdaaGreatDoor
namespace Go.Proofs.YtoiampgfnidfdaaGreatDoor
open Go.RowKit

theorem b64_info : (Tryz.prog.info? 162).map (fun i => (i.zero, i.size, i.bytes)) = some (some (.agg (zb 64).toArray), 64, 64) := by kernel_rfl
def mskG (key : Dg) (m k : Nat) : List Nat := (key.take k).map (fun x => x ^^^ m) ++ List.replicate (64 - k) m
theorem mskG_get (key : Dg) (m k : Nat) (h : key.length = 32) (hk : k < 32) : (mskG key m k)[k]? = some m := by
  unfold mskG
  rw [List.getElem?_append_right (by simp; omega)]
  have e : k - ((key.take k).map fun x => x ^^^ m).length = 0 := by simp [h]; omega
  rw [e, List.getElem?_replicate]
  rw [if_pos (by omega)]
theorem mskG_next (key : Dg) (m k x : Nat) (h : key.length = 32) (hx : key[k]? = some x) : mskG key m (k + 1) = (mskG key m k).set k (x ^^^ m) := by
  have hk : k < 32 := by rw [← h]; exact (List.getElem?_eq_some_iff.1 hx).1
  unfold mskG
  rw [List.take_add_one, hx, List.map_append, List.set_append_right _ _ (by simp; omega)]
  simp only [Option.toList_some, List.map_cons, List.map_nil, List.append_assoc, List.length_map, List.length_take, h]
  rw [show k - min k 32 = 0 by omega, show 64 - k = (64 - (k + 1)) + 1 by omega, List.replicate_succ, List.set_cons_zero]
  rfl
theorem mskG_all (key : Dg) (m : Nat) (h : key.length = 32) : mskG key m 32 = maskK key m := by
  unfold mskG maskK
  rw [List.take_of_length_le (by omega), List.map_append]
  simp
theorem mskG_zero (key : Dg) (m : Nat) : mskG key m 0 = List.replicate 64 m := by simp [mskG]
theorem byc_set (l : List Nat) (k x : Nat) : (byc l).set k (.int .u8 (x : Int)) = byc (l.set k x) := by unfold byc; rw [List.map_set]
theorem rep_snoc (k m : Nat) : List.replicate (k + 1) m = List.replicate k m ++ [m] := List.replicate_succ'
theorem set11 {M : World → Prop} {w : World} {g h i j : Nat} {t u : TypeId} {cs ds : Array Value} {v x : Value} (b1 : Blk w g t cs) (b2 : Blk w h u ds) (hne : g ≠ h) (H : ∀ X1 X2, Put w X1 g → Put X1 X2 h → Blk X2 g t (cs.setIfInBounds i v) → Blk X2 h u (ds.setIfInBounds j x) → M X2) :
    M ((w.setCell ⟨g, i, none⟩ v).setCell ⟨h, j, none⟩ x) :=
  H _ _ (Put.set w g i v) (Put.set _ h j x) ((Put.set _ h j x).blk (b1.set_ i v) hne) (((Put.set w g i v).blk b2 (fun e => hne e.symm)).set_ j x)
theorem run_ixB {key : Dg} {k x : Nat} (h : key.length = 32) (hk : k < 32) (hx : key[k]? = some x) (w : World) : (Instr.index 23 (.agg (byc key).toArray) (.int .i64 (k : Int))).run Tryz.prog w = .ok (.int .u8 (x : Int)) w := by
  obtain ⟨i, hi, hs⟩ : ∃ i, Tryz.prog.info? 5 = some i ∧ i.size = 1 := by
    obtain ⟨i, h1, -, h2, -⟩ := info_parts u8_info
    exact ⟨i, h1, h2⟩
  have h1 : (k : Int) < 32 := by omega
  have h2 : (byc key)[k]? = some (.int .u8 (x : Int)) := by simp [byc, hx]
  have h3 : k < (byc key).length := by rw [byc_len', h]; exact hk
  generalize byc key = l at *
  obtain ⟨_, h4⟩ := List.getElem?_eq_some_iff.1 h2
  simp [Instr.index, asIntOf, run_underlying b32_under, run_underlying u8_under, part, sizeOf, typeInfo, hi, hs, h1, h4, h2, h3]
  omega
theorem xor_tab : ((List.range 256).all fun x => (bits .xor .u8 54 (x : Int) == ((x ^^^ 54 : Nat) : Int)) && (bits .xor .u8 92 (x : Int) == ((x ^^^ 92 : Nat) : Int))) = true := by kernel_rfl
theorem xor54 {x : Nat} (h : x < 256) : bits .xor .u8 54 (x : Int) = ((x ^^^ 54 : Nat) : Int) := by
  have := List.all_eq_true.1 xor_tab x (List.mem_range.2 h)
  simp only [Bool.and_eq_true, beq_iff_eq] at this
  exact this.1
theorem xor92 {x : Nat} (h : x < 256) : bits .xor .u8 92 (x : Int) = ((x ^^^ 92 : Nat) : Int) := by
  have := List.all_eq_true.1 xor_tab x (List.mem_range.2 h)
  simp only [Bool.and_eq_true, beq_iff_eq] at this
  exact this.2
theorem byc_64 {W : World} {g : Nat} {t : TypeId} {d : List Nat} (h : Blk W g t (byc d).toArray) (hd : d.length = 64) : ByS 0 W.heap.size W (.slice (some ⟨g, 0, none⟩) 64 64) d := by
  have := bys_blk (lo := 0) (hi := W.heap.size) (l := d) h (by omega) (Nat.zero_le _) h.lt
  rwa [hd] at this
theorem en_attestor_sha256_Keyed : ∀ args w, (callFunc 99 args).run Tryz.prog w = .ok (.enter 99 args) w := enters_of Tryz.func99 (by kernel_rfl) rfl
attribute [local irreducible] wpRg
set_option maxRecDepth 100000 in
set_option maxHeartbeats 4000000 in
theorem gKeyed (key : Dg) (hk : DgOk key) (b : List Nat) (hb : b.length ≤ 900000) (hb8 : ∀ x ∈ b, x < 256) (v : Value) (lo hi : Nat) (w : World) (hL : Lsh w) (h : ByS lo hi w v b) : Calls Tryz.prog 99 #[dgv key, v] w (Ret (dgv (keyD key b)) w) := by
  obtain ⟨A, cap, rfl⟩ := h.len
  obtain ⟨Sk, hSk⟩ : ∃ S, S = dgv key := ⟨_, rfl⟩
  rw [← hSk]
  obtain ⟨isl, hsl, sz0, sz1, sz2⟩ := info_parts byls_info
  obtain ⟨i64, h64, iz0, iz1, iz2⟩ := info_parts b64_info
  have HV := Lib.hid h
  have HL := Lib.hid hL
  have HK := Lib.hid hk
  have H8 := Lib.hid hb8
  clear h hL hk hb8
  go_enter Tryz.func99, Tryz.ntmps99
  go_upto_region 1 with (fail)
  refine wp_stk2 fun W hB hz b2 b4 => ?_
  have b2' : Blk W w.heap.size 23 (byc key).toArray := by first | exact b2 | (rw [hSk] at b2; exact b2)
  obtain ⟨cs0, hcs0, b4'⟩ : ∃ cs : Array Value, cs.size = 32 ∧ Blk W (w.heap.size + 1) 23 cs := ⟨_, rfl, b4⟩
  have hWs : W.heap.size = w.heap.size + 1 + 1 := hz.out
  clear b2 b4 hz
  refine wp_region_lit ?_
  refine wpList_plain rfl fun K1 hK1 => wp_of_step (stepAt_mono (fun v5 w5 hh => ?_) (step_new0 h64 iz0 rfl))
  obtain ⟨rfl, rfl⟩ := hh
  refine hK1 _ _ ?_
  clear hK1 K1
  try simp only [Act.put, List.setIfInBounds_toArray, List.set_cons_succ, List.set_cons_zero]
  have c5 : Blk (W.alloc (.cells (Value.agg (zb 64).toArray).cells 162)) W.heap.size 162 (zb 64).toArray := World.alloc_heap_new W _
  have B5 := (Below.refl _ W).alloc (Nat.le_refl _) (.cells (Value.agg (zb 64).toArray).cells 162)
  have s5 : (W.alloc (.cells (Value.agg (zb 64).toArray).cells 162)).heap.size = W.heap.size + 1 := by simp
  generalize W.alloc (.cells (Value.agg (zb 64).toArray).cells 162) = w5 at *
  refine wpList_plain rfl fun K2 hK2 => wp_of_step (stepAt_mono (fun v6 w6 hh => ?_) (step_new0 h64 iz0 rfl))
  obtain ⟨rfl, rfl⟩ := hh
  refine hK2 _ _ ?_
  clear hK2 K2
  try simp only [Act.put, List.setIfInBounds_toArray, List.set_cons_succ, List.set_cons_zero]
  have c6 : Blk (w5.alloc (.cells (Value.agg (zb 64).toArray).cells 162)) w5.heap.size 162 (zb 64).toArray := World.alloc_heap_new w5 _
  have B6 := (Below.refl _ w5).alloc (Nat.le_refl _) (.cells (Value.agg (zb 64).toArray).cells 162)
  have s6 : (w5.alloc (.cells (Value.agg (zb 64).toArray).cells 162)).heap.size = w5.heap.size + 1 := by simp
  generalize w5.alloc (.cells (Value.agg (zb 64).toArray).cells 162) = w6 at *
  have c5' := c5.keep B6
  have b26 := (b2'.keep B5).keep B6
  have b46 := (b4'.keep B5).keep B6
  have hB6 := (hB.trans (B5.mono hB.size)).trans (B6.mono (by omega))
  rw [s5] at c6 ⊢
  obtain ⟨g5, hg5⟩ : ∃ g, g = W.heap.size := ⟨_, rfl⟩
  rw [← hg5] at c5' c6 ⊢
  have hg : w.heap.size + 1 + 1 = g5 := by omega
  have c50 : Blk w6 g5 162 (arrB 64 (List.replicate 0 54)).toArray := by rw [List.replicate_zero, arrB_zero]; exact c5'
  have c60 : Blk w6 (g5 + 1) 162 (arrB 64 (List.replicate 0 92)).toArray := by rw [List.replicate_zero, arrB_zero]; exact c6
  clear c5 c5' c6 B5 B6 s5 s6 b2' b4' hB hWs hg5
  try simp only [Act.put, List.setIfInBounds_toArray, List.set_cons_succ, List.set_cons_zero]
  go_wp2_with fail
  go_loopw [11] (fun i wr => ∃ k : Nat, k ≤ 64 ∧ i = .int .i64 k ∧ Blk wr g5 162 (arrB 64 (List.replicate k 54)).toArray ∧ Blk wr (g5 + 1) 162 (arrB 64 (List.replicate k 92)).toArray ∧ Blk wr w.heap.size 23 (byc key).toArray ∧ Blk wr (w.heap.size + 1) 23 cs0 ∧ Below w.heap.size w wr) (fun i _ => 64 - (intOf i).toNat)
  case atStart => exact ⟨0, Nat.zero_le _, rfl, c50, c60, b26, b46, hB6⟩
  case round =>
    clear c50 c60 b26 b46 hB6
    obtain ⟨k, hk, rfl, c5, c6, b2, b4, hBr⟩ := hrel
    by_cases hlt : k < 64
    · have e1 := c5.frozen
      have e3 := c6.frozen
      have e2 : wr.cell? ⟨g5, k, none⟩ = some (.int .u8 0) := (c5.cell k).trans (by have := arrB_next 64 (List.replicate k 54) (by simpa using hlt); rw [List.length_replicate] at this; simpa using this)
      have e4 : wr.cell? ⟨g5 + 1, k, none⟩ = some (.int .u8 0) := (c6.cell k).trans (by have := arrB_next 64 (List.replicate k 92) (by simpa using hlt); rw [List.length_replicate] at this; simpa using this)
      go_upto_region 6 with (fail)
      refine set11 (M := fun W => Code.wp _ _ _ _ W) c5 c6 (by omega) fun X1 X2 hX1 hX2 bX5 bX6 => ?_
      have c5X : Blk X2 g5 162 (arrB 64 (List.replicate (k + 1) 54)).toArray := by
        have := arrB_set 64 (List.replicate k 54) 54 (by simpa using hlt)
        rw [List.length_replicate] at this
        rw [rep_snoc, ← this, ← List.setIfInBounds_toArray]
        exact bX5
      have c6X : Blk X2 (g5 + 1) 162 (arrB 64 (List.replicate (k + 1) 92)).toArray := by
        have := arrB_set 64 (List.replicate k 92) 92 (by simpa using hlt)
        rw [List.length_replicate] at this
        rw [rep_snoc, ← this, ← List.setIfInBounds_toArray]
        exact bX6
      have b2X := hX2.blk (hX1.blk b2 (by omega)) (by omega)
      have b4X := hX2.blk (hX1.blk b4 (by omega)) (by omega)
      have hBX := below_put (below_put hBr hX1 (by omega)) hX2 (by omega)
      clear e1 e2 e3 e4 bX5 bX6
      go_wp2_with fail
      exact ⟨⟨k + 1, by omega, by go_num, c5X, c6X, b2X, b4X, hBX⟩, by simp [intOf]; omega⟩
    · obtain rfl : k = 64 := by omega
      have hkl := HK.out.1
      rw [arrB_full 64 _ (by simp), ← mskG_zero key 54] at c5
      rw [arrB_full 64 _ (by simp), ← mskG_zero key 92] at c6
      go_upto_region 7 with (fail)
      refine wp_region_lit ?_
      refine wpList_plain rfl fun K4 hK4 => wp_of_step (stepAt_mono (fun v19 w19 hh => ?_) (step_loadR0 (cs := byc key) b32_under rfl (by rw [b32_size, byc_length, hkl]) rfl rfl (blk_range b2)))
      obtain ⟨rfl, rfl⟩ := hh
      refine hK4 _ _ ?_
      clear hK4 K4
      try simp only [Act.put, List.setIfInBounds_toArray, List.set_cons_succ, List.set_cons_zero]
      have b2' : Blk w19 w.heap.size 23 (byc key).toArray := b2
      iterate 1 (refine wpList_plain rfl fun K hK => ?_; go_big_op; refine hK _ _ ?_; clear hK K)
      try simp only [Act.put, List.setIfInBounds_toArray, List.set_cons_succ, List.set_cons_zero]
      have HSk := Lib.hid hSk
      clear hSk
      obtain ⟨S1, hS1⟩ : ∃ S, S = Value.agg (byc key).toArray := ⟨_, rfl⟩
      rw [← hS1]
      have HS1 := Lib.hid hS1
      clear hS1
      go_wp2_with fail
      go_loopw [20] (fun i wr => ∃ k : Nat, k ≤ 32 ∧ i = .int .i64 k ∧ Blk wr g5 162 (byc (mskG key 54 k)).toArray ∧ Blk wr (g5 + 1) 162 (byc (mskG key 92 k)).toArray ∧ Blk wr w.heap.size 23 (byc key).toArray ∧ Blk wr (w.heap.size + 1) 23 cs0 ∧ Below w.heap.size w wr) (fun i _ => 32 - (intOf i).toNat)
      case atStart => exact ⟨0, Nat.zero_le _, rfl, c5, c6, b2', b4, hBr⟩
      case round =>
        clear c5 c6 b2' b2 b4 hBr
        obtain ⟨k, hk, rfl, c5, c6, b2, b4, hBr⟩ := hrel
        by_cases hlt : k < 32
        · obtain ⟨x, hx⟩ : ∃ x, key[k]? = some x := ⟨key[k]'(by omega), List.getElem?_eq_getElem (by omega)⟩
          have hx8 : x < 256 := HK.out.2 x (List.mem_of_getElem? hx)
          have e1 := c5.frozen
          have e3 := c6.frozen
          have e2 : wr.cell? ⟨g5, k, none⟩ = some (.int .u8 54) := (c5.cell k).trans (by simp [byc, mskG_get key 54 k hkl hlt])
          have e4 : wr.cell? ⟨g5 + 1, k, none⟩ = some (.int .u8 92) := (c6.cell k).trans (by simp [byc, mskG_get key 92 k hkl hlt])
          have hix := run_ixB (key := key) hkl hlt hx
          rw [← HS1.out] at hix
          go_upto_region 12 with (fail)
          rw [xor54 hx8, xor92 hx8]
          refine set11 (M := fun W => Code.wp _ _ _ _ W) c5 c6 (by omega) fun X1 X2 hX1 hX2 bX5 bX6 => ?_
          rw [List.setIfInBounds_toArray, byc_set, ← mskG_next key 54 k x hkl hx] at bX5
          rw [List.setIfInBounds_toArray, byc_set, ← mskG_next key 92 k x hkl hx] at bX6
          have b2X := hX2.blk (hX1.blk b2 (by omega)) (by omega)
          have b4X := hX2.blk (hX1.blk b4 (by omega)) (by omega)
          have hBX := below_put (below_put hBr hX1 (by omega)) hX2 (by omega)
          clear e1 e2 e3 e4 hix c5 c6 b2 b4 hBr hX1 hX2
          go_wp2_with fail
          exact ⟨⟨k + 1, by omega, by go_num, bX5, bX6, b2X, b4X, hBX⟩, by simp [intOf]; omega⟩
        · obtain rfl : k = 32 := by omega
          rw [mskG_all key 54 hkl] at c5
          rw [mskG_all key 92 hkl] at c6
          have hm : ∀ m, m < 256 → ∀ x ∈ maskK key m, x < 256 := fun m hm x hx => by
            unfold maskK at hx
            obtain ⟨y, hy, rfl⟩ := List.mem_map.1 hx
            refine Nat.xor_lt_two_pow (n := 8) ?_ hm
            rcases List.mem_append.1 hy with hy | hy
            · exact HK.out.2 y hy
            · rw [(List.mem_replicate.1 hy).2]; decide
          have hml : ∀ m, (maskK key m).length = 64 := fun m => by simp [maskK, hkl]
          have s5 := bys_blk (lo := 0) (hi := wr.heap.size) c5 (by rw [hml]; decide) (Nat.zero_le _) c5.lt
          rw [hml] at s5
          go_upto_region 13 with (fail)
          refine wp_region_lit ?_
          iterate 2 (refine wpList_plain rfl fun K hK => ?_; go_big_op; refine hK _ _ ?_; clear hK K)
          refine wpList_plain rfl fun K8 hK8 => wp_of_step (stepAt_mono (fun v39 w39 hh => ?_) (step_litF (parts := [(0, .tmp 37), (1, .tmp 38)]) (vs := [.slice (some ⟨g5, 0, none⟩) 64 64, .slice A b.length cap]) byls_slice hsl sz0 sz1 rfl (by simp) (by simp) rfl rfl (by simp [Value.cells])))
          obtain ⟨l39, B39⟩ := hh
          refine hK8 _ _ ?_
          clear hK8 K8
          try simp only [Act.put, List.setIfInBounds_toArray, List.set_cons_succ, List.set_cons_zero]
          have y39 := byl_lit (ps := [maskK key 54, b]) l39 rfl (by simp) rfl rfl B39 (bys2 s5 (HV.out.keep hBr))
          have hB39 := hBr.trans (B39.mono hBr.size)
          have hF1 : [maskK key 54, b].flatten.length ≤ 1000000 := by simp [hml]; omega
          refine wpList_plain rfl fun K9 hK9 => wp_of_step (stepAt_mono (fun v40 w40 hh => ?_) (step_callr en_slices_Concat (gConcat [maskK key 54, b] hF1 (by simp) _ _ _ w39 y39.byl) rfl rfl))
          obtain ⟨o40, B40⟩ := hh
          refine hK9 _ _ ?_
          clear hK9 K9
          try simp only [Act.put, List.setIfInBounds_toArray, List.set_cons_succ, List.set_cons_zero]
          have hB40 := hB39.trans (B40.mono hB39.size)
          have h81 : ∀ x ∈ [maskK key 54, b].flatten, x < 256 := fun x hx => by
            simp only [List.flatten_cons, List.flatten_nil, List.append_nil, List.mem_append] at hx
            rcases hx with hx | hx
            · exact hm 54 (by decide) x hx
            · exact H8.out x hx
          refine wpList_plain rfl fun K10 hK10 => wp_of_step (stepAt_mono (fun v41 w41 hh => ?_) (step_callv en_attestor_sha256_Sum (gSum _ hF1 h81 _ _ _ w40 (HL.out.keep hB40) (o40.bys (Nat.le_trans hF1 (by decide)))) rfl rfl))
          obtain ⟨rfl, B41⟩ := hh
          refine hK10 _ _ ?_
          clear hK10 K10
          try simp only [Act.put, List.setIfInBounds_toArray, List.set_cons_succ, List.set_cons_zero]
          have hB41 := hB40.trans (B41.mono hB40.size)
          have e1 : sha [maskK key 54, b].flatten = sha (maskK key 54 ++ b) := by simp
          obtain ⟨i32', h32, i320, i321, i322⟩ := info_parts b32_info
          rw [e1]
          obtain ⟨d, hd⟩ : ∃ d, d = sha (maskK key 54 ++ b) := ⟨_, rfl⟩
          have hdk : DgOk d := by rw [hd]; exact ⟨sha_length _, sha_lt _⟩
          have hF2 : [maskK key 92, d].flatten.length ≤ 1000000 := by simp [hml, hdk.1]
          have h82 : ∀ x ∈ [maskK key 92, d].flatten, x < 256 := fun x hx => by
            simp only [List.flatten_cons, List.flatten_nil, List.append_nil, List.mem_append] at hx
            rcases hx with hx | hx
            · exact hm 92 (by decide) x hx
            · exact hdk.2 x hx
          rw [← hd]
          refine wpList_plain rfl fun K11 hK11 => wp_of_step (stepAt_mono (fun v10 w10 hh => ?_) (step_new0 h32 i320 rfl))
          obtain ⟨rfl, rfl⟩ := hh
          refine hK11 _ _ ?_
          clear hK11 K11
          try simp only [Act.put, List.setIfInBounds_toArray, List.set_cons_succ, List.set_cons_zero]
          have c10 : Blk (w41.alloc (.cells (Value.agg (zb 32).toArray).cells 23)) w41.heap.size 23 (zb 32).toArray := World.alloc_heap_new w41 _
          have BA := (Below.refl _ w41).alloc (Nat.le_refl _) (.cells (Value.agg (zb 32).toArray).cells 23)
          obtain ⟨g10, hg10⟩ : ∃ g, g = w41.heap.size := ⟨_, rfl⟩
          rw [← hg10] at c10 ⊢
          refine wpList_put rfl 23 (.tmp 10) (.tmp 41) rfl rfl (cells := byc d) rfl c10 (by rw [byc_length, hdk.1]; simp [zb]) (by rw [b32_size, byc_length, hdk.1]) (byc_all _) (spl_all _ _ (by rw [byc_length, hdk.1]; simp [zb])) fun X hX bX => ?_
          have h41 := B41.size
          have h40 := B40.size
          have h39 := B39.size
          have c6X := hX.blk (((((c6.keep B39).keep B40).keep B41).keep BA)) (by have := c6.lt; omega)
          have b4X := hX.blk (((((b4.keep B39).keep B40).keep B41).keep BA)) (by have := b4.lt; omega)
          have hBX : Below w.heap.size w X := below_put (hB41.trans (BA.mono hB41.size)) hX (by have := hB41.size; omega)
          have l6 := c6X.lt
          clear c5 c6 b2 b4 hBr s5 l39 y39 hB39 o40 hB40 hB41 h81 B39 B40 B41 BA c10 hX e1 hg10 h39 h40 h41
          try simp only [Act.put, List.setIfInBounds_toArray, List.set_cons_succ, List.set_cons_zero]
          go_upto_region 14 with (fail)
          refine wp_region_rg 5 [(2, Spec.rel (BylA [maskK key 92, d]) AnyV), (3, Spec.rel (OwA ([maskK key 92, d].flatten)) AnyV), (4, Spec.val (dgv (sha [maskK key 92, d].flatten)))] (by kernel_rfl) (by kernel_rfl) (by kernel_rfl) ⟨fit_of (byl_st), fit_of (ow_st), trivial⟩ ?_
          iterate 2 (refine rg_det rfl rfl rfl (fun K hK => ?_); go_big_quiet_op; refine hK _ ?_; clear hK K)
          refine rg_rel rfl rfl (fun W1 hW1 hF => stepAt_mono (fun v w' hh => ⟨byl_lit hh.1 rfl (by simp) rfl rfl hh.2 (bys2 (byc_64 (c6X.keep (grw_below hW1)) (hml 92)) (byc_blk (bX.keep (grw_below hW1)) hdk.1)), hh.2⟩) (step_litF (parts := [(0, .tmp 42), (1, .tmp 43)]) (vs := [.slice (some ⟨g5 + 1, 0, none⟩) 64 64, .slice (some ⟨g10, 0, none⟩) 32 32]) byls_slice hsl sz0 sz1 rfl (by simp) (by simp) rfl rfl (by simp [Value.cells]))) ?_
          intro n2 m2 v2 hn2 hm2 hd2 hf2 a' ha
          simp only [Act.put, List.setIfInBounds_toArray, List.set_cons_succ, List.set_cons_zero] at ha
          subst ha
          refine rg_rel rfl rfl (fun W1 hW1 hF => step_callr en_slices_Concat___byte_byte_ (gConcat [maskK key 92, d] hF2 (by simp) _ _ _ W1 (pick_last hF (by kernel_rfl)).2.byl) rfl rfl) ?_
          intro n3 m3 v3 hn3 hm3 hd3 hf3 a' ha
          simp only [Act.put, List.setIfInBounds_toArray, List.set_cons_succ, List.set_cons_zero] at ha
          subst ha
          refine rg_val rfl rfl (fun W1 hW1 hF => step_callv en_attestor_sha256_Sum (gSum _ hF2 h82 _ _ _ W1 (HL.out.keep (hBX.trans ((grw_below hW1).mono hBX.size))) ((pick_last hF (by kernel_rfl)).2.bys (Nat.le_trans hF2 (by decide)))) rfl rfl) ?_
          intro a' ha
          simp only [Act.put, List.setIfInBounds_toArray, List.set_cons_succ, List.set_cons_zero] at ha
          subst ha
          refine rg_nil (fun w' hw' hF => ?_)
          obtain ⟨z, rfl⟩ := hw'
          simp only [List.drop_succ_cons, List.drop_zero]
          have he2 : sha [maskK key 92, d].flatten = keyD key b := by rw [hd]; unfold keyD; simp
          rw [he2]
          have b4z := b4X.gw z
          have hBz := hBX.trans (z.h.mono hBX.size)
          refine wpList_put rfl 23 (.tmp 4) (.tmp 46) rfl rfl (cells := byc (keyD key b)) rfl b4z (by rw [byc_length, keyD, sha_length, hcs0]; decide) (by rw [b32_size, byc_length, keyD, sha_length]) (byc_all _) (spl_all _ _ (by rw [hcs0, byc_length, keyD, sha_length])) fun Y hY bY => ?_
          have hBY := below_put hBz hY (by omega)
          clear hF b4z hBz b4X bX c6X sz0 sz1 sz2 hsl
          go_wp2_with fail
          exact bodyPost_ret (v := dgv (keyD key b)) (res_row (g := w.heap.size + 1) rfl rfl b32_under rfl (by rw [b32_size, byc_length, keyD, sha_length]) bY) rfl ⟨rfl, hBY⟩
end Go.Proofs.YtoiampgfnidfdaaGreatDoor
namespace Go.Proofs.YtoiampgfnidfdaaGreatDoor
open Go.RowKit

theorem en_attestor_attestorref07_Masked : ∀ args w, (callFunc 118 args).run Tryz.prog w = .ok (.enter 118 args) w := enters_of Tryz.func118 (by kernel_rfl) rfl
theorem en_attestor_attestorref07_Keyed : ∀ args w, (callFunc 88 args).run Tryz.prog w = .ok (.enter 88 args) w := enters_of Tryz.func88 (by kernel_rfl) rfl
theorem xor_tab2 : ((List.range 256).all fun x => (bits .xor .u8 (x : Int) 54 == ((x ^^^ 54 : Nat) : Int)) && (bits .xor .u8 (x : Int) 92 == ((x ^^^ 92 : Nat) : Int))) = true := by kernel_rfl
theorem xorM {m x : Nat} (hm : m = 54 ∨ m = 92) (h : x < 256) : bits .xor .u8 (x : Int) (m : Int) = ((x ^^^ m : Nat) : Int) := by
  have := List.all_eq_true.1 xor_tab2 x (List.mem_range.2 h)
  simp only [Bool.and_eq_true, beq_iff_eq] at this
  rcases hm with rfl | rfl
  · exact this.1
  · exact this.2
theorem maskK_len (key : Dg) (m : Nat) (h : key.length = 32) : (maskK key m).length = 64 := by simp [maskK, h]
theorem maskK_low (key : Dg) (m k x : Nat) (hx : key[k]? = some x) : (maskK key m)[k]? = some (x ^^^ m) := by
  have hk := (List.getElem?_eq_some_iff.1 hx).1
  unfold maskK
  rw [List.getElem?_map, List.getElem?_append_left hk, hx]
  rfl
theorem maskK_high (key : Dg) (m k : Nat) (h : key.length = 32) (h1 : 32 ≤ k) (h2 : k < 64) : (maskK key m)[k]? = some m := by
  unfold maskK
  rw [List.getElem?_map, List.getElem?_append_right (by omega), List.getElem?_replicate, if_pos (by omega)]
  simp
theorem maskK_lt (key : Dg) (m : Nat) (hk : DgOk key) (hm : m < 256) : ∀ x ∈ maskK key m, x < 256 := fun x hx => by
  unfold maskK at hx
  obtain ⟨y, hy, rfl⟩ := List.mem_map.1 hx
  refine Nat.xor_lt_two_pow (n := 8) ?_ hm
  rcases List.mem_append.1 hy with hy | hy
  · exact hk.2 y hy
  · rw [(List.mem_replicate.1 hy).2]; decide
attribute [local irreducible] wpRg
set_option maxRecDepth 100000 in
set_option maxHeartbeats 4000000 in
theorem rMasked (key : Dg) (hk : DgOk key) (m : Nat) (hm : m = 54 ∨ m = 92) (w : World) : Calls Tryz.prog 118 #[dgv key, .int .u8 (m : Int)] w (RetR (ByA (maskK key m)) w) := by
  obtain ⟨Sk, hSk⟩ : ∃ S, S = dgv key := ⟨_, rfl⟩
  rw [← hSk]
  have HK := Lib.hid hk
  have hkl := hk.1
  have HML := Lib.hid (maskK_len key m hkl)
  have HM := Lib.hid hm
  clear hk hm
  go_enter Tryz.func118, Tryz.ntmps118
  go_upto_region 1 with (fail)
  refine wp_stk1 fun W hB hz b2 => ?_
  have b2' : Blk W w.heap.size 23 (byc key).toArray := by first | exact b2 | (rw [hSk] at b2; exact b2)
  have hWs : W.heap.size = w.heap.size + 1 := hz.out
  clear b2 hz hSk
  go_wp2_with fail
  go_loopw [5, 6] (fun u i wr => ∃ k : Nat, k ≤ 64 ∧ i = .int .i64 k ∧ wr.ownsRow (w.heap.size + 1) 5 1 u ((maskK key m).take k).length (byc ((maskK key m).take k)) ∧ Blk wr w.heap.size 23 (byc key).toArray ∧ Below w.heap.size w wr) (fun _ i _ => 64 - (intOf i).toNat)
  case atStart =>
    refine ⟨0, Nat.zero_le _, rfl, ⟨rfl, .inr ⟨w.heap.size + 1, 0, #[], rfl, Nat.le_refl _, ?_, Nat.le_refl _, by simp, by simp [byc]⟩⟩, b2'.below ((Below.refl _ W).alloc (Nat.le_refl _) _) b2'.lt, hB.trans ((Below.refl _ W).alloc (by omega) _)⟩
    have := World.alloc_heap_new W (.cells #[] 5)
    rwa [hWs] at this
  case round =>
    clear b2' hB hWs
    obtain ⟨k, hk, rfl, hown, b2, hBr⟩ := hrel
    obtain ⟨A3, c3, rfl⟩ := own_slen hown
    by_cases hlt : k < 64
    · have hl : ((maskK key m).take k).length = k := by rw [List.length_take, HML.out]; omega
      have hbl := b2.lt
      by_cases h32 : k < 32
      · obtain ⟨x, hx⟩ : ∃ x, key[k]? = some x := ⟨key[k]'(by omega), List.getElem?_eq_getElem (by omega)⟩
        have hx8 : x < 256 := HK.out.2 x (List.mem_of_getElem? hx)
        have c1 : wr.cell? ⟨w.heap.size, k, none⟩ = some (.int .u8 (x : Int)) := (b2.cell k).trans (by simp [byc, hx])
        have HX := Lib.hid (show (maskK key m).take (k + 1) = (maskK key m).take k ++ [x ^^^ m] by rw [List.take_add_one, maskK_low key m k x hx]; rfl)
        clear hx
        generalize (maskK key m).take k = l at *
        go_upto_region 8 with (fail)
        rw [xorM HM.out hx8]
        rw [show Value.slice A3 l.length c3 = Value.slice A3 k c3 by rw [hl]] at hown
        refine wp_region_lit ?_
        iterate 2 (refine wpList_plain rfl fun K hK => ?_; go_big_op; refine hK _ _ ?_; clear hK K)
        refine wpList_push (l := l) (c := x ^^^ m) rfl rfl _ _ _ rfl rfl rfl (fun _ => rfl) (fun _ => rfl) hown (by omega) hbl fun v3 v4 w4 hown4 hB4 => ?_
        rw [← HX.out] at hown4
        have b24 := b2.below hB4 (Nat.lt_succ_self _)
        have hBw := hBr.trans (hB4.mono (Nat.le_succ _))
        clear hown hB4
        try simp only [Act.put, List.setIfInBounds_toArray, List.set_cons_succ, List.set_cons_zero]
        go_wp2_with fail
        exact ⟨⟨k + 1, by omega, by go_num, hown4, b24, hBw⟩, by simp [intOf]; omega⟩
      · have HX := Lib.hid (show (maskK key m).take (k + 1) = (maskK key m).take k ++ [m] by rw [List.take_add_one, maskK_high key m k hkl (by omega) hlt]; rfl)
        generalize (maskK key m).take k = l at *
        go_upto_region 8 with (fail)
        rw [show Value.slice A3 l.length c3 = Value.slice A3 k c3 by rw [hl]] at hown
        refine wp_region_lit ?_
        iterate 2 (refine wpList_plain rfl fun K hK => ?_; go_big_op; refine hK _ _ ?_; clear hK K)
        refine wpList_push (l := l) (c := m) rfl rfl _ _ _ rfl rfl rfl (fun _ => rfl) (fun _ => rfl) hown (by omega) hbl fun v3 v4 w4 hown4 hB4 => ?_
        rw [← HX.out] at hown4
        have b24 := b2.below hB4 (Nat.lt_succ_self _)
        have hBw := hBr.trans (hB4.mono (Nat.le_succ _))
        clear hown hB4
        try simp only [Act.put, List.setIfInBounds_toArray, List.set_cons_succ, List.set_cons_zero]
        go_wp2_with fail
        exact ⟨⟨k + 1, by omega, by go_num, hown4, b24, hBw⟩, by simp [intOf]; omega⟩
    · obtain rfl : k = 64 := by omega
      rw [List.take_of_length_le (by rw [HML.out]; exact Nat.le_refl _), HML.out] at hown
      rw [List.take_of_length_le (by rw [HML.out]; exact Nat.le_refl _), HML.out]
      go_wp2_with fail
      refine bodyPost_ret (v := .slice A3 64 c3) (by simp [results, Tryz.results118, go_sem]) rfl ⟨_, rfl, ?_, hBr⟩
      have hr := Rd.of_own hown (by decide) (Nat.le_refl _)
      unfold ByA ByS
      rw [HML.out]
      exact hr.wide (Nat.le_succ _) (Nat.le_refl _)
set_option maxRecDepth 100000 in
set_option maxHeartbeats 4000000 in
theorem rKeyed (key : Dg) (hk : DgOk key) (b : List Nat) (hb : b.length ≤ 900000) (hb8 : ∀ x ∈ b, x < 256) (v : Value) (lo hi : Nat) (w : World) (h : ByS lo hi w v b) : Calls Tryz.prog 88 #[dgv key, v] w (Ret (dgv (keyD key b)) w) := by
  obtain ⟨A, cap, rfl⟩ := h.len
  obtain ⟨Sk, hSk⟩ : ∃ S, S = dgv key := ⟨_, rfl⟩
  rw [← hSk]
  have HV := Lib.hid h
  have HK := Lib.hid hk
  have H81 := Lib.hid (show ∀ x ∈ maskK key 54 ++ b, x < 256 by
    intro x hx
    rcases List.mem_append.1 hx with hx | hx
    · exact maskK_lt key 54 hk (by decide) x hx
    · exact hb8 x hx)
  have HF1 := Lib.hid (show (maskK key 54 ++ b).length ≤ 1000000 by simp [maskK_len key 54 hk.1]; omega)
  obtain ⟨d, hd⟩ : ∃ d, d = sha (maskK key 54 ++ b) := ⟨_, rfl⟩
  have HD := Lib.hid hd
  have HDK := Lib.hid (show DgOk d by rw [hd]; exact ⟨sha_length _, sha_lt _⟩)
  have H82 := Lib.hid (show ∀ x ∈ maskK key 92 ++ d, x < 256 by
    intro x hx
    rcases List.mem_append.1 hx with hx | hx
    · exact maskK_lt key 92 hk (by decide) x hx
    · exact HDK.out.2 x hx)
  have HF2 := Lib.hid (show (maskK key 92 ++ d).length ≤ 1000000 by simp [maskK_len key 92 hk.1, HDK.out.1])
  have HE := Lib.hid (show sha (maskK key 92 ++ d) = keyD key b by rw [hd]; rfl)
  clear h hk hb8 hd
  go_enter Tryz.func88, Tryz.ntmps88
  go_upto_region 1 with (fail)
  refine wp_stk2 fun W hB hz b2 b4 => ?_
  have b2' : Blk W w.heap.size 23 (byc key).toArray := by first | exact b2 | (rw [hSk] at b2; exact b2)
  obtain ⟨cs0, hcs0, b4'⟩ : ∃ cs : Array Value, cs.size = 32 ∧ Blk W (w.heap.size + 1) 23 cs := ⟨_, rfl, b4⟩
  obtain ⟨i32', h32, i320, i321, i322⟩ := info_parts b32_info
  clear b2 b4 hz hSk
  have hkl := HK.out.1
  refine wp_region_lit ?_
  refine wpList_plain rfl fun K9 hK9 => wp_of_step (stepAt_mono (fun v6 w6 hh => ?_) (step_loadR0 (cs := byc key) b32_under rfl (by rw [b32_size, byc_length, hkl]) rfl rfl (blk_range b2')))
  obtain ⟨rfl, rfl⟩ := hh
  refine hK9 _ _ ?_
  clear hK9 K9
  try simp only [Act.put, List.setIfInBounds_toArray, List.set_cons_succ, List.set_cons_zero]
  refine wpList_plain rfl fun K10 hK10 => wp_of_step (stepAt_mono (fun v7 w7 hh => ?_) (step_callr en_attestor_attestorref07_Masked (rMasked key HK.out 54 (.inl rfl) _) rfl rfl))
  obtain ⟨s7, B7⟩ := hh
  refine hK10 _ _ ?_
  clear hK10 K10
  try simp only [Act.put, List.setIfInBounds_toArray, List.set_cons_succ, List.set_cons_zero]
  have hB7 := hB.trans (B7.mono hB.size)
  iterate 1 (refine wpList_plain rfl fun K hK => ?_; go_big_op; refine hK _ _ ?_; clear hK K)
  refine wpList_plain rfl fun K12 hK12 => wp_of_step (stepAt_mono (fun v9 w9 hh => ?_) (step_callr en_attestor_attestorref07_Join (rJoin (maskK key 54) b (by rw [maskK_len key 54 hkl]; decide) (by omega) _ _ _ _ _ _ w7 s7 (HV.out.keep hB7)) rfl rfl))
  obtain ⟨s9, B9⟩ := hh
  refine hK12 _ _ ?_
  clear hK12 K12
  try simp only [Act.put, List.setIfInBounds_toArray, List.set_cons_succ, List.set_cons_zero]
  have hB9 := hB7.trans (B9.mono hB7.size)
  refine wpList_plain rfl fun K13 hK13 => wp_of_step (stepAt_mono (fun v10 w10 hh => ?_) (step_callv en_attestor_attestorref07_Sum (rSum _ HF1.out H81.out _ _ _ w9 s9) rfl rfl))
  obtain ⟨rfl, B10⟩ := hh
  refine hK13 _ _ ?_
  clear hK13 K13
  try simp only [Act.put, List.setIfInBounds_toArray, List.set_cons_succ, List.set_cons_zero]
  have hB10 := hB9.trans (B10.mono hB9.size)
  rw [← HD.out]
  refine wpList_plain rfl fun K14 hK14 => wp_of_step (stepAt_mono (fun v5 w5 hh => ?_) (step_new0 h32 i320 rfl))
  obtain ⟨rfl, rfl⟩ := hh
  refine hK14 _ _ ?_
  clear hK14 K14
  try simp only [Act.put, List.setIfInBounds_toArray, List.set_cons_succ, List.set_cons_zero]
  have c5 : Blk (w10.alloc (.cells (Value.agg (zb 32).toArray).cells 23)) w10.heap.size 23 (zb 32).toArray := World.alloc_heap_new w10 _
  have BA := (Below.refl _ w10).alloc (Nat.le_refl _) (.cells (Value.agg (zb 32).toArray).cells 23)
  obtain ⟨g5, hg5⟩ : ∃ g, g = w10.heap.size := ⟨_, rfl⟩
  rw [← hg5] at c5 ⊢
  refine wpList_put rfl 23 (.tmp 5) (.tmp 10) rfl rfl (cells := byc d) rfl c5 (by rw [byc_length, HDK.out.1]; simp [zb]) (by rw [b32_size, byc_length, HDK.out.1]) (byc_all _) (spl_all _ _ (by rw [byc_length, HDK.out.1]; simp [zb])) fun X hX bX => ?_
  have h10 := hB10.size
  have hll := b2'.lt
  have hll4 := b4'.lt
  have hq : w6.heap.size ≤ g5 := by have := B7.size; have := B9.size; have := B10.size; omega
  have b2X := hX.blk ((((b2'.keep B7).keep B9).keep B10).keep BA) (by omega)
  have b4X := hX.blk ((((b4'.keep B7).keep B9).keep B10).keep BA) (by omega)
  have hBX : Below w.heap.size w X := below_put (hB10.trans (BA.mono h10)) hX (by omega)
  clear b2' b4' hB7 hB9 hB10 B7 B9 B10 BA hX c5 s7 s9 hg5 h10 hll hll4
  try simp only [Act.put, List.setIfInBounds_toArray, List.set_cons_succ, List.set_cons_zero]
  go_upto_region 2 with (fail)
  refine wp_region_rg 6 [(0, Spec.val (dgv key)), (1, Spec.rel (ByA (maskK key 92)) AnyV), (2, Spec.val (dgv d)), (3, Spec.rel (ByA d) AnyV), (4, Spec.rel (ByA (maskK key 92 ++ d)) AnyV), (5, Spec.val (dgv (sha (maskK key 92 ++ d))))] (by kernel_rfl) (by kernel_rfl) (by kernel_rfl) ⟨fit_of (by_st), fit_of (by_st), fit_of (by_st), trivial⟩ ?_
  refine rg_val rfl rfl (fun W1 hW1 hF => step_loadR (cs := byc key) b32_under rfl (by rw [b32_size, byc_length, hkl]) rfl rfl (blk_range (b2X.keep (grw_below hW1)))) ?_
  intro a' ha
  simp only [Act.put, List.setIfInBounds_toArray, List.set_cons_succ, List.set_cons_zero] at ha
  subst ha
  refine rg_rel rfl rfl (fun W1 hW1 hF => step_callr en_attestor_attestorref07_Masked (rMasked key HK.out 92 (.inr rfl) W1) rfl rfl) ?_
  intro n1 m1 v1 hn1 hm1 hd1 hf1 a' ha
  simp only [Act.put, List.setIfInBounds_toArray, List.set_cons_succ, List.set_cons_zero] at ha
  subst ha
  refine rg_val rfl rfl (fun W1 hW1 hF => step_loadR (cs := byc d) b32_under rfl (by rw [b32_size, byc_length, HDK.out.1]) rfl rfl (blk_range (bX.keep (grw_below hW1)))) ?_
  intro a' ha
  simp only [Act.put, List.setIfInBounds_toArray, List.set_cons_succ, List.set_cons_zero] at ha
  subst ha
  refine rg_rel rfl rfl (fun W1 hW1 hF => step_callr en_attestor_attestorref07_Bytes (rBytes d HDK.out.1 W1) rfl rfl) ?_
  intro n3 m3 v3 hn3 hm3 hd3 hf3 a' ha
  simp only [Act.put, List.setIfInBounds_toArray, List.set_cons_succ, List.set_cons_zero] at ha
  subst ha
  refine rg_rel rfl rfl (fun W1 hW1 hF => step_callr en_attestor_attestorref07_Join (rJoin (maskK key 92) d (by rw [maskK_len key 92 hkl]; decide) (by rw [HDK.out.1]; decide) _ _ _ _ _ _ W1 (pick_last (pick_init hF) (by kernel_rfl)).2 (pick_last hF (by kernel_rfl)).2) rfl rfl) ?_
  intro n4 m4 v4 hn4 hm4 hd4 hf4 a' ha
  simp only [Act.put, List.setIfInBounds_toArray, List.set_cons_succ, List.set_cons_zero] at ha
  subst ha
  refine rg_val rfl rfl (fun W1 hW1 hF => step_callv en_attestor_attestorref07_Sum (rSum _ HF2.out H82.out _ _ _ W1 (pick_last hF (by kernel_rfl)).2) rfl rfl) ?_
  intro a' ha
  simp only [Act.put, List.setIfInBounds_toArray, List.set_cons_succ, List.set_cons_zero] at ha
  subst ha
  refine rg_nil (fun w' hw' hF => ?_)
  obtain ⟨z, rfl⟩ := hw'
  simp only [List.drop_succ_cons, List.drop_zero]
  rw [HE.out]
  have b1z := b4X.gw z
  have hBz := hBX.trans (z.h.mono hBX.size)
  refine wpList_put rfl 23 (.tmp 4) (.tmp 16) rfl rfl (cells := byc (keyD key b)) rfl b1z (by rw [byc_length, keyD, sha_length, hcs0]; decide) (by rw [b32_size, byc_length, keyD, sha_length]) (byc_all _) (spl_all _ _ (by rw [hcs0, byc_length, keyD, sha_length])) fun Y hY bY => ?_
  have hBY := below_put hBz hY (by omega)
  clear hF b1z hBz b2X b4X bX
  go_wp2_with fail
  exact bodyPost_ret (v := dgv (keyD key b)) (res_row (g := w.heap.size + 1) rfl rfl b32_under rfl (by rw [b32_size, byc_length, keyD, sha_length]) bY) rfl ⟨rfl, hBY⟩
end Go.Proofs.YtoiampgfnidfdaaGreatDoor
