/-
  Slices that read as lists: of cells, of elements of the extension field, of raw pairs of words.
-/
import Derived.Test.YtnfiomccgakooaaDoorExt2
import Derived.Maps.AppendAt
import Derived.Deep.AppendLies
import Derived.OwnWalk
import Derived.Laws.MakeOwn
namespace Go.Proofs.YtnfiomccgakooaaDoor
open Go.RowKit

theorem Blk.keep {w w' : World} {g : Nat} {t : TypeId} {cs : Array Value} (h : Blk w g t cs) (hb : Below w.heap.size w w') : Blk w' g t cs := h.below hb h.lt
theorem blk_set2 {w : World} {g : Nat} {t : TypeId} {a b c d : Value} (h : Blk w g t #[a, b]) : Blk ((w.setCell ⟨g, 0, none⟩ c).setCell ⟨g, 1, none⟩ d) g t #[c, d] := (h.set_ 0 c).set_ 1 d
theorem blk_far2 {w : World} {g g' : Nat} {t : TypeId} {cs : Array Value} {c d : Value} (h : Blk w g t cs) (hne : g ≠ g') : Blk ((w.setCell ⟨g', 0, none⟩ c).setCell ⟨g', 1, none⟩ d) g t cs := (h.far (p := ⟨g', 0, none⟩) hne c).far (p := ⟨g', 1, none⟩) hne d
theorem below_set2 {N : Nat} {a w : World} {g : Nat} {c d : Value} (h : Below N a w) (hN : N ≤ g) : Below N a ((w.setCell ⟨g, 0, none⟩ c).setCell ⟨g, 1, none⟩ d) := (h.setCell (p := ⟨g, 0, none⟩) hN c).setCell (p := ⟨g, 1, none⟩) hN d
theorem get_of {l : List E} {k : Nat} (h : k < l.length) : ∃ x, l[k]? = some x ∧ l.getD k 0 = x := ⟨l[k], List.getElem?_eq_getElem h, by simp [List.getD, h]⟩
/-- The slice value v reads as n elements of 'size' cells each, the cells cs, in a block from lo on and below hi. -/
def Rd (lo hi size : Nat) (w : World) (v : Value) (n : Nat) (cs : List Value) : Prop :=
  cs.length = n * size ∧ n ≤ 140737488355327 ∧ ∃ A cap, v = .slice A n cap ∧ n ≤ cap ∧ (0 < n → ∃ g off, A = some ⟨g, off, none⟩ ∧ lo ≤ g ∧ g < hi ∧ g < w.heap.size ∧ ∀ j u, cs[j]? = some u → w.cell? ⟨g, off + j, none⟩ = some u)
theorem Rd.below {lo hi size n N : Nat} {w w' : World} {v : Value} {cs : List Value} (h : Rd lo hi size w v n cs) (hb : Below N w w') (hN : hi ≤ N) : Rd lo hi size w' v n cs := by
  obtain ⟨h1, h2, A, cap, h3, h4, h5⟩ := h
  refine ⟨h1, h2, A, cap, h3, h4, fun h0 => ?_⟩
  obtain ⟨g, off, q1, q2, q3, q4, q5⟩ := h5 h0
  exact ⟨g, off, q1, q2, q3, Nat.lt_of_lt_of_le q4 hb.size, fun j u hu => (hb.cell (p := ⟨g, off + j, none⟩) (Nat.lt_of_lt_of_le q3 hN)).trans (q5 j u hu)⟩
theorem Rd.wide {lo hi lo' hi' size n : Nat} {w : World} {v : Value} {cs : List Value} (h : Rd lo hi size w v n cs) (h1 : lo' ≤ lo) (h2 : hi ≤ hi') : Rd lo' hi' size w v n cs := by
  obtain ⟨q1, q2, A, cap, q3, q4, q5⟩ := h
  refine ⟨q1, q2, A, cap, q3, q4, fun h0 => ?_⟩
  obtain ⟨g, off, r1, r2, r3, r4, r5⟩ := q5 h0
  exact ⟨g, off, r1, by omega, by omega, r4, r5⟩
/-- What has grown since keeps it, wherever it lies. -/
theorem Rd.keep {lo hi size n : Nat} {w w' : World} {v : Value} {cs : List Value} (h : Rd lo hi size w v n cs) (hb : Below w.heap.size w w') : Rd lo hi size w' v n cs := by
  obtain ⟨h1, h2, A, cap, h3, h4, h5⟩ := h
  refine ⟨h1, h2, A, cap, h3, h4, fun h0 => ?_⟩
  obtain ⟨g, off, q1, q2, q3, q4, q5⟩ := h5 h0
  exact ⟨g, off, q1, q2, q3, Nat.lt_of_lt_of_le q4 hb.size, fun j u hu => (hb.cell (p := ⟨g, off + j, none⟩) q4).trans (q5 j u hu)⟩
/-- Another block may turn. -/
theorem Rd.other {lo hi size n : Nat} {w w' : World} {v : Value} {cs : List Value} (h : Rd lo hi size w v n cs) (hs : w.heap.size ≤ w'.heap.size) (hb : ∀ g, lo ≤ g → g < hi → g < w.heap.size → w'.heap[g]? = w.heap[g]?) : Rd lo hi size w' v n cs := by
  obtain ⟨h1, h2, A, cap, h3, h4, h5⟩ := h
  refine ⟨h1, h2, A, cap, h3, h4, fun h0 => ?_⟩
  obtain ⟨g, off, q1, q2, q3, q4, q5⟩ := h5 h0
  exact ⟨g, off, q1, q2, q3, by omega, fun j u hu => (World.cell?_of_block (w := w) (a := ⟨g, off + j, none⟩) (hb g q2 q3 q4)).trans (q5 j u hu)⟩
theorem Rd.form {lo hi size n : Nat} {w : World} {v : Value} {cs : List Value} (h : Rd lo hi size w v n cs) (h0 : 0 < n) : ∃ g off cap, v = .slice (some ⟨g, off, none⟩) n cap ∧ n ≤ cap ∧ lo ≤ g ∧ g < hi ∧ g < w.heap.size ∧ ∀ j u, cs[j]? = some u → w.cell? ⟨g, off + j, none⟩ = some u := by
  obtain ⟨_, _, A, cap, h3, h4, h5⟩ := h
  obtain ⟨g, off, rfl, q⟩ := h5 h0
  exact ⟨g, off, cap, h3, h4, q⟩
theorem Rd.len {lo hi size n : Nat} {w : World} {v : Value} {cs : List Value} (h : Rd lo hi size w v n cs) : ∃ A cap, v = .slice A n cap := by
  obtain ⟨_, _, A, cap, h3, _⟩ := h
  exact ⟨A, cap, h3⟩
theorem rd_nil (lo hi size : Nat) (w : World) (A : Option Addr) (cap : Nat) : Rd lo hi size w (.slice A 0 cap) 0 [] :=
  ⟨by simp, by omega, A, cap, rfl, Nat.zero_le _, fun h => absurd h (by omega)⟩
theorem Rd.of_own {base hi size n : Nat} {e : TypeId} {w : World} {v : Value} {cs : List Value} (h : w.ownsRow base e size v n cs) (hn : n ≤ 140737488355327) (hh : w.heap.size ≤ hi) : Rd base hi size w v n cs := by
  obtain ⟨h1, h2⟩ := h
  rcases h2 with ⟨rfl, rfl⟩ | ⟨g, cap, cur, rfl, hb, hc, hnc, _, hcur, rfl⟩
  · exact ⟨h1, by omega, none, 0, rfl, Nat.le_refl _, fun h => absurd h (by omega)⟩
  · have hg : g < w.heap.size := (Array.getElem?_eq_some_iff.1 hc).1
    refine ⟨h1, hn, some ⟨g, 0, none⟩, cap, rfl, hnc, fun _ => ⟨g, 0, rfl, hb, by omega, hg, fun j u hu => ?_⟩⟩
    rw [Nat.zero_add, cell_of_row w g j cur e (0, 0) hc]
    rw [List.getElem?_take] at hu
    split at hu
    · simpa using hu
    · cases hu

/-! ### Elements, each of some cells -/
theorem flat_length {α : Type} {f : α → List Value} {size : Nat} (hf : ∀ x, (f x).length = size) : ∀ xs : List α, (xs.flatMap f).length = xs.length * size
  | [] => by simp
  | x :: xs => by rw [List.flatMap_cons, List.length_append, hf, flat_length hf xs, List.length_cons, Nat.succ_mul]; omega
theorem flat_get {α : Type} {f : α → List Value} {size : Nat} (hf : ∀ x, (f x).length = size) : ∀ (xs : List α) (k j : Nat) (x : α) (u : Value), xs[k]? = some x → (f x)[j]? = some u → (xs.flatMap f)[k * size + j]? = some u
  | [], k, j, x, u, h, _ => by simp at h
  | y :: xs, 0, j, x, u, h, hu => by
    simp only [List.getElem?_cons_zero, Option.some.injEq] at h
    subst h
    have hj : j < (f y).length := (List.getElem?_eq_some_iff.1 hu).1
    rw [List.flatMap_cons, Nat.zero_mul, Nat.zero_add, List.getElem?_append_left hj]
    exact hu
  | y :: xs, k + 1, j, x, u, h, hu => by
    rw [List.flatMap_cons, List.getElem?_append_right (by rw [hf, Nat.succ_mul]; omega), hf]
    have : (k + 1) * size + j - size = k * size + j := by rw [Nat.succ_mul]; omega
    rw [this]
    exact flat_get hf xs k j x u (by simpa using h) hu

def ec (x : E) : List Value := [.int .u64 (fv x.a), .int .u64 (fv x.b)]
theorem ec_len (x : E) : (ec x).length = 2 := rfl
/-- A slice of elements. -/
def ExtS (lo hi : Nat) (w : World) (v : Value) (xs : List E) : Prop := Rd lo hi 2 w v xs.length (xs.flatMap ec)
theorem exts_cells {lo hi : Nat} {w : World} {v : Value} {xs : List E} (h : ExtS lo hi w v xs) (h0 : 0 < xs.length) : ∃ g off cap, v = .slice (some ⟨g, off, none⟩) xs.length cap ∧ xs.length ≤ cap ∧ lo ≤ g ∧ g < hi ∧ g < w.heap.size ∧
    ∀ k x, xs[k]? = some x → w.cell? ⟨g, off + k * 2, none⟩ = some (.int .u64 (fv x.a)) ∧ w.cell? ⟨g, off + k * 2 + 1, none⟩ = some (.int .u64 (fv x.b)) := by
  obtain ⟨g, off, cap, q1, q2, q3, q4, q5, q6⟩ := Rd.form h h0
  refine ⟨g, off, cap, q1, q2, q3, q4, q5, fun k x hx => ⟨?_, ?_⟩⟩
  · exact q6 (k * 2) _ (by simpa using flat_get ec_len xs k 0 x _ hx rfl)
  · have := q6 (k * 2 + 1) _ (flat_get ec_len xs k 1 x _ hx rfl)
    rwa [← Nat.add_assoc] at this
/-- A raw pair of words, as it may come in. -/
abbrev Raw := Int × Int
def rc (p : Raw) : List Value := [.int .u64 p.1, .int .u64 p.2]
theorem rc_len (x : Raw) : (rc x).length = 2 := rfl
def Word (a : Int) : Prop := 0 ≤ a ∧ a < 18446744073709551616
def RawS (lo hi : Nat) (w : World) (v : Value) (xs : List Raw) : Prop := Rd lo hi 2 w v xs.length (xs.flatMap rc) ∧ ∀ p ∈ xs, Word p.1 ∧ Word p.2
theorem raws_cells {lo hi : Nat} {w : World} {v : Value} {xs : List Raw} (h : RawS lo hi w v xs) (h0 : 0 < xs.length) : ∃ g off cap, v = .slice (some ⟨g, off, none⟩) xs.length cap ∧ xs.length ≤ cap ∧ lo ≤ g ∧ g < hi ∧ g < w.heap.size ∧
    ∀ k x, xs[k]? = some x → w.cell? ⟨g, off + k * 2, none⟩ = some (.int .u64 x.1) ∧ w.cell? ⟨g, off + k * 2 + 1, none⟩ = some (.int .u64 x.2) := by
  obtain ⟨g, off, cap, q1, q2, q3, q4, q5, q6⟩ := Rd.form h.1 h0
  refine ⟨g, off, cap, q1, q2, q3, q4, q5, fun k x hx => ⟨?_, ?_⟩⟩
  · exact q6 (k * 2) _ (by simpa using flat_get rc_len xs k 0 x _ hx rfl)
  · have := q6 (k * 2 + 1) _ (flat_get rc_len xs k 1 x _ hx rfl)
    rwa [← Nat.add_assoc] at this

/-- Raw pairs made into elements: exactly n, the missing ones zero. -/
def madeAt (l : List Raw) (i : Nat) : E := match l[i]? with | some p => em p.1 p.2 | none => 0
def madeAll (l : List Raw) (n : Nat) : List E := (List.range n).map (madeAt l)
theorem madeAll_succ (l : List Raw) (n : Nat) : madeAll l (n + 1) = madeAll l n ++ [madeAt l n] := by simp [madeAll, List.range_succ]
theorem madeAll_length (l : List Raw) (n : Nat) : (madeAll l n).length = n := by simp [madeAll]
theorem ext_info : (Tryd.prog.info? 27).map (fun i => (i.zero, i.size, i.bytes)) = some (some (.agg #[.int .u64 0, .int .u64 0]), 2, 16) := by kernel_rfl

theorem own_below {w w' : World} {base n size N : Nat} {e : TypeId} {v : Value} {xs : List Value} (h : w.ownsRow base e size v n xs) (hN : w.heap.size ≤ N) (hb : Below N w w') : w'.ownsRow base e size v n xs := by
  obtain ⟨h1, h2⟩ := h
  refine ⟨h1, h2.imp id ?_⟩
  rintro ⟨g, cap, cur, q1, q2, q3, q4⟩
  have hg : g < w.heap.size := (Array.getElem?_eq_some_iff.1 q3).1
  exact ⟨g, cap, cur, q1, q2, (hb.block g (by omega)).trans q3, q4⟩
theorem own_block {w : World} {base n size g : Nat} {e : TypeId} {v : Value} {xs : List Value} (h : w.ownsRow base e size v n xs) (hg : v.ownBlock = some g) : base ≤ g ∧ g < w.heap.size := by
  rcases h.2 with ⟨rfl, _⟩ | ⟨g', cap, cur, rfl, q1, q3, _⟩
  · cases hg
  · simp only [Value.ownBlock, Option.some.injEq] at hg
    subst hg
    exact ⟨q1, (Array.getElem?_eq_some_iff.1 q3).1⟩
theorem blk_news {X : World} {n : Nat} {e : TypeId} {cl : List Value} (h : Blk X n e cl.toArray) : ∀ j u, cl[j]? = some u → X.cell? (Addr.add ⟨n, 0, none⟩ j) = some u := fun j u hu => by
  have : Addr.add ⟨n, 0, none⟩ j = ⟨n, j, none⟩ := by
    unfold Addr.add
    by_cases hj : j = 0
    · subst hj; simp
    · simp [hj]
  rw [this, h.cell]
  simpa using hu
/-- append of one element, which lies in a block of its own, to a row of the call's own. -/
theorem wpList_app1 {P : Program} {ops : Array Oper} {rest : List Oper} {o : Oper} {a : Act} {Q : Exit → Act → World → Prop} {X : World} {n base k size bytes : Nat} {t e : TypeId} {i : TypeInfo} {z : Value} {cl cs : List Value} {u : Value} (hgd : o.guard = none) (s x : Operand)
    (ho : o.op = .call { callee := .builtin .append, args := #[s, x], argTypes := #[t, t] }) (ht : P.underlying t = some (.slice e)) (hi : P.info? e = some i) (hz : i.zero = some z) (hsize : i.size = size) (hby : i.bytes = bytes) (hzs : z.cells.size = size) (hsz : 0 < size)
    (hcl : cl.length = 1 * size) (h1 : ∀ u ∈ cl, u.oneCell' = true) (hs : a.eval s = u) (hx : a.eval x = .slice (some ⟨n, 0, none⟩) 1 1) (hown : X.ownsRow base e size u k cs) (hsrc : Blk X n e cl.toArray) (hk : k + 1 ≤ maxLen) (hk2 : (k + 1) * bytes ≤ 140737488355328) (hbase : base ≤ X.heap.size)
    (h : ∀ v' w', w'.ownsRow base e size v' (k + 1) (cs ++ cl) → X.grownBy w' u.ownBlock → Below base X w' → wpList P ops Q rest (a.put o.dst v') w') : wpList P ops Q (o :: rest) a X := by
  refine wpList_append_own _ hgd s x t ho base e i z size bytes ht hi hz hsize hby hzs hsz u k cs hs hown ⟨n, 0, none⟩ 1 1 cl hx hcl (blk_news hsrc) h1 hk hk2 hbase ?_
  intro v' w' hown' hgrow _
  exact h v' w' hown' hgrow ((Below.refl _ _).grown hgrow hbase (fun g hg => (own_block hown hg).1))
theorem ec_one (x : E) : ∀ u ∈ ec x, u.oneCell' = true := by
  intro u hu
  simp only [ec, List.mem_cons, List.not_mem_nil, or_false] at hu
  rcases hu with rfl | rfl <;> rfl

set_option maxRecDepth 100000 in
set_option maxHeartbeats 1000000 in
theorem xMadeAllO (l : List Raw) (n : Nat) (hn : n ≤ 1000) (v : Value) (N : Nat) (w : World) (hl : RawS 0 N w v l) (_hN : N ≤ w.heap.size) :
    Calls Tryd.prog 34 #[v, .int .i64 n] w (RetR (fun lo _ v w => w.ownsRow lo 27 2 v n ((madeAll l n).flatMap ec)) w) := by
  obtain ⟨A, cap, rfl⟩ := hl.1.len
  have hlen := hl.1.2.1
  obtain ⟨i0, hi0, hz0, hz1, hz2⟩ := info_parts ext_info
  go_enter Tryd.func34, Tryd.ntmps34
  go_wp2
  go_loopw [5, 6] (fun v i wr => ∃ k : Nat, k ≤ n ∧ i = .int .i64 k ∧ wr.ownsRow w.heap.size 27 2 v k ((madeAll l k).flatMap ec) ∧ Below w.heap.size w wr) (fun _ i _ => n - (intOf i).toNat)
  case atStart => exact ⟨0, Nat.zero_le _, rfl, ⟨by simp [madeAll], .inr ⟨w.heap.size, 0, #[], rfl, Nat.le_refl _, World.alloc_heap_new w _, Nat.le_refl _, Nat.zero_le _, rfl, by simp [madeAll]⟩⟩, (Below.refl _ _).alloc (Nat.le_refl _) _⟩
  case round =>
    obtain ⟨k, hk, rfl, hown, hB⟩ := hrel
    by_cases hlt : k < n
    · by_cases hkl : k < l.length
      · obtain ⟨g, off, cap', hv, q1, q2, q3, q4, q5⟩ := raws_cells hl (by omega)
        cases hv
        obtain ⟨p, hp⟩ : ∃ p, l[k]? = some p := ⟨l[k], List.getElem?_eq_getElem hkl⟩
        obtain ⟨d1, d2⟩ := q5 k p hp
        obtain ⟨⟨p1, p2⟩, p3, p4⟩ := hl.2 p (List.mem_of_getElem? hp)
        have d3 := (hB.cell (p := ⟨g, off + k * 2, none⟩) q4).trans d1
        have d4 := (hB.cell (p := ⟨g, off + k * 2 + 1, none⟩) q4).trans d2
        have q6 : g < wr.heap.size := Nat.lt_of_lt_of_le q4 hB.size
        have HP := Lib.hid hp
        clear q5 d1 d2 hl hp
        go_wp2_with fail
        refine calls_stk1 fun W hBW hzW bW => ?_
        refine (xMade p.1 p.2 p1 p2 p3 p4 _).mono ?_
        rintro e w2 ⟨he, hb⟩
        unfold ev at he
        subst he
        have bW2 := bW.below hb bW.lt
        have e1 := bW2.cell
        have e2 := bW2.frozen
        have hB2 : Below wr.heap.size wr w2 := hBW.trans (hb.mono hBW.size)
        have hz2' : wr.heap.size < w2.heap.size := bW2.lt
        go_wp2_with (at_builtin; refine wpList_app1 rfl _ _ rfl Tryd.underlying22 hi0 hz0 hz1 hz2 rfl (by decide) (cl := ec (em p.1 p.2)) rfl (ec_one _) rfl rfl (own_below hown (Nat.le_refl _) ?hX) ?hsrc ?h63 ?hby ?hbase ?_)
        case hX => exact ((hB2.setCell (by show wr.heap.size ≤ wr.heap.size; omega) _).setCell (by show wr.heap.size ≤ wr.heap.size; omega) _).alloc (by simp; omega) _
        case hsrc => exact Blk.new_at _ _ _ (by simp)
        case h63 => unfold maxLen; omega
        case hby => omega
        case hbase => have := hB.size; simp; omega
        intro v1 w3 hown3 hgrow hB3
        have hm : madeAt l k = em p.1 p.2 := by unfold madeAt; rw [HP.out]
        have hf : (madeAll l (k + 1)).flatMap ec = (madeAll l k).flatMap ec ++ ec (em p.1 p.2) := by rw [madeAll_succ, List.flatMap_append, hm]; simp
        have HF := Lib.hid hf
        clear hm hf
        go_wp2
        exact ⟨⟨k + 1, by omega, by go_num, by rw [HF.out]; exact hown3, (hB.trans ((((hB2.setCell (by show wr.heap.size ≤ wr.heap.size; omega) _).setCell (by show wr.heap.size ≤ wr.heap.size; omega) _).alloc (by simp; omega) _).mono hB.size)).trans hB3⟩, by simp [intOf]; omega⟩
      · clear hl
        go_wp2_with (at_builtin; refine wpList_app1 rfl _ _ rfl Tryd.underlying22 hi0 hz0 hz1 hz2 rfl (by decide) (cl := ec 0) rfl (ec_one _) rfl rfl (own_below hown (Nat.le_refl _) ?hX) ?hsrc ?h63 ?hby ?hbase ?_)
        case hX => exact ((Below.refl _ _).alloc (by simp) _).alloc (by simp) _
        case hsrc => exact Blk.new_at _ _ _ (by simp)
        case h63 => unfold maxLen; omega
        case hby => omega
        case hbase => have := hB.size; simp; omega
        intro v1 w3 hown3 hgrow hB3
        have hm : madeAt l k = 0 := by unfold madeAt; rw [List.getElem?_eq_none (by omega)]
        have hf : (madeAll l (k + 1)).flatMap ec = (madeAll l k).flatMap ec ++ ec 0 := by rw [madeAll_succ, List.flatMap_append, hm]; simp
        have HF := Lib.hid hf
        clear hm hf
        go_wp2
        exact ⟨⟨k + 1, by omega, by go_num, by rw [HF.out]; exact hown3, (hB.trans ((((Below.refl _ _).alloc (by simp) _).alloc (by simp) _).mono hB.size)).trans hB3⟩, by simp [intOf]; omega⟩
    · go_wp2
      obtain rfl : k = n := by omega
      go_ret
      exact ⟨u5, rfl, hown, hB⟩
theorem exts_of_own {base hi n : Nat} {e : TypeId} {w : World} {v : Value} {xs : List E} (h : w.ownsRow base e 2 v n (xs.flatMap ec)) (hl : xs.length = n) (hn : n ≤ 140737488355327) (hh : w.heap.size ≤ hi) : ExtS base hi w v xs := by
  have := Rd.of_own h hn hh
  unfold ExtS
  rw [hl]
  exact this
theorem xMadeAll (l : List Raw) (n : Nat) (hn : n ≤ 1000) (v : Value) (N : Nat) (w : World) (hl : RawS 0 N w v l) (hN : N ≤ w.heap.size) :
    Calls Tryd.prog 34 #[v, .int .i64 n] w (RetR (fun lo hi v w => ExtS lo hi w v (madeAll l n)) w) :=
  (xMadeAllO l n hn v N w hl hN).mono fun e w' ⟨v, h1, h2, h3⟩ => ⟨v, h1, exts_of_own h2 (madeAll_length l n) (by omega) (Nat.le_refl _), h3⟩
/-- A slice of the call's own: its elements, and the block in which it lies whole. -/
def CloneA (t : List E) (lo hi : Nat) (v : Value) (w : World) : Prop := ∃ g cap rest, v = .slice (some ⟨g, 0, none⟩) t.length cap ∧ t.length ≤ cap ∧ lo ≤ g ∧ g < hi ∧ Blk w g 27 (t.flatMap ec ++ rest).toArray
theorem stable_clone (t : List E) : Stable (CloneA t) := fun _ _ _ _ _ h hb => by
  obtain ⟨g, cap, rest, h1, h2, h3, h4, h5⟩ := h
  exact ⟨g, cap, rest, h1, h2, h3, h4, h5.below hb h4⟩
def OwnX (t : List E) (lo hi : Nat) (v : Value) (w : World) : Prop := ExtS lo hi w v t ∧ (0 < t.length → CloneA t lo hi v w)
theorem ownX_of_own {base n : Nat} {w : World} {v : Value} {xs : List E} (h : w.ownsRow base 27 2 v n (xs.flatMap ec)) (hl : xs.length = n) (hn : n ≤ 140737488355327) : OwnX xs base w.heap.size v w := by
  refine ⟨exts_of_own h hl hn (Nat.le_refl _), fun h0 => ?_⟩
  subst hl
  obtain ⟨h1, h2⟩ := h
  rcases h2 with ⟨_, h2⟩ | ⟨g, cap, cur, rfl, r1, r2, r3, r4, r5, r6⟩
  · omega
  · refine ⟨g, cap, cur.toList.drop (xs.length * 2), rfl, r3, r1, (Array.getElem?_eq_some_iff.1 r2).1, ?_⟩
    rw [← r6, List.take_append_drop]
    exact r2
theorem xMadeAllW (l : List Raw) (n : Nat) (hn : n ≤ 1000) (v : Value) (N : Nat) (w : World) (hl : RawS 0 N w v l) (hN : N ≤ w.heap.size) :
    Calls Tryd.prog 34 #[v, .int .i64 n] w (RetR (OwnX (madeAll l n)) w) :=
  (xMadeAllO l n hn v N w hl hN).mono fun e w' ⟨v, h1, h2, h3⟩ => ⟨v, h1, ownX_of_own h2 (madeAll_length l n) (by omega), h3⟩
end Go.Proofs.YtnfiomccgakooaaDoor
