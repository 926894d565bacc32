/-
  Slices that read as lists: of cells, of elements of the extension field, of raw pairs of words.
  The reference of package mle: equality of points, vertices.
  The reference of package mle, further: vertices, the equality of a vertex and a point; the polynomial of a gate.
  Gates: slices of them, as they come in and as they are made; slice literals and new blocks in a region.
-/
import Derived.Test.YtnddfeidggcplaaGreatExt2
import Derived.Maps.AppendAt
import Derived.Deep.AppendLies
import Derived.OwnWalk
import Derived.Laws.MakeOwn
import Derived.Great.BuildSlice
import Derived.Deep.MidRow
namespace Go.Proofs.YtnddfeidggcplaaGreat
open Go.RowKit

theorem Blk.keep {w w' : World} {g : Nat} {t : TypeId} {cs : Array Value} (h : Blk w g t cs) (hb : Below w.heap.size w w') : Blk w' g t cs := h.below hb h.lt
theorem blk_set2 {w : World} {g : Nat} {t : TypeId} {a b c d : Value} (h : Blk w g t #[a, b]) : Blk ((w.setCell ⟨g, 0, none⟩ c).setCell ⟨g, 1, none⟩ d) g t #[c, d] := (h.set_ 0 c).set_ 1 d
theorem blk_far2 {w : World} {g g' : Nat} {t : TypeId} {cs : Array Value} {c d : Value} (h : Blk w g t cs) (hne : g ≠ g') : Blk ((w.setCell ⟨g', 0, none⟩ c).setCell ⟨g', 1, none⟩ d) g t cs := (h.far (p := ⟨g', 0, none⟩) hne c).far (p := ⟨g', 1, none⟩) hne d
theorem below_set2 {N : Nat} {a w : World} {g : Nat} {c d : Value} (h : Below N a w) (hN : N ≤ g) : Below N a ((w.setCell ⟨g, 0, none⟩ c).setCell ⟨g, 1, none⟩ d) := (h.setCell (p := ⟨g, 0, none⟩) hN c).setCell (p := ⟨g, 1, none⟩) hN d
theorem get_of {l : List E} {k : Nat} (h : k < l.length) : ∃ x, l[k]? = some x ∧ l.getD k 0 = x := ⟨l[k], List.getElem?_eq_getElem h, by simp [List.getD, h]⟩
/-- The slice value v reads as n elements of 'size' cells each, the cells cs, in a block from lo on and below hi. -/
def Rd (lo hi size : Nat) (w : World) (v : Value) (n : Nat) (cs : List Value) : Prop :=
  cs.length = n * size ∧ n ≤ 140737488355327 ∧ ∃ A cap, v = .slice A n cap ∧ n ≤ cap ∧ (0 < n → ∃ g off, A = some ⟨g, off, none⟩ ∧ lo ≤ g ∧ g < hi ∧ g < w.heap.size ∧ ∀ j u, cs[j]? = some u → w.cell? ⟨g, off + j, none⟩ = some u)
theorem Rd.below {lo hi size n N : Nat} {w w' : World} {v : Value} {cs : List Value} (h : Rd lo hi size w v n cs) (hb : Below N w w') (hN : hi ≤ N) : Rd lo hi size w' v n cs := by
  obtain ⟨h1, h2, A, cap, h3, h4, h5⟩ := h
  refine ⟨h1, h2, A, cap, h3, h4, fun h0 => ?_⟩
  obtain ⟨g, off, q1, q2, q3, q4, q5⟩ := h5 h0
  exact ⟨g, off, q1, q2, q3, Nat.lt_of_lt_of_le q4 hb.size, fun j u hu => (hb.cell (p := ⟨g, off + j, none⟩) (Nat.lt_of_lt_of_le q3 hN)).trans (q5 j u hu)⟩
theorem Rd.wide {lo hi lo' hi' size n : Nat} {w : World} {v : Value} {cs : List Value} (h : Rd lo hi size w v n cs) (h1 : lo' ≤ lo) (h2 : hi ≤ hi') : Rd lo' hi' size w v n cs := by
  obtain ⟨q1, q2, A, cap, q3, q4, q5⟩ := h
  refine ⟨q1, q2, A, cap, q3, q4, fun h0 => ?_⟩
  obtain ⟨g, off, r1, r2, r3, r4, r5⟩ := q5 h0
  exact ⟨g, off, r1, by omega, by omega, r4, r5⟩
/-- What has grown since keeps it, wherever it lies. -/
theorem Rd.keep {lo hi size n : Nat} {w w' : World} {v : Value} {cs : List Value} (h : Rd lo hi size w v n cs) (hb : Below w.heap.size w w') : Rd lo hi size w' v n cs := by
  obtain ⟨h1, h2, A, cap, h3, h4, h5⟩ := h
  refine ⟨h1, h2, A, cap, h3, h4, fun h0 => ?_⟩
  obtain ⟨g, off, q1, q2, q3, q4, q5⟩ := h5 h0
  exact ⟨g, off, q1, q2, q3, Nat.lt_of_lt_of_le q4 hb.size, fun j u hu => (hb.cell (p := ⟨g, off + j, none⟩) q4).trans (q5 j u hu)⟩
/-- Another block may turn. -/
theorem Rd.other {lo hi size n : Nat} {w w' : World} {v : Value} {cs : List Value} (h : Rd lo hi size w v n cs) (hs : w.heap.size ≤ w'.heap.size) (hb : ∀ g, lo ≤ g → g < hi → g < w.heap.size → w'.heap[g]? = w.heap[g]?) : Rd lo hi size w' v n cs := by
  obtain ⟨h1, h2, A, cap, h3, h4, h5⟩ := h
  refine ⟨h1, h2, A, cap, h3, h4, fun h0 => ?_⟩
  obtain ⟨g, off, q1, q2, q3, q4, q5⟩ := h5 h0
  exact ⟨g, off, q1, q2, q3, by omega, fun j u hu => (World.cell?_of_block (w := w) (a := ⟨g, off + j, none⟩) (hb g q2 q3 q4)).trans (q5 j u hu)⟩
theorem Rd.form {lo hi size n : Nat} {w : World} {v : Value} {cs : List Value} (h : Rd lo hi size w v n cs) (h0 : 0 < n) : ∃ g off cap, v = .slice (some ⟨g, off, none⟩) n cap ∧ n ≤ cap ∧ lo ≤ g ∧ g < hi ∧ g < w.heap.size ∧ ∀ j u, cs[j]? = some u → w.cell? ⟨g, off + j, none⟩ = some u := by
  obtain ⟨_, _, A, cap, h3, h4, h5⟩ := h
  obtain ⟨g, off, rfl, q⟩ := h5 h0
  exact ⟨g, off, cap, h3, h4, q⟩
theorem Rd.len {lo hi size n : Nat} {w : World} {v : Value} {cs : List Value} (h : Rd lo hi size w v n cs) : ∃ A cap, v = .slice A n cap := by
  obtain ⟨_, _, A, cap, h3, _⟩ := h
  exact ⟨A, cap, h3⟩
theorem rd_nil (lo hi size : Nat) (w : World) (A : Option Addr) (cap : Nat) : Rd lo hi size w (.slice A 0 cap) 0 [] :=
  ⟨by simp, by omega, A, cap, rfl, Nat.zero_le _, fun h => absurd h (by omega)⟩
theorem Rd.of_own {base hi size n : Nat} {e : TypeId} {w : World} {v : Value} {cs : List Value} (h : w.ownsRow base e size v n cs) (hn : n ≤ 140737488355327) (hh : w.heap.size ≤ hi) : Rd base hi size w v n cs := by
  obtain ⟨h1, h2⟩ := h
  rcases h2 with ⟨rfl, rfl⟩ | ⟨g, cap, cur, rfl, hb, hc, hnc, _, hcur, rfl⟩
  · exact ⟨h1, by omega, none, 0, rfl, Nat.le_refl _, fun h => absurd h (by omega)⟩
  · have hg : g < w.heap.size := (Array.getElem?_eq_some_iff.1 hc).1
    refine ⟨h1, hn, some ⟨g, 0, none⟩, cap, rfl, hnc, fun _ => ⟨g, 0, rfl, hb, by omega, hg, fun j u hu => ?_⟩⟩
    rw [Nat.zero_add, cell_of_row w g j cur e (0, 0) hc]
    rw [List.getElem?_take] at hu
    split at hu
    · simpa using hu
    · cases hu

/-! ### Elements, each of some cells -/
theorem flat_length {α : Type} {f : α → List Value} {size : Nat} (hf : ∀ x, (f x).length = size) : ∀ xs : List α, (xs.flatMap f).length = xs.length * size
  | [] => by simp
  | x :: xs => by rw [List.flatMap_cons, List.length_append, hf, flat_length hf xs, List.length_cons, Nat.succ_mul]; omega
theorem flat_get {α : Type} {f : α → List Value} {size : Nat} (hf : ∀ x, (f x).length = size) : ∀ (xs : List α) (k j : Nat) (x : α) (u : Value), xs[k]? = some x → (f x)[j]? = some u → (xs.flatMap f)[k * size + j]? = some u
  | [], k, j, x, u, h, _ => by simp at h
  | y :: xs, 0, j, x, u, h, hu => by
    simp only [List.getElem?_cons_zero, Option.some.injEq] at h
    subst h
    have hj : j < (f y).length := (List.getElem?_eq_some_iff.1 hu).1
    rw [List.flatMap_cons, Nat.zero_mul, Nat.zero_add, List.getElem?_append_left hj]
    exact hu
  | y :: xs, k + 1, j, x, u, h, hu => by
    rw [List.flatMap_cons, List.getElem?_append_right (by rw [hf, Nat.succ_mul]; omega), hf]
    have : (k + 1) * size + j - size = k * size + j := by rw [Nat.succ_mul]; omega
    rw [this]
    exact flat_get hf xs k j x u (by simpa using h) hu

def ec (x : E) : List Value := [.int .u64 (fv x.a), .int .u64 (fv x.b)]
theorem ec_len (x : E) : (ec x).length = 2 := rfl
/-- A slice of elements. -/
def ExtS (lo hi : Nat) (w : World) (v : Value) (xs : List E) : Prop := Rd lo hi 2 w v xs.length (xs.flatMap ec)
theorem exts_cells {lo hi : Nat} {w : World} {v : Value} {xs : List E} (h : ExtS lo hi w v xs) (h0 : 0 < xs.length) : ∃ g off cap, v = .slice (some ⟨g, off, none⟩) xs.length cap ∧ xs.length ≤ cap ∧ lo ≤ g ∧ g < hi ∧ g < w.heap.size ∧
    ∀ k x, xs[k]? = some x → w.cell? ⟨g, off + k * 2, none⟩ = some (.int .u64 (fv x.a)) ∧ w.cell? ⟨g, off + k * 2 + 1, none⟩ = some (.int .u64 (fv x.b)) := by
  obtain ⟨g, off, cap, q1, q2, q3, q4, q5, q6⟩ := Rd.form h h0
  refine ⟨g, off, cap, q1, q2, q3, q4, q5, fun k x hx => ⟨?_, ?_⟩⟩
  · exact q6 (k * 2) _ (by simpa using flat_get ec_len xs k 0 x _ hx rfl)
  · have := q6 (k * 2 + 1) _ (flat_get ec_len xs k 1 x _ hx rfl)
    rwa [← Nat.add_assoc] at this
/-- A raw pair of words, as it may come in. -/
abbrev Raw := Int × Int
def rc (p : Raw) : List Value := [.int .u64 p.1, .int .u64 p.2]
theorem rc_len (x : Raw) : (rc x).length = 2 := rfl
def Word (a : Int) : Prop := 0 ≤ a ∧ a < 18446744073709551616
def RawS (lo hi : Nat) (w : World) (v : Value) (xs : List Raw) : Prop := Rd lo hi 2 w v xs.length (xs.flatMap rc) ∧ ∀ p ∈ xs, Word p.1 ∧ Word p.2
theorem raws_cells {lo hi : Nat} {w : World} {v : Value} {xs : List Raw} (h : RawS lo hi w v xs) (h0 : 0 < xs.length) : ∃ g off cap, v = .slice (some ⟨g, off, none⟩) xs.length cap ∧ xs.length ≤ cap ∧ lo ≤ g ∧ g < hi ∧ g < w.heap.size ∧
    ∀ k x, xs[k]? = some x → w.cell? ⟨g, off + k * 2, none⟩ = some (.int .u64 x.1) ∧ w.cell? ⟨g, off + k * 2 + 1, none⟩ = some (.int .u64 x.2) := by
  obtain ⟨g, off, cap, q1, q2, q3, q4, q5, q6⟩ := Rd.form h.1 h0
  refine ⟨g, off, cap, q1, q2, q3, q4, q5, fun k x hx => ⟨?_, ?_⟩⟩
  · exact q6 (k * 2) _ (by simpa using flat_get rc_len xs k 0 x _ hx rfl)
  · have := q6 (k * 2 + 1) _ (flat_get rc_len xs k 1 x _ hx rfl)
    rwa [← Nat.add_assoc] at this

/-- Raw pairs made into elements: exactly n, the missing ones zero. -/
def madeAt (l : List Raw) (i : Nat) : E := match l[i]? with | some p => em p.1 p.2 | none => 0
def madeAll (l : List Raw) (n : Nat) : List E := (List.range n).map (madeAt l)
theorem madeAll_succ (l : List Raw) (n : Nat) : madeAll l (n + 1) = madeAll l n ++ [madeAt l n] := by simp [madeAll, List.range_succ]
theorem madeAll_length (l : List Raw) (n : Nat) : (madeAll l n).length = n := by simp [madeAll]
theorem ext_info : (Tryz.prog.info? 30).map (fun i => (i.zero, i.size, i.bytes)) = some (some (.agg #[.int .u64 0, .int .u64 0]), 2, 16) := by kernel_rfl

theorem own_below {w w' : World} {base n size N : Nat} {e : TypeId} {v : Value} {xs : List Value} (h : w.ownsRow base e size v n xs) (hN : w.heap.size ≤ N) (hb : Below N w w') : w'.ownsRow base e size v n xs := by
  obtain ⟨h1, h2⟩ := h
  refine ⟨h1, h2.imp id ?_⟩
  rintro ⟨g, cap, cur, q1, q2, q3, q4⟩
  have hg : g < w.heap.size := (Array.getElem?_eq_some_iff.1 q3).1
  exact ⟨g, cap, cur, q1, q2, (hb.block g (by omega)).trans q3, q4⟩
theorem own_block {w : World} {base n size g : Nat} {e : TypeId} {v : Value} {xs : List Value} (h : w.ownsRow base e size v n xs) (hg : v.ownBlock = some g) : base ≤ g ∧ g < w.heap.size := by
  rcases h.2 with ⟨rfl, _⟩ | ⟨g', cap, cur, rfl, q1, q3, _⟩
  · cases hg
  · simp only [Value.ownBlock, Option.some.injEq] at hg
    subst hg
    exact ⟨q1, (Array.getElem?_eq_some_iff.1 q3).1⟩
theorem blk_news {X : World} {n : Nat} {e : TypeId} {cl : List Value} (h : Blk X n e cl.toArray) : ∀ j u, cl[j]? = some u → X.cell? (Addr.add ⟨n, 0, none⟩ j) = some u := fun j u hu => by
  have : Addr.add ⟨n, 0, none⟩ j = ⟨n, j, none⟩ := by
    unfold Addr.add
    by_cases hj : j = 0
    · subst hj; simp
    · simp [hj]
  rw [this, h.cell]
  simpa using hu
/-- append of one element, which lies in a block of its own, to a row of the call's own. -/
theorem wpList_app1 {P : Program} {ops : Array Oper} {rest : List Oper} {o : Oper} {a : Act} {Q : Exit → Act → World → Prop} {X : World} {n base k size bytes : Nat} {t e : TypeId} {i : TypeInfo} {z : Value} {cl cs : List Value} {u : Value} (hgd : o.guard = none) (s x : Operand)
    (ho : o.op = .call { callee := .builtin .append, args := #[s, x], argTypes := #[t, t] }) (ht : P.underlying t = some (.slice e)) (hi : P.info? e = some i) (hz : i.zero = some z) (hsize : i.size = size) (hby : i.bytes = bytes) (hzs : z.cells.size = size) (hsz : 0 < size)
    (hcl : cl.length = 1 * size) (h1 : ∀ u ∈ cl, u.oneCell' = true) (hs : a.eval s = u) (hx : a.eval x = .slice (some ⟨n, 0, none⟩) 1 1) (hown : X.ownsRow base e size u k cs) (hsrc : Blk X n e cl.toArray) (hk : k + 1 ≤ maxLen) (hk2 : (k + 1) * bytes ≤ 140737488355328) (hbase : base ≤ X.heap.size)
    (h : ∀ v' w', w'.ownsRow base e size v' (k + 1) (cs ++ cl) → X.grownBy w' u.ownBlock → Below base X w' → wpList P ops Q rest (a.put o.dst v') w') : wpList P ops Q (o :: rest) a X := by
  refine wpList_append_own _ hgd s x t ho base e i z size bytes ht hi hz hsize hby hzs hsz u k cs hs hown ⟨n, 0, none⟩ 1 1 cl hx hcl (blk_news hsrc) h1 hk hk2 hbase ?_
  intro v' w' hown' hgrow _
  exact h v' w' hown' hgrow ((Below.refl _ _).grown hgrow hbase (fun g hg => (own_block hown hg).1))
theorem ec_one (x : E) : ∀ u ∈ ec x, u.oneCell' = true := by
  intro u hu
  simp only [ec, List.mem_cons, List.not_mem_nil, or_false] at hu
  rcases hu with rfl | rfl <;> rfl

set_option maxRecDepth 100000 in
set_option maxHeartbeats 1000000 in
theorem xMadeAllO (l : List Raw) (n : Nat) (hn : n ≤ 1000) (v : Value) (N : Nat) (w : World) (hl : RawS 0 N w v l) (_hN : N ≤ w.heap.size) :
    Calls Tryz.prog 51 #[v, .int .i64 n] w (RetR (fun lo _ v w => w.ownsRow lo 30 2 v n ((madeAll l n).flatMap ec)) w) := by
  obtain ⟨A, cap, rfl⟩ := hl.1.len
  have hlen := hl.1.2.1
  obtain ⟨i0, hi0, hz0, hz1, hz2⟩ := info_parts ext_info
  go_enter Tryz.func51, Tryz.ntmps51
  go_wp2
  go_loopw [5, 6] (fun v i wr => ∃ k : Nat, k ≤ n ∧ i = .int .i64 k ∧ wr.ownsRow w.heap.size 30 2 v k ((madeAll l k).flatMap ec) ∧ Below w.heap.size w wr) (fun _ i _ => n - (intOf i).toNat)
  case atStart => exact ⟨0, Nat.zero_le _, rfl, ⟨by simp [madeAll], .inr ⟨w.heap.size, 0, #[], rfl, Nat.le_refl _, World.alloc_heap_new w _, Nat.le_refl _, Nat.zero_le _, rfl, by simp [madeAll]⟩⟩, (Below.refl _ _).alloc (Nat.le_refl _) _⟩
  case round =>
    obtain ⟨k, hk, rfl, hown, hB⟩ := hrel
    by_cases hlt : k < n
    · by_cases hkl : k < l.length
      · obtain ⟨g, off, cap', hv, q1, q2, q3, q4, q5⟩ := raws_cells hl (by omega)
        cases hv
        obtain ⟨p, hp⟩ : ∃ p, l[k]? = some p := ⟨l[k], List.getElem?_eq_getElem hkl⟩
        obtain ⟨d1, d2⟩ := q5 k p hp
        obtain ⟨⟨p1, p2⟩, p3, p4⟩ := hl.2 p (List.mem_of_getElem? hp)
        have d3 := (hB.cell (p := ⟨g, off + k * 2, none⟩) q4).trans d1
        have d4 := (hB.cell (p := ⟨g, off + k * 2 + 1, none⟩) q4).trans d2
        have q6 : g < wr.heap.size := Nat.lt_of_lt_of_le q4 hB.size
        have HP := Lib.hid hp
        clear q5 d1 d2 hl hp
        go_wp2_with fail
        refine calls_stk1 fun W hBW hzW bW => ?_
        refine (xMade p.1 p.2 p1 p2 p3 p4 _).mono ?_
        rintro e w2 ⟨he, hb⟩
        unfold ev at he
        subst he
        have bW2 := bW.below hb bW.lt
        have e1 := bW2.cell
        have e2 := bW2.frozen
        have hB2 : Below wr.heap.size wr w2 := hBW.trans (hb.mono hBW.size)
        have hz2' : wr.heap.size < w2.heap.size := bW2.lt
        go_wp2_with (at_builtin; refine wpList_app1 rfl _ _ rfl Tryz.underlying22 hi0 hz0 hz1 hz2 rfl (by decide) (cl := ec (em p.1 p.2)) rfl (ec_one _) rfl rfl (own_below hown (Nat.le_refl _) ?hX) ?hsrc ?h63 ?hby ?hbase ?_)
        case hX => exact ((hB2.setCell (by show wr.heap.size ≤ wr.heap.size; omega) _).setCell (by show wr.heap.size ≤ wr.heap.size; omega) _).alloc (by simp; omega) _
        case hsrc => exact Blk.new_at _ _ _ (by simp)
        case h63 => unfold maxLen; omega
        case hby => omega
        case hbase => have := hB.size; simp; omega
        intro v1 w3 hown3 hgrow hB3
        have hm : madeAt l k = em p.1 p.2 := by unfold madeAt; rw [HP.out]
        have hf : (madeAll l (k + 1)).flatMap ec = (madeAll l k).flatMap ec ++ ec (em p.1 p.2) := by rw [madeAll_succ, List.flatMap_append, hm]; simp
        have HF := Lib.hid hf
        clear hm hf
        go_wp2
        exact ⟨⟨k + 1, by omega, by go_num, by rw [HF.out]; exact hown3, (hB.trans ((((hB2.setCell (by show wr.heap.size ≤ wr.heap.size; omega) _).setCell (by show wr.heap.size ≤ wr.heap.size; omega) _).alloc (by simp; omega) _).mono hB.size)).trans hB3⟩, by simp [intOf]; omega⟩
      · clear hl
        go_wp2_with (at_builtin; refine wpList_app1 rfl _ _ rfl Tryz.underlying22 hi0 hz0 hz1 hz2 rfl (by decide) (cl := ec 0) rfl (ec_one _) rfl rfl (own_below hown (Nat.le_refl _) ?hX) ?hsrc ?h63 ?hby ?hbase ?_)
        case hX => exact ((Below.refl _ _).alloc (by simp) _).alloc (by simp) _
        case hsrc => exact Blk.new_at _ _ _ (by simp)
        case h63 => unfold maxLen; omega
        case hby => omega
        case hbase => have := hB.size; simp; omega
        intro v1 w3 hown3 hgrow hB3
        have hm : madeAt l k = 0 := by unfold madeAt; rw [List.getElem?_eq_none (by omega)]
        have hf : (madeAll l (k + 1)).flatMap ec = (madeAll l k).flatMap ec ++ ec 0 := by rw [madeAll_succ, List.flatMap_append, hm]; simp
        have HF := Lib.hid hf
        clear hm hf
        go_wp2
        exact ⟨⟨k + 1, by omega, by go_num, by rw [HF.out]; exact hown3, (hB.trans ((((Below.refl _ _).alloc (by simp) _).alloc (by simp) _).mono hB.size)).trans hB3⟩, by simp [intOf]; omega⟩
    · go_wp2
      obtain rfl : k = n := by omega
      go_ret
      exact ⟨u5, rfl, hown, hB⟩
theorem exts_of_own {base hi n : Nat} {e : TypeId} {w : World} {v : Value} {xs : List E} (h : w.ownsRow base e 2 v n (xs.flatMap ec)) (hl : xs.length = n) (hn : n ≤ 140737488355327) (hh : w.heap.size ≤ hi) : ExtS base hi w v xs := by
  have := Rd.of_own h hn hh
  unfold ExtS
  rw [hl]
  exact this
theorem xMadeAll (l : List Raw) (n : Nat) (hn : n ≤ 1000) (v : Value) (N : Nat) (w : World) (hl : RawS 0 N w v l) (hN : N ≤ w.heap.size) :
    Calls Tryz.prog 51 #[v, .int .i64 n] w (RetR (fun lo hi v w => ExtS lo hi w v (madeAll l n)) w) :=
  (xMadeAllO l n hn v N w hl hN).mono fun e w' ⟨v, h1, h2, h3⟩ => ⟨v, h1, exts_of_own h2 (madeAll_length l n) (by omega) (Nat.le_refl _), h3⟩
/-- A slice of the call's own: its elements, and the block in which it lies whole. -/
def CloneA (t : List E) (lo hi : Nat) (v : Value) (w : World) : Prop := ∃ g cap rest, v = .slice (some ⟨g, 0, none⟩) t.length cap ∧ t.length ≤ cap ∧ lo ≤ g ∧ g < hi ∧ Blk w g 30 (t.flatMap ec ++ rest).toArray
theorem stable_clone (t : List E) : Stable (CloneA t) := fun _ _ _ _ _ h hb => by
  obtain ⟨g, cap, rest, h1, h2, h3, h4, h5⟩ := h
  exact ⟨g, cap, rest, h1, h2, h3, h4, h5.below hb h4⟩
def OwnX (t : List E) (lo hi : Nat) (v : Value) (w : World) : Prop := ExtS lo hi w v t ∧ (0 < t.length → CloneA t lo hi v w)
theorem ownX_of_own {base n : Nat} {w : World} {v : Value} {xs : List E} (h : w.ownsRow base 30 2 v n (xs.flatMap ec)) (hl : xs.length = n) (hn : n ≤ 140737488355327) : OwnX xs base w.heap.size v w := by
  refine ⟨exts_of_own h hl hn (Nat.le_refl _), fun h0 => ?_⟩
  subst hl
  obtain ⟨h1, h2⟩ := h
  rcases h2 with ⟨_, h2⟩ | ⟨g, cap, cur, rfl, r1, r2, r3, r4, r5, r6⟩
  · omega
  · refine ⟨g, cap, cur.toList.drop (xs.length * 2), rfl, r3, r1, (Array.getElem?_eq_some_iff.1 r2).1, ?_⟩
    rw [← r6, List.take_append_drop]
    exact r2
theorem xMadeAllW (l : List Raw) (n : Nat) (hn : n ≤ 1000) (v : Value) (N : Nat) (w : World) (hl : RawS 0 N w v l) (hN : N ≤ w.heap.size) :
    Calls Tryz.prog 51 #[v, .int .i64 n] w (RetR (OwnX (madeAll l n)) w) :=
  (xMadeAllO l n hn v N w hl hN).mono fun e w' ⟨v, h1, h2, h3⟩ => ⟨v, h1, ownX_of_own h2 (madeAll_length l n) (by omega), h3⟩
end Go.Proofs.YtnddfeidggcplaaGreat
namespace Go.Proofs.YtnddfeidggcplaaGreat
open Go.RowKit

end Go.Proofs.YtnddfeidggcplaaGreat
namespace Go.Proofs.YtnddfeidggcplaaGreat
open Go.RowKit

theorem ofInt_i64 (a : Nat) (ha : a < 9223372036854775808) : (BitVec.ofInt 64 (a : Int)).toNat = a := by
  rw [BitVec.ofInt_natCast, BitVec.toNat_ofNat]; exact Nat.mod_eq_of_lt (by omega)
theorem i64_and_nat (a b : Nat) (ha : a < 9223372036854775808) (hb : b < 9223372036854775808) : bits .and .i64 (a : Int) (b : Int) = ((a &&& b : Nat) : Int) := by
  have hx : a &&& b < 2 ^ 63 := Nat.and_lt_two_pow _ (by omega)
  show IntKind.i64.wrap ((BitVec.ofInt 64 (a : Int) &&& BitVec.ofInt 64 (b : Int)).toNat : Int) = _
  rw [BitVec.toNat_and, ofInt_i64 a ha, ofInt_i64 b hb, IntKind.wrap_i64]
  omega
theorem i64_bit (i k : Nat) (hi : i ≤ 1000000) : bits .and .i64 ((i : Int) / 2 ^ k) 1 = ((i / 2 ^ k % 2 : Nat) : Int) := by
  have e : (i : Int) / 2 ^ k = ((i / 2 ^ k : Nat) : Int) := by simp
  have h : i / 2 ^ k ≤ i := Nat.div_le_self _ _
  rw [e, show (1 : Int) = ((1 : Nat) : Int) from rfl, i64_and_nat _ _ (by omega) (by omega), Nat.and_one_is_mod]
theorem bit_fz (i k : Nat) : eb (fz (((i / 2 ^ k % 2 : Nat)) : Int)) = bitE i k := by
  unfold bitE
  have h : i / 2 ^ k % 2 = 0 ∨ i / 2 ^ k % 2 = 1 := by omega
  rcases h with h | h <;> rw [h] <;> rfl
set_option maxRecDepth 100000 in
set_option maxHeartbeats 1000000 in
theorem mVertex (i n : Nat) (hi : i ≤ 1000000) (hn : n ≤ 60) (w : World) :
    Calls Tryz.prog 33 #[.int .i64 i, .int .i64 n] w (RetR (fun lo hi v w => ExtS lo hi w v (vertex i n)) w) := by
  obtain ⟨i0, hi0, hz0, hz1, hz2⟩ := info_parts ext_info
  go_enter Tryz.func33, Tryz.ntmps33
  go_wp2
  go_loopw [5, 6] (fun v j wr => ∃ k : Nat, k ≤ n ∧ j = .int .i64 k ∧ wr.ownsRow w.heap.size 30 2 v k ((vertex i k).flatMap ec) ∧ Below w.heap.size w wr) (fun _ j _ => n - (intOf j).toNat)
  case atStart => exact ⟨0, Nat.zero_le _, rfl, ⟨by simp [vertex], .inr ⟨w.heap.size, 0, #[], rfl, Nat.le_refl _, World.alloc_heap_new w _, Nat.le_refl _, Nat.zero_le _, rfl, by simp [vertex]⟩⟩, (Below.refl _ _).alloc (Nat.le_refl _) _⟩
  case round =>
    obtain ⟨k, hk, rfl, hown, hB⟩ := hrel
    by_cases hlt : k < n
    · go_wp2_with fail
      rw [i64_bit i k hi]
      refine (xFromInt _ (by omega) (by omega) _).mono ?_
      rintro e w2 ⟨he, hb⟩
      rw [bit_fz] at he
      unfold ev at he
      subst he
      have hb2 : Below wr.heap.size wr w2 := hb
      have hf : (vertex i (k + 1)).flatMap ec = (vertex i k).flatMap ec ++ ec (bitE i k) := by rw [vertex_succ, List.flatMap_append]; simp
      have HF := Lib.hid hf
      clear hf
      generalize bitE i k = y at *
      go_wp2_with (at_builtin; refine wpList_app1 rfl _ _ rfl Tryz.underlying22 hi0 hz0 hz1 hz2 rfl (by decide) (cl := ec y) rfl (ec_one _) rfl rfl (own_below hown (Nat.le_refl _) ?hX) ?hsrc ?h63 ?hby ?hbase ?_)
      case hX => exact hb2.alloc hb2.size _
      case hsrc => exact Blk.new_at _ _ _ (by simp)
      case h63 => unfold maxLen; omega
      case hby => omega
      case hbase => have := hB.size; have := hb2.size; simp; omega
      intro v1 w3 hown3 hgrow hB3
      go_wp2
      exact ⟨⟨k + 1, by omega, by go_num, by rw [HF.out]; exact hown3, (hB.trans ((hb2.alloc hb2.size _).mono hB.size)).trans hB3⟩, by simp [intOf]; omega⟩
    · obtain rfl : k = n := by omega
      go_wp2
      go_ret
      refine ⟨u5, rfl, ?_, hB⟩
      have := Rd.of_own hown (by omega) (Nat.le_refl _)
      unfold ExtS
      rw [vertex_length]
      exact this

end Go.Proofs.YtnddfeidggcplaaGreat
namespace Go.Proofs.YtnddfeidggcplaaGreat
open Go.RowKit

/-! ### New blocks in a region -/
def Lit (e : TypeId) (len : Nat) (cs : Array Value) (n m : Nat) (v : Value) (w : World) : Prop := v = .slice (some ⟨n, 0, none⟩) len len ∧ n < m ∧ Blk w n e cs
theorem stable_lit {e : TypeId} {len : Nat} {cs : Array Value} : Stable (Lit e len cs) := fun _ _ _ _ _ ⟨h1, h2, h3⟩ hb => ⟨h1, h2, h3.below hb h2⟩
def New (e : TypeId) (cs : Array Value) (n m : Nat) (v : Value) (w : World) : Prop := v = .pointer (some ⟨n, 0, none⟩) ∧ n < m ∧ Blk w n e cs
theorem stable_new {e : TypeId} {cs : Array Value} : Stable (New e cs) := fun _ _ _ _ _ ⟨h1, h2, h3⟩ hb => ⟨h1, h2, h3.below hb h2⟩
def LitF (len n : Nat) (v : Value) : Prop := v = .slice (some ⟨n, 0, none⟩) len len
def NewF (n : Nat) (v : Value) : Prop := v = .pointer (some ⟨n, 0, none⟩)
theorem fit_lit {e : TypeId} {len : Nat} {cs : Array Value} : Fit (Lit e len cs) (LitF len) := ⟨stable_lit, fun _ => ⟨_, rfl⟩, fun _ _ _ _ h => h.1⟩
theorem fit_new {e : TypeId} {cs : Array Value} : Fit (New e cs) NewF := ⟨stable_new, fun _ => ⟨_, rfl⟩, fun _ _ _ _ h => h.1⟩
/-- The form of a slice of which the length is known. -/
def SlF (len : Nat) (_ : Nat) (v : Value) : Prop := ∃ A cap, v = .slice A len cap
def ExtA (xs : List E) (lo hi : Nat) (v : Value) (w : World) : Prop := ExtS lo hi w v xs
theorem fit_own {xs : List E} : Fit (OwnX xs) (SlF xs.length) := ⟨fun _ _ _ _ _ h hb => ⟨h.1.below hb (Nat.le_refl _), fun h0 => stable_clone xs _ _ _ _ _ (h.2 h0) hb⟩, fun _ => ⟨.slice none xs.length 0, none, 0, rfl⟩, fun _ _ _ _ h => h.1.len⟩
theorem fit_ext {xs : List E} : Fit (ExtA xs) (SlF xs.length) := ⟨fun _ _ _ _ _ h hb => h.below hb (Nat.le_refl _), fun _ => ⟨.slice none xs.length 0, none, 0, rfl⟩, fun _ _ _ _ h => h.len⟩
/-- A load of one cell; of a row of cells. -/
theorem step_load1 {P : Program} {o : Oper} {a : Act} {w : World} {t : TypeId} {x : Operand} {g i : Nat} {v : Value} {d : TypeDesc} (hu : P.underlying t = some d) (hd : d.isRow = false) (ho : o.op = .load t x) (hx : a.eval x = .pointer (some ⟨g, i, none⟩)) (hc : w.cell? ⟨g, i, none⟩ = some v) :
    stepAt P o a w (fun v' w' => v' = v ∧ Below w.heap.size w w') := by
  have h1 : (isAgg t).run P w = .ok false w := by
    unfold isAgg
    rw [Sem.run_bind, run_underlying hu w]
    cases d <;> simp_all [TypeDesc.isRow]
  have h2 : (Instr.loadAt t (.pointer (some ⟨g, i, none⟩))).run P w = .ok v w := by
    simp [Instr.loadAt, Instr.sureAddr, loadVar, Sem.run_bind, h1, run_load, hc]
  unfold stepAt execOp
  simp only [ho, hx, Sem.run_bind, h2, Result.andThen_ok]
  exact ⟨rfl, Below.refl _ _⟩
theorem step_loadR {P : Program} {o : Oper} {a : Act} {w : World} {t : TypeId} {x : Operand} {g i : Nat} {cs : List Value} {d : TypeDesc} (hu : P.underlying t = some d) (hd : d.isRow = true) (hi : (P.info? t).map (·.size) = some cs.length) (ho : o.op = .load t x) (hx : a.eval x = .pointer (some ⟨g, i, none⟩)) (hc : w.rangeAt g i cs) :
    stepAt P o a w (fun v' w' => v' = .agg cs.toArray ∧ Below w.heap.size w w') := by
  have h2 := run_loadAt_mid (P := P) w g i t cs d hc hu hd hi
  unfold stepAt execOp
  simp only [ho, hx, Sem.run_bind, h2, Result.andThen_ok]
  exact ⟨rfl, Below.refl _ _⟩
theorem step_lit {P : Program} {o : Oper} {a : Act} {w : World} {t e : TypeId} {len : Nat} {parts : Array (Nat × Operand)} {cells : Array Value} {ie : TypeInfo} {z : Value} (hu : P.underlying t = some (.slice e)) (hie : P.info? e = some ie) (hz : ie.zero = some z) (hsmall : ¬ len * ie.size > 2 ^ 24) (hpos : ¬ len * ie.size = 0)
    (ho : o.op = .buildSlice t len parts)
    (hf : Instr.fill (fun i => some (i * ie.size, ie.size)) ((Array.range (len * ie.size)).map (z.cells[· % z.cells.size]!)) (parts.map fun (i, x) => (i, a.eval x)).toList = some cells) :
    stepAt P o a w (fun v w' => Lit e len cells w.heap.size w'.heap.size v w' ∧ Below w.heap.size w w') := by
  unfold stepAt execOp
  simp only [ho, Sem.run_bind, run_buildSlice w t e len _ cells ie z hu hie hz hsmall hpos hf, Result.andThen_ok]
  exact ⟨⟨rfl, by simp only [World.size_alloc]; omega, Blk.new _ _ _⟩, (Below.refl _ _).alloc (Nat.le_refl _) _⟩
theorem fill_one {z v : Value} {size : Nat} {cs : Array Value} (hs : 0 < size) (hv : v.cells = cs) (hc : cs.size = size) :
    Instr.fill (fun i => some (i * size, size)) ((Array.range (1 * size)).map (z.cells[· % z.cells.size]!)) [(0, v)] = some cs := by
  obtain ⟨r, h1, h2, h3⟩ := Great.fill_dense hs [v] 0 ((Array.range (1 * size)).map (z.cells[· % z.cells.size]!)) (fun u hu => by rw [List.mem_singleton.1 hu, hv, hc]) (by simp)
  have h1' : Instr.fill (fun i => some (i * size, size)) ((Array.range (1 * size)).map (z.cells[· % z.cells.size]!)) [(0, v)] = some r := h1
  rw [h1']
  congr 1
  apply Array.ext_getElem?
  intro k
  rw [h3 k]
  by_cases hk : k < size
  · rw [if_pos (by simp; omega)]
    simp [Nat.div_eq_of_lt hk, Nat.mod_eq_of_lt hk, hv]
  · rw [if_neg (by simp; omega), Array.getElem?_eq_none (by simp; omega), Array.getElem?_eq_none (by omega)]
/-- A slice literal of one element. -/
theorem step_lit1 {P : Program} {o : Oper} {a : Act} {w : World} {t e : TypeId} {x : Operand} {cs : Array Value} {ie : TypeInfo} {z : Value} {size : Nat} (hu : P.underlying t = some (.slice e)) (hie : P.info? e = some ie) (hz : ie.zero = some z) (hi : ie.size = size) (hp : 0 < size) (hsmall : size ≤ 16777216)
    (ho : o.op = .buildSlice t 1 #[(0, x)]) (hv : (a.eval x).cells = cs) (hc : cs.size = size) :
    stepAt P o a w (fun v w' => Lit e 1 cs w.heap.size w'.heap.size v w' ∧ Below w.heap.size w w') := by
  subst hi
  refine step_lit hu hie hz (by omega) (by omega) ho ?_
  simpa using fill_one hp hv hc
/-- A slice literal of some numbers. -/
theorem step_litF {P : Program} {o : Oper} {a : Act} {w : World} {t e : TypeId} {len : Nat} {parts : List (Nat × Operand)} {vs : List Value} {ie : TypeInfo} {z : Value} (hu : P.underlying t = some (.slice e)) (hie : P.info? e = some ie) (hz : ie.zero = some z) (hi : ie.size = 1) (hlen : vs.length = len) (hpos : 0 < len) (hsmall : len ≤ 16777216)
    (ho : o.op = .buildSlice t len parts.toArray) (hv : (parts.map fun x => (x.1, a.eval x.2)) = (vs.zipIdx 0).map fun x => (x.2, x.1)) (h1 : ∀ v ∈ vs, v.cells = #[v]) :
    stepAt P o a w (fun v w' => Lit e len vs.toArray w.heap.size w'.heap.size v w' ∧ Below w.heap.size w w') := by
  refine step_lit hu hie hz (by rw [hi]; omega) (by rw [hi]; omega) ho ?_
  have hm : (parts.toArray.map fun (i, x) => (i, a.eval x)).toList = (vs.zipIdx 0).map fun x => (x.2, x.1) := by rw [← hv]; simp
  rw [hm, hi]
  obtain ⟨r, h1', h2, h3⟩ := Great.fill_dense (s := 1) (by decide) vs 0 ((Array.range (len * 1)).map (z.cells[· % z.cells.size]!)) (fun u hu => by rw [h1 u hu]; rfl) (by simp; omega)
  rw [h1']
  congr 1
  apply Array.ext_getElem?
  intro k
  rw [h3 k]
  by_cases hk : k < len
  · rw [if_pos (by simp; omega)]
    simp only [Nat.div_one, Nat.sub_zero, Nat.mod_one, List.getElem?_toArray]
    obtain ⟨u, hu⟩ : ∃ u, vs[k]? = some u := ⟨vs[k]'(by omega), List.getElem?_eq_getElem (by omega)⟩
    rw [hu]
    simp [h1 u (List.mem_of_getElem? hu)]
  · rw [if_neg (by simp; omega), Array.getElem?_eq_none (by simp; omega), Array.getElem?_eq_none (by simp; omega)]
theorem step_new {P : Program} {o : Oper} {a : Act} {w : World} {e : TypeId} {ie : TypeInfo} {z : Value} (hie : P.info? e = some ie) (hz : ie.zero = some z) (ho : o.op = .alloc e) :
    stepAt P o a w (fun v w' => New e z.cells w.heap.size w'.heap.size v w' ∧ Below w.heap.size w w') := by
  unfold stepAt execOp
  simp [ho, Instr.alloc, zeroValue, typeInfo, hie, hz, newVar, newRow, newObj]
  exact ⟨⟨rfl, by simp, Blk.new _ _ _⟩, (Below.refl _ _).alloc (Nat.le_refl _) _⟩

/-! ### Gates -/
structure Gt where
  L : Nat
  R : Nat
  c : Fp
  a : Fp
  b : Fp
  d : Fp
def gc (g : Gt) : List Value := [.int .i64 g.L, .int .i64 g.R, .int .u64 (fv g.c), .int .u64 (fv g.a), .int .u64 (fv g.b), .int .u64 (fv g.d)]
theorem gc_len (g : Gt) : (gc g).length = 6 := rfl
def GateS (lo hi : Nat) (w : World) (v : Value) (gs : List Gt) : Prop := Rd lo hi 6 w v gs.length (gs.flatMap gc)
theorem gates_cells {lo hi : Nat} {w : World} {v : Value} {xs : List Gt} (h : GateS lo hi w v xs) (h0 : 0 < xs.length) : ∃ g off cap, v = .slice (some ⟨g, off, none⟩) xs.length cap ∧ xs.length ≤ cap ∧ lo ≤ g ∧ g < hi ∧ g < w.heap.size ∧
    ∀ k x, xs[k]? = some x → w.cell? ⟨g, off + k * 6, none⟩ = some (.int .i64 x.L) ∧ w.cell? ⟨g, off + k * 6 + 1, none⟩ = some (.int .i64 x.R) ∧ w.cell? ⟨g, off + k * 6 + 2, none⟩ = some (.int .u64 (fv x.c)) ∧
      w.cell? ⟨g, off + k * 6 + 3, none⟩ = some (.int .u64 (fv x.a)) ∧ w.cell? ⟨g, off + k * 6 + 4, none⟩ = some (.int .u64 (fv x.b)) ∧ w.cell? ⟨g, off + k * 6 + 5, none⟩ = some (.int .u64 (fv x.d)) := by
  obtain ⟨g, off, cap, q1, q2, q3, q4, q5, q6⟩ := Rd.form h h0
  refine ⟨g, off, cap, q1, q2, q3, q4, q5, fun k x hx => ?_⟩
  have e : ∀ j u, (gc x)[j]? = some u → w.cell? ⟨g, off + k * 6 + j, none⟩ = some u := fun j u hu => by
    have := q6 (k * 6 + j) _ (flat_get gc_len xs k j x _ hx hu)
    rwa [← Nat.add_assoc] at this
  exact ⟨e 0 _ rfl, e 1 _ rfl, e 2 _ rfl, e 3 _ rfl, e 4 _ rfl, e 5 _ rfl⟩
theorem gc_one (g : Gt) : ∀ u ∈ gc g, u.oneCell' = true := by
  intro u hu
  simp only [gc, List.mem_cons, List.not_mem_nil, or_false] at hu
  rcases hu with rfl | rfl | rfl | rfl | rfl | rfl <;> rfl

/-- A gate as it may come in. -/
structure Rg where
  L : Int
  R : Int
  c : Int
  a : Int
  b : Int
  d : Int
def Num (a : Int) : Prop := -9223372036854775808 ≤ a ∧ a < 9223372036854775808
def Rg.Ok (g : Rg) : Prop := Num g.L ∧ Num g.R ∧ Word g.c ∧ Word g.a ∧ Word g.b ∧ Word g.d
def rgc (g : Rg) : List Value := [.int .i64 g.L, .int .i64 g.R, .int .u64 g.c, .int .u64 g.a, .int .u64 g.b, .int .u64 g.d]
theorem rgc_len (g : Rg) : (rgc g).length = 6 := rfl
def RawG (lo hi : Nat) (w : World) (v : Value) (gs : List Rg) : Prop := Rd lo hi 6 w v gs.length (gs.flatMap rgc) ∧ ∀ g ∈ gs, g.Ok
theorem rawg_cells {lo hi : Nat} {w : World} {v : Value} {xs : List Rg} (h : RawG lo hi w v xs) (h0 : 0 < xs.length) : ∃ g off cap, v = .slice (some ⟨g, off, none⟩) xs.length cap ∧ xs.length ≤ cap ∧ lo ≤ g ∧ g < hi ∧ g < w.heap.size ∧
    ∀ k x, xs[k]? = some x → w.cell? ⟨g, off + k * 6, none⟩ = some (.int .i64 x.L) ∧ w.cell? ⟨g, off + k * 6 + 1, none⟩ = some (.int .i64 x.R) ∧ w.cell? ⟨g, off + k * 6 + 2, none⟩ = some (.int .u64 x.c) ∧
      w.cell? ⟨g, off + k * 6 + 3, none⟩ = some (.int .u64 x.a) ∧ w.cell? ⟨g, off + k * 6 + 4, none⟩ = some (.int .u64 x.b) ∧ w.cell? ⟨g, off + k * 6 + 5, none⟩ = some (.int .u64 x.d) := by
  obtain ⟨g, off, cap, q1, q2, q3, q4, q5, q6⟩ := Rd.form h.1 h0
  refine ⟨g, off, cap, q1, q2, q3, q4, q5, fun k x hx => ?_⟩
  have e : ∀ j u, (rgc x)[j]? = some u → w.cell? ⟨g, off + k * 6 + j, none⟩ = some u := fun j u hu => by
    have := q6 (k * 6 + j) _ (flat_get rgc_len xs k j x _ hx hu)
    rwa [← Nat.add_assoc] at this
  exact ⟨e 0 _ rfl, e 1 _ rfl, e 2 _ rfl, e 3 _ rfl, e 4 _ rfl, e 5 _ rfl⟩
/-- The gate that is made of it, its operands below 2^k. -/
def gm (k : Nat) (r : Rg) : Gt := ⟨(r.L % 2 ^ k).toNat, (r.R % 2 ^ k).toNat, fz r.c, fz r.a, fz r.b, fz r.d⟩
def madeG (l : List Rg) (k n : Nat) : List Gt := (l.take n).map (gm k)
theorem madeG_succ (l : List Rg) (k n : Nat) (x : Rg) (h : l[n]? = some x) : madeG l k (n + 1) = madeG l k n ++ [gm k x] := by
  unfold madeG
  rw [List.take_add_one, h]
  simp
theorem madeG_length (l : List Rg) (k n : Nat) (h : n ≤ l.length) : (madeG l k n).length = n := by simp [madeG]; omega
theorem i64_mask (x : Int) (_h : Num x) (k : Nat) (hk : k ≤ 3) : bits .and .i64 x (2 ^ k - 1) = ((x % 2 ^ k).toNat : Int) := by
  have key : (BitVec.ofInt 64 x).toNat % 2 ^ k = (x % 2 ^ k).toNat := by
    rw [BitVec.toNat_ofInt]
    have : k = 0 ∨ k = 1 ∨ k = 2 ∨ k = 3 := by omega
    rcases this with rfl | rfl | rfl | rfl <;> simp <;> omega
  have hm : (BitVec.ofInt 64 ((2 : Int) ^ k - 1)).toNat = 2 ^ k - 1 := by
    have : k = 0 ∨ k = 1 ∨ k = 2 ∨ k = 3 := by omega
    rcases this with rfl | rfl | rfl | rfl <;> rfl
  show IntKind.i64.wrap ((BitVec.ofInt 64 x &&& BitVec.ofInt 64 ((2 : Int) ^ k - 1)).toNat : Int) = _
  rw [BitVec.toNat_and, hm, Nat.and_two_pow_sub_one_eq_mod, key, IntKind.wrap_i64]
  have : x % 2 ^ k < 8 ∧ 0 ≤ x % 2 ^ k := by
    have : k = 0 ∨ k = 1 ∨ k = 2 ∨ k = 3 := by omega
    rcases this with rfl | rfl | rfl | rfl <;> simp <;> omega
  omega
theorem rRedF (x : Int) (h : Word x) (w : World) : Calls Tryz.prog 72 #[.int .u64 x] w (Ret (.int .u64 (fv (fz x))) w) := by
  rw [fv_fz]
  exact ret_of_same (rRed x h.1 h.2 w)
end Go.Proofs.YtnddfeidggcplaaGreat
