/-
  Changes of a table, as they come in; what a sequence of them does to the table and to its value.
-/
import Derived.Test.YtphokpkigbonlaaDoorLay5
namespace Go.Proofs.YtphokpkigbonlaaDoor
open Go.RowKit

/-- A change: its index, and its amount. -/
structure Chg where
  i : Nat
  d : Raw
def cgc (c : Chg) : List Value := [.int .u8 (c.i : Int), .int .u64 c.d.1, .int .u64 c.d.2]
theorem cgc_len (c : Chg) : (cgc c).length = 3 := rfl
def Chg.Ok (c : Chg) : Prop := c.i < 256 ∧ Word c.d.1 ∧ Word c.d.2
def ChgS (lo hi : Nat) (w : World) (v : Value) (cs : List Chg) : Prop := Rd lo hi 3 w v cs.length (cs.flatMap cgc) ∧ ∀ c ∈ cs, c.Ok
theorem chgs_cells {lo hi : Nat} {w : World} {v : Value} {xs : List Chg} (h : ChgS lo hi w v xs) (h0 : 0 < xs.length) : ∃ g off cap, v = .slice (some ⟨g, off, none⟩) xs.length cap ∧ xs.length ≤ cap ∧ lo ≤ g ∧ g < hi ∧ g < w.heap.size ∧
    ∀ k x, xs[k]? = some x → w.cell? ⟨g, off + k * 3, none⟩ = some (.int .u8 (x.i : Int)) ∧ w.cell? ⟨g, off + k * 3 + 1, none⟩ = some (.int .u64 x.d.1) ∧ w.cell? ⟨g, off + k * 3 + 2, none⟩ = some (.int .u64 x.d.2) := by
  obtain ⟨g, off, cap, q1, q2, q3, q4, q5, q6⟩ := Rd.form h.1 h0
  refine ⟨g, off, cap, q1, q2, q3, q4, q5, fun k x hx => ⟨?_, ?_, ?_⟩⟩
  · exact q6 (k * 3) _ (by simpa using flat_get cgc_len xs k 0 x _ hx rfl)
  · have := q6 (k * 3 + 1) _ (flat_get cgc_len xs k 1 x _ hx rfl)
    rwa [← Nat.add_assoc] at this
  · have := q6 (k * 3 + 2) _ (flat_get cgc_len xs k 2 x _ hx rfl)
    rwa [← Nat.add_assoc] at this
theorem ChgS.keep {lo hi : Nat} {w w' : World} {v : Value} {xs : List Chg} (h : ChgS lo hi w v xs) (hb : Below w.heap.size w w') : ChgS lo hi w' v xs := ⟨h.1.keep hb, h.2⟩
section
variable (cs : List Chg) (p : List E) (N : Nat)
def chgAt (i : Nat) : Chg := cs.getD i ⟨0, (0, 0)⟩
/-- Where change number i goes, and by how much. -/
def cAt (i : Nat) : Nat := (chgAt cs i).i % N
def cBy (i : Nat) : E := em (chgAt cs i).d.1 (chgAt cs i).d.2
def chgT : Nat → List E
  | 0 => List.replicate N 0
  | j + 1 => (chgT j).set (cAt cs N j) ((chgT j).getD (cAt cs N j) 0 + cBy cs j)
theorem chgT_len : ∀ j, (chgT cs N j).length = N
  | 0 => List.length_replicate
  | j + 1 => by rw [chgT, List.length_set, chgT_len j]
def chgF (i : Nat) : E := cBy cs i * eqi (cAt cs N i) p
def chgV (j : Nat) : E := esum ((List.range j).map (chgF cs p N))
def chgB (n j : Nat) : E := esum ((List.range j).map fun i => chgF cs p N (n - 1 - i))
theorem esum_up2 (f : Nat → E) (n : Nat) : esum ((List.range (n + 1)).map f) = esum ((List.range n).map f) + f n := by
  rw [List.range_succ, List.map_append, esum_append]
  simp [esum, E.add_zero]
theorem chgV_succ (j : Nat) : chgV cs p N (j + 1) = chgV cs p N j + cBy cs j * eqi (cAt cs N j) p := esum_up2 _ j
theorem chgB_succ (n j : Nat) : chgB cs p N n (j + 1) = chgB cs p N n j + cBy cs (n - 1 - j) * eqi (cAt cs N (n - 1 - j)) p := esum_up2 _ j
theorem esum_reverse : ∀ l : List E, esum l.reverse = esum l
  | [] => rfl
  | x :: l => by
    rw [List.reverse_cons, esum_append, esum_reverse l]
    show esum l + (x + 0) = x + esum l
    rw [E.add_zero, E.add_comm]
theorem chgB_all (n : Nat) : chgB cs p N n n = chgV cs p N n := by
  unfold chgB chgV
  rw [← esum_reverse]
  congr 1
  apply List.ext_getElem?
  intro i
  by_cases hi : i < n
  · rw [List.getElem?_reverse (by simpa using hi), List.length_map, List.length_range, List.getElem?_map, List.getElem?_map, List.getElem?_range hi, List.getElem?_range (by omega)]
    simp only [Option.map_some]
    rw [show n - 1 - (n - 1 - i) = i by omega]
  · rw [List.getElem?_eq_none (by simpa using hi), List.getElem?_eq_none (by simpa using hi)]
theorem chg_mev (hN : N = 2 ^ p.length) : ∀ j, mev (chgT cs N j) p = chgV cs p N j
  | 0 => mev_zero N p hN
  | j + 1 => by
    rw [chgT, mev_add _ p _ _ (by rw [chgT_len]; exact hN) (by rw [← hN]; exact Nat.mod_lt _ (by rw [hN]; exact Nat.two_pow_pos _)), chg_mev hN j, chgV_succ]
end
/-- A table of which the first k elements have been struck. -/
def zeroK (t : List E) (k : Nat) : List E := List.replicate k 0 ++ t.drop k
theorem zeroK_len (t : List E) (k : Nat) (h : k ≤ t.length) : (zeroK t k).length = t.length := by simp [zeroK]; omega
theorem zeroK_set (t : List E) (k : Nat) (h : k < t.length) : (zeroK t k).set k 0 = zeroK t (k + 1) := by
  unfold zeroK
  rw [List.set_append_right _ _ (by simp), List.length_replicate, Nat.sub_self, List.drop_eq_getElem_cons h, List.set_cons_zero, List.replicate_succ', List.append_assoc]
  rfl
theorem zeroK_all (t : List E) : zeroK t t.length = List.replicate t.length 0 := by simp [zeroK]
end Go.Proofs.YtphokpkigbonlaaDoor
