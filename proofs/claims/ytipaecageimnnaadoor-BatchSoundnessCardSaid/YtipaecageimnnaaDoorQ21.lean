/-
  What the laws of chapter 21 share: the sizes of a problem.
-/
import Derived.Test.YtipaecageimnnaaDoorSan21
import Derived.Test.YtipaecageimnnaaDoorPb21
import Derived.Test.YtipaecageimnnaaDoorTru
import Derived.Test.YtipaecageimnnaaDoorBam
namespace Go.Proofs.YtipaecageimnnaaDoor
open Go.RowKit

theorem Q21.hk (q : Q21) : q.k ≤ 4 := by have := Nat.mod_lt q.N (show 0 < 5 by decide); unfold Q21.k; omega
theorem Q21.ht (q : Q21) : q.t.length = 2 ^ q.k := mdT_length _ _
theorem Q21.hc (q : Q21) : q.c.length = q.k := madeAll_length _ _
theorem Q21.hl (q : Q21) : ∀ c ∈ q.l, c.p.length = q.k := fun c hc => by
  unfold Q21.l mdB at hc
  obtain ⟨x, _, rfl⟩ := List.mem_map.1 hc
  exact madeAll_length _ _
theorem Q21.hn (q : Q21) : q.l.length ≤ 5 := by
  unfold Q21.l mdB
  rw [List.length_map, List.length_take]
  omega
theorem Q21.us {q : Q21} {us : List ClW} (h : us.map (·.1) = q.l) : (∀ x ∈ us, x.1.p.length = q.k) ∧ us.length ≤ 5 :=
  ⟨fun x hx => q.hl _ (h ▸ List.mem_map_of_mem hx), by have := q.hn; rw [← h, List.length_map] at this; exact this⟩
theorem Q21S.keep {w W : World} {q : Q21} {a b c : Value} (h : Q21S w.heap.size w q a b c) (hb : Below w.heap.size w W) : Q21S W.heap.size W q a b c :=
  ⟨⟨Rd.wide (Rd.keep h.T.1 hb) (Nat.le_refl _) hb.size, h.T.2⟩, ⟨Rd.wide (Rd.keep h.L.1 hb) (Nat.le_refl _) hb.size, fun x hx => ⟨⟨Rd.wide (Rd.keep (h.L.2 x hx).1.1 hb) (Nat.le_refl _) hb.size, (h.L.2 x hx).1.2⟩, (h.L.2 x hx).2⟩⟩, ⟨Rd.wide (Rd.keep h.C.1 hb) (Nat.le_refl _) hb.size, h.C.2⟩, h.r1, h.r2, h.n⟩
theorem truB_true (T : List E) (us : List ClW) : ∀ x ∈ truB T us, x.1.v = mev T x.1.p := fun x hx => by
  obtain ⟨y, _, rfl⟩ := List.mem_map.1 hx
  rfl
theorem truB_p {T : List E} {us : List ClW} {k : Nat} (h : ∀ x ∈ us, x.1.p.length = k) : ∀ x ∈ truB T us, x.1.p.length = k := fun x hx => by
  obtain ⟨y, hy, rfl⟩ := List.mem_map.1 hx
  exact h y hy
theorem truB_length (T : List E) (us : List ClW) : (truB T us).length = us.length := List.length_map _
end Go.Proofs.YtipaecageimnnaaDoor
