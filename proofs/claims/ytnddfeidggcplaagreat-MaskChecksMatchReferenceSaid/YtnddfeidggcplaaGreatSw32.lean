/-
  errors.Is of two numbered errors, by contract.
  Simulate of package mask in mathematics: the simulated rounds are accepted.
  supply and close of package mask, by contract.
  close of package mask, by contract.
  Simulate of package mask: the rows as they are filled, a growing row of rows at a step of a region that draws.
  Simulate of package mask, by contract.
-/
import Derived.Test.YtnddfeidggcplaaGreatFi
import Derived.LaidEql
import Derived.Stop.Asserts
import Derived.Test.YtnddfeidggcplaaGreatMp32
import Derived.Test.YtnddfeidggcplaaGreatXp32
import Derived.Test.YtnddfeidggcplaaGreatIp
import Derived.Test.YtnddfeidggcplaaGreatRgU
import Derived.Deep.RegionLaw
import Derived.Deep.AppendLies
namespace Go.Proofs.YtnddfeidggcplaaGreat
open Go.RowKit Go.Extern.Stop Go.Stop Go.Extern

theorem is_comp : (Tryz.prog.info? 44).map (·.comparable) = some true := by kernel_rfl
theorem eq_errno {P : Program} {ti tp : TypeId} {ms : Array (String × TypeId)} {i : TypeInfo} (w : World) (a b : Int) (hi : P.underlying ti = some (.interface ms)) (hp : P.underlying tp = some (.int .i64)) (hinfo : P.info? tp = some i) (hcomp : i.comparable = true) :
    (binOp .eql ti (.iface tp (.int .i64 a)) (.iface tp (.int .i64 b))).run P w = .ok (.bool (a == b)) w := by
  have h : ∀ d : Nat, (Op.equalIn (d + 2) ti (.iface tp (.int .i64 a)) (.iface tp (.int .i64 b))).run P w = .ok (a == b) w := fun d => by
    simp [Op.equalIn, run_underlying hi, run_underlying hp, typeInfo, hinfo, hcomp]
  simp only [binOp]
  simp [Op.equal, Op.maxDepth, h 9998]
theorem eq_nilR {P : Program} {ti : TypeId} {ms : Array (String × TypeId)} (w : World) (tp : TypeId) (v : Value) (hi : P.underlying ti = some (.interface ms)) :
    (binOp .eql ti (.iface tp v) .nilIface).run P w = .ok (.bool false) w := by
  have h : ∀ d : Nat, (Op.equalIn (d + 1) ti (.iface tp v) .nilIface).run P w = .ok false w := fun d => by simp [Op.equalIn, run_underlying hi]
  simp only [binOp]
  simp [Op.equal, Op.maxDepth, h 9999]
theorem is_typeOf (v : Value) (w : World) : (Extern.ReflectliteType.typeOf #[.iface 44 v]).run Tryz.prog w = .ok (.iface 158 (.agg #[typeHandle Tryz.prog 44])) w := by kernel_rfl
def cmpX : Array Value → Sem Value := Extern.ReflectliteType.method fun t => do Extern.Rtype.noPackHeld "Comparable" t; pure (.bool (← typeInfo t).comparable)
theorem is_comparable (w : World) : (cmpX #[.agg #[typeHandle Tryz.prog 44]]).run Tryz.prog w = .ok (.bool true) w := by kernel_rfl
theorem is_meth (v : Value) (w : World) : (Go.method 305 158 v "Comparable").run Tryz.prog w = .ok (162, v) w := by kernel_rfl
theorem no_is (v : Value) (xT : TypeId) (w : World) : (Instr.typeAssert (.iface 44 v) xT 160 true).run Tryz.prog w = .ok (.tuple #[.nilIface, .bool false]) w := run_typeAssert_lacksB Tryz.underlying160 (by kernel_rfl) (by kernel_rfl) v xT w
theorem no_unwrap (v : Value) (xT : TypeId) (w : World) : (Instr.typeAssert (.iface 44 v) xT 163 true).run Tryz.prog w = .ok (.tuple #[.nilIface, .bool false]) w := run_typeAssert_lacksB Tryz.underlying163 (by kernel_rfl) (by kernel_rfl) v xT w
theorem no_unwraps (v : Value) (xT : TypeId) (w : World) : (Instr.typeAssert (.iface 44 v) xT 165 true).run Tryz.prog w = .ok (.tuple #[.nilIface, .bool false]) w := run_typeAssert_lacksB Tryz.underlying165 (by kernel_rfl) (by kernel_rfl) v xT w
set_option maxRecDepth 100000 in
set_option maxHeartbeats 1000000 in
theorem gIs (a b : Int) (w : World) : Calls Tryz.prog 70 #[.iface 44 (.int .i64 a), .iface 44 (.int .i64 b)] w fun e w' => e = .returned (.bool (a == b)) ∧ w' = w := by
  obtain ⟨i, hi, hcmp⟩ := Option.map_eq_some_iff.1 is_comp
  have h8 := @run_callFunc_extern Tryz.prog 111 _ Extern.ReflectliteType.typeOf Tryz.func111 (by kernel_rfl) (by kernel_rfl) (by kernel_rfl) (by kernel_rfl)
  have h32 := @run_callFunc_extern Tryz.prog 162 _ cmpX Tryz.func162 (by kernel_rfl) (by kernel_rfl) (by kernel_rfl) (by kernel_rfl)
  have tT := is_typeOf
  have cT := is_comparable
  have nE := no_is
  have mR := is_meth
  have uE := no_unwrap
  have vE := no_unwraps
  have heq := eq_errno (P := Tryz.prog) w a b Tryz.underlying137 Tryz.underlying44 hi hcmp
  have hq := eq_nilR (P := Tryz.prog) w 44 (.int .i64 a) Tryz.underlying137
  have hr := eq_nilR (P := Tryz.prog) w 44 (.int .i64 b) Tryz.underlying137
  go_enter Tryz.func70, Tryz.ntmps70
  go_wp2
  refine wp_loop_rounds 1 ?_
  rw [rounds_succ]
  go_wp2
  all_goals (have hab : (a == b) = _ := ‹_›; go_ret; exact ⟨by rw [hab]; rfl, rfl⟩)
end Go.Proofs.YtnddfeidggcplaaGreat
namespace Go.Proofs.YtnddfeidggcplaaGreat

/-- The k values of a supply from s on; zero behind the last. -/
def tkZ (L : List E) (s k : Nat) : List E := (List.range k).map fun i => L.getD (s + i) 0
theorem tkZ_length (L : List E) (s k : Nat) : (tkZ L s k).length = k := by simp [tkZ]
theorem tkZ_getD (L : List E) (s k i : Nat) (h : i < k) : (tkZ L s k).getD i 0 = L.getD (s + i) 0 := by simp [tkZ, List.getD, h]
theorem tkZ_succ (L : List E) (s k : Nat) : tkZ L s (k + 1) = tkZ L s k ++ [L.getD (s + k) 0] := by
  unfold tkZ
  rw [List.range_succ, List.map_append]
  rfl
/-- A round with the values xs from 1 on. -/
def simRow (v : E) (xs : List E) : List E := (v - xs.getD 0 0) :: xs
def simV (v : E) (co L : List E) (D : Nat) : Nat → E
  | 0 => v
  | i + 1 => atE (simRow (simV v co L D i) (tkZ L (i * D) D)) (co.getD i 0)
def simA (v : E) (co L : List E) (D i : Nat) : List E := simRow (simV v co L D i) (tkZ L (i * D) D)
/-- The values of the polynomial of degree at most k + 1 that is -1 at 0, 1 at 1 and 0 at the other nodes. -/
def basE (k : Nat) : List E := intE (-1) :: intE 1 :: List.replicate k 0
/-- The last round: values xs from 2 on, sum c, value fin at r. -/
def clsE (c r fin : E) (xs : List E) : Option (List E) :=
  if atE (basE xs.length) r = 0 then none else
    some ((c - (fin - atE (c :: 0 :: xs) r) * einv (atE (basE xs.length) r)) :: ((fin - atE (c :: 0 :: xs) r) * einv (atE (basE xs.length) r)) :: xs)
def simE (v : E) (co L : List E) (D : Nat) (fin : E) : List (List E) :=
  if co.length = 0 then [] else
    match clsE (simV v co L D (co.length - 1)) (co.getD (co.length - 1) 0) fin (tkZ L ((co.length - 1) * D) (D - 1)) with
    | none => []
    | some row => (List.range (co.length - 1)).map (simA v co L D) ++ [row]
theorem simRow_length (v : E) (xs : List E) : (simRow v xs).length = xs.length + 1 := rfl
theorem simA_length (v : E) (co L : List E) (D i : Nat) : (simA v co L D i).length = D + 1 := by
  unfold simA
  rw [simRow_length, tkZ_length]
theorem simRow_ends (v : E) (xs : List E) : endsE (simRow v xs) = v := by
  show v - xs.getD 0 0 + xs.getD 0 0 = v
  generalize xs.getD 0 0 = y
  apply E.ext_ <;> simp only [add_a, add_b, sub_a, sub_b] <;> grind
theorem one_int : intE 1 = 1 := by decide +kernel
theorem neg_int : intE (-1) = 0 - 1 := by decide +kernel
theorem sub_self_add (a b : E) : a - b + b = a := by apply E.ext_ <;> simp only [add_a, add_b, sub_a, sub_b] <;> grind
theorem sub_mul_neg (c y : E) : c - y = c + y * (0 - 1) := by
  have h1 : y * (0 - 1) + y * 1 = y * ((0 - 1) + 1) := (E.mul_add _ _ _).symm
  rw [sub_self_add, E.mul_one, E.mul_comm y 0, E.zero_mul] at h1
  generalize y * (0 - 1) = z at *
  rw [show c - y = c - y + (z + y) by rw [h1, E.add_zero]]
  clear h1
  apply E.ext_ <;> simp only [add_a, add_b, sub_a, sub_b] <;> grind
theorem cls_lin (c y : E) (xs : List E) : (c - y) :: y :: xs = linR (c :: 0 :: xs) y (basE xs.length) := by
  apply List.ext_getElem
  · rw [linR_length]
    simp [basE]
  · intro i h1 h2
    match i with
    | 0 => simp only [linR, List.getElem_map, List.getElem_range, List.getElem_cons_zero]; rw [sub_mul_neg, ← neg_int]; rfl
    | 1 => simp only [linR, List.getElem_map, List.getElem_range, List.getElem_cons_succ, List.getElem_cons_zero]; show y = 0 + y * intE 1; rw [one_int, E.mul_one, E.zero_add]
    | i + 2 =>
      simp only [List.length_cons] at h1
      have hx : i < xs.length := by omega
      simp [linR, basE, List.getD, hx, E.mul_comm y, E.zero_mul, E.add_zero]
theorem cls_some {c r fin : E} {xs row : List E} (h : clsE c r fin xs = some row) : row.length = xs.length + 2 ∧ endsE row = c ∧ atE row r = fin ∧ (∀ k, row.getD (k + 2) 0 = xs.getD k 0) ∧ atE (basE xs.length) r ≠ 0 := by
  unfold clsE at h
  split at h
  · cases h
  · rename_i hs
    cases h
    refine ⟨rfl, sub_self_add _ _, ?_, fun k => rfl, hs⟩
    rw [cls_lin, atE_lin _ _ _ _ (by simp [basE]), E.mul_assoc, einv_mul _ hs, E.mul_one]
    generalize atE (c :: 0 :: xs) r = s
    apply E.ext_ <;> simp only [add_a, add_b, sub_a, sub_b] <;> grind
/-- The simulated rounds, when there are any. -/
theorem simE_facts (v : E) (co L : List E) (D : Nat) (fin : E) (hD : 1 ≤ D) (h : (simE v co L D fin).length ≠ 0) :
    (simE v co L D fin).length = co.length ∧ ∀ i g r, (simE v co L D fin)[i]? = some g → co[i]? = some r → g.length = D + 1 ∧ g.getD 0 0 + g.getD 1 0 = (if i < co.length then simV v co L D i else fin) ∧ atE g r = (if i + 1 < co.length then simV v co L D (i + 1) else fin) ∧ ∀ k, (if i + 1 < co.length then 1 else 2) ≤ k → k ≤ D → g.getD k 0 = L.getD (i * D + k - (if i + 1 < co.length then 1 else 2)) 0 := by
  unfold simE at h ⊢
  by_cases h0 : co.length = 0
  · rw [if_pos h0] at h
    exact absurd rfl h
  rw [if_neg h0] at h ⊢
  obtain ⟨n, hn⟩ : ∃ n, co.length = n + 1 := ⟨co.length - 1, by omega⟩
  rw [hn, Nat.add_sub_cancel] at h ⊢
  cases hc : clsE (simV v co L D n) (co.getD n 0) fin (tkZ L (n * D) (D - 1)) with
  | none => rw [hc] at h; exact absurd rfl h
  | some row =>
    obtain ⟨q1, q2, q3, q4, -⟩ := cls_some hc
    rw [tkZ_length] at q1
    refine ⟨by simp, fun i g r hg hr => ?_⟩
    have hi : i < n + 1 := by rw [← hn]; exact (List.getElem?_eq_some_iff.1 hr).1
    simp only at hg
    rw [if_pos hi]
    by_cases hin : i < n
    · rw [List.getElem?_append_left (by simpa using hin)] at hg
      simp only [List.getElem?_map, List.getElem?_range hin, Option.map_some, Option.some.injEq] at hg
      subst hg
      have hco : co.getD i 0 = r := by simp [List.getD, hr]
      refine ⟨simA_length _ _ _ _ _, simRow_ends _ _, by rw [if_pos (by omega), ← hco]; rfl, fun k h1 h2 => ?_⟩
      rw [if_pos (by omega)] at h1 ⊢
      obtain ⟨j, rfl⟩ : ∃ j, k = j + 1 := ⟨k - 1, by omega⟩
      show (tkZ L (i * D) D).getD j 0 = _
      rw [tkZ_getD _ _ _ _ (by omega)]
      rfl
    · obtain rfl : i = n := by omega
      rw [List.getElem?_append_right (by simp)] at hg
      simp at hg
      subst hg
      have hco : co.getD i 0 = r := by simp [List.getD, hr]
      refine ⟨by omega, q2, by rw [if_neg (by omega), ← hco]; exact q3, fun k h1 h2 => ?_⟩
      rw [if_neg (by omega)] at h1 ⊢
      obtain ⟨j, rfl⟩ : ∃ j, k = j + 2 := ⟨k - 2, by omega⟩
      rw [q4, tkZ_getD _ _ _ _ (by omega)]
      rfl
theorem simE_len0 (v : E) (co L : List E) (D : Nat) (fin : E) (hD : 1 ≤ D) (h0 : 0 < co.length) : (simE v co L D fin).length = 0 ↔ atE (basE (D - 1)) (co.getD (co.length - 1) 0) = 0 := by
  unfold simE
  rw [if_neg (by omega)]
  unfold clsE
  rw [tkZ_length]
  split
  · rename_i h
    split at h
    · rename_i hs
      exact ⟨fun _ => hs, fun _ => rfl⟩
    · cases h
  · rename_i row h
    split at h
    · cases h
    · rename_i hs
      exact ⟨fun h => by simp at h, fun h => absurd h hs⟩
theorem simE_ok (v : E) (co L : List E) (D : Nat) (fin : E) (hD : 1 ≤ D) (hD3 : D ≤ 3) (h : (simE v co L D fin).length ≠ 0) : vrfE (D : Int) v (simE v co L D fin) co = (fin, 0) := by
  obtain ⟨h1, h2⟩ := simE_facts v co L D fin hD h
  have h0 : 0 < co.length := by omega
  unfold vrfE
  rw [if_neg (by omega), Int.toNat_natCast]
  have key := steps_ok D (simE v co L D fin) co (fun i => if i < co.length then simV v co L D i else fin) h1 (fun i g r hg hr => ⟨(h2 i g r hg hr).1, (h2 i g r hg hr).2.1, (h2 i g r hg hr).2.2.1⟩)
  simp only [if_pos h0] at key
  rw [show simV v co L D 0 = v from rfl, h1, if_neg (Nat.lt_irrefl _)] at key
  exact key
end Go.Proofs.YtnddfeidggcplaaGreat
namespace Go.Proofs.YtnddfeidggcplaaGreat
open Go.RowKit

set_option maxRecDepth 100000 in
set_option maxHeartbeats 400000 in
theorem gSupply (A : Option Addr) (n cap : Nat) (w : World) : Calls Tryz.prog 68 #[.slice A n cap] w fun e w' =>
    e = .returned (.func (.func 110) #[] #[.pointer (some ⟨w.heap.size, 0, none⟩)]) ∧ w' = w.alloc (.cells #[.slice A n cap] 22) := by
  go_enter Tryz.func68, Tryz.ntmps68
  go_wp2
  go_ret
  exact ⟨rfl, rfl⟩
theorem next_end {M : World → Prop} {W : World} {h b : Nat} {t1 t2 : TypeId} {c1 c2 v1 v2 u0 u : Value} (bV : Blk W h t1 #[c1, c2]) (bW : Blk W b t2 #[u0]) (hbh : b < h)
    (H : ∀ X, Blk X h t1 #[v1, v2] → Blk X b t2 #[u] → Keeps (fun g => g ≠ h ∧ g ≠ b) W X → Below b W X → M X) : M ((((W.setCell ⟨h, 0, none⟩ v1).setCell ⟨h, 1, none⟩ v2).setCell ⟨b, 0, none⟩ u).drew) := by
  have hne : h ≠ b := by omega
  refine H _ ?_ ?_ ?_ ?_
  · have h1 := ((bV.set_ 0 v1).set_ 1 v2).far (p := ⟨b, 0, none⟩) hne u
    exact h1
  · have h1 := ((bW.far (p := ⟨h, 0, none⟩) hne.symm v1).far (p := ⟨h, 1, none⟩) hne.symm v2).set_ 0 u
    exact h1
  · have p1 := Put.set W h 0 v1
    have p2 := Put.set (W.setCell ⟨h, 0, none⟩ v1) h 1 v2
    have p3 := Put.set ((W.setCell ⟨h, 0, none⟩ v1).setCell ⟨h, 1, none⟩ v2) b 0 u
    refine ⟨?_, fun g hg _ => ?_⟩
    · show W.heap.size ≤ (((W.setCell ⟨h, 0, none⟩ v1).setCell ⟨h, 1, none⟩ v2).setCell ⟨b, 0, none⟩ u).heap.size
      rw [p3.size, p2.size, p1.size]
      exact Nat.le_refl _
    · show (((W.setCell ⟨h, 0, none⟩ v1).setCell ⟨h, 1, none⟩ v2).setCell ⟨b, 0, none⟩ u).heap[g]? = _
      rw [p3.other g hg.2, p2.other g hg.1, p1.other g hg.1]
  · have h1 : Below b W (((W.setCell ⟨h, 0, none⟩ v1).setCell ⟨h, 1, none⟩ v2).setCell ⟨b, 0, none⟩ u) := below_put (below_put (below_put (Below.refl _ _) (Put.set W h 0 v1) (by omega)) (Put.set _ h 1 v2) (by omega)) (Put.set _ b 0 u) (Nat.le_refl _)
    exact ⟨h1.os, h1.tape, h1.output, h1.size, h1.block⟩
theorem exts_tail {lo hi g off cap : Nat} {w : World} {x : E} {L : List E} (h : ExtS lo hi w (.slice (some ⟨g, off, none⟩) (x :: L).length cap) (x :: L)) : ExtS lo hi w (.slice (if cap = 1 then some ⟨g, off, none⟩ else some ⟨g, off + 2, none⟩) L.length (cap - 1)) L := by
  obtain ⟨h1, h2, A, c, h3, h4, h5⟩ := h
  cases h3
  simp only [List.length_cons] at h2 h4
  obtain ⟨g', off', q1, q2, q3, q4, q5⟩ := h5 (by simp)
  cases q1
  refine ⟨flat_length ec_len L, by omega, _, _, rfl, by omega, fun h0 => ⟨g, off + 2, ?_, q2, q3, q4, fun i u hu => ?_⟩⟩
  · rw [if_neg (by omega)]
  · have := q5 (i + 2) u (by rw [List.flatMap_cons]; exact hu)
    rwa [show off + 2 + i = off + (i + 2) by omega]
set_option maxRecDepth 100000 in
set_option maxHeartbeats 2000000 in
theorem gNext (L : List E) (b lo hi : Nat) (A : Option Addr) (cap : Nat) (w : World) (hb : Blk w b 22 #[.slice A L.length cap]) (hL : ExtS lo hi w (.slice A L.length cap) L) (hbl : hi ≤ b) :
    Calls Tryz.prog 110 #[.pointer (some ⟨b, 0, none⟩)] w fun e w' => e = .returned (ev (L.headD 0)) ∧ ∃ A' cap', Blk w' b 22 #[.slice A' L.tail.length cap'] ∧ ExtS lo hi w' (.slice A' L.tail.length cap') L.tail ∧ Keeps (fun g => g ≠ b) w w' ∧ Below b w w' := by
  cases L with
  | nil =>
    have hs := Lib.hid hL
    clear hL
    unfold ev
    go_enter Tryz.func110, Tryz.ntmps110
    go_upto_region 1 with (fail)
    refine wp_stk1 fun W hB hz bV => ?_
    have bW := hb.keep hB
    have e0 := bW.cell
    have e1 := bV.cell
    have e2 := bV.frozen
    have hne := hb.lt
    go_wp2_with fail
    have hbw := below_set2 (c := .int .u64 0) (d := .int .u64 0) hB (Nat.le_refl w.heap.size)
    refine bodyPost_ret (v := .agg #[.int .u64 0, .int .u64 0]) (by simp [results, Tryz.results110, go_sem, e1]) rfl ⟨rfl, A, cap, hb.keep hbw, Rd.keep hs.out hbw, Keeps.of_below hbw, hbw.mono (Nat.le_of_lt hb.lt)⟩
  | cons x L =>
    obtain ⟨g, off, cap', hv, hcap, -, hg, l, q⟩ := exts_cells hL (by simp)
    cases hv
    obtain ⟨d1, d2⟩ := q 0 x rfl
    rw [Nat.zero_mul, Nat.add_zero] at d1 d2
    have hlen := hL.2.1
    have HL := Lib.hid hL
    clear hL q
    unfold ev
    rw [show (x :: L).length = L.length + 1 from rfl] at hb hcap hlen
    obtain ⟨n, hn⟩ : ∃ n, n = L.length := ⟨_, rfl⟩
    rw [← hn] at hb hcap hlen
    have HN := Lib.hid hn
    clear hn
    go_enter Tryz.func110, Tryz.ntmps110
    go_upto_region 1 with (fail)
    refine wp_stk1 fun W hB hz bV => ?_
    have bW := hb.keep hB
    have e0 := bW.cell
    have e3 := bW.frozen
    have e1 := bV.cell
    have e2 := bV.frozen
    have hne := hb.lt
    have f1 := (hB.cell (p := ⟨g, off, none⟩) l).trans d1
    have f2 := (hB.cell (p := ⟨g, off + 1, none⟩) l).trans d2
    clear d1 d2
    go_wp2
    go_region
    generalize hA2 : (if cap = 1 then some (⟨g, off, none⟩ : Addr) else some ⟨g, off + 2, none⟩) = A2
    have HA2 := Lib.hid hA2
    clear hA2
    refine next_end (M := fun X => Exit.then _ _ Exit.normal _ X) bV bW hne fun X b1 b2 hK hBX => ?_
    clear e0 e1 e2 e3 f1 f2
    have e1 := b1.cell
    have e2 := b1.frozen
    go_wp2_with fail
    have p1 := Put.set X w.heap.size 0 (.int .u64 (fv x.a))
    have p2 := Put.set (X.setCell ⟨w.heap.size, 0, none⟩ (.int .u64 (fv x.a))) w.heap.size 1 (.int .u64 (fv x.b))
    have hKX : Keeps (fun g => g ≠ b) w ((X.setCell ⟨w.heap.size, 0, none⟩ (.int .u64 (fv x.a))).setCell ⟨w.heap.size, 1, none⟩ (.int .u64 (fv x.b))) := ⟨by
      have := hK.size
      have := hB.size
      rw [p2.size, p1.size]; omega, fun k hk hl => by
      have h2 := hB.size
      rw [p2.other k (by omega), p1.other k (by omega), hK.same k ⟨by omega, hk⟩ (by omega), hB.block k hl]⟩
    have hn := HN.out
    subst hn
    refine bodyPost_ret (v := .agg #[.int .u64 (fv x.a), .int .u64 (fv x.b)]) (by simp [results, Tryz.results110, go_sem, e1]) rfl ⟨rfl, _, _, p2.blk (p1.blk b2 (by omega)) (by omega), by have := exts_tail (Keeps.rd HL.out hKX fun k _ h2 => by omega); rw [HA2.out] at this; exact this, hKX, below_put (below_put ((hB.mono (Nat.le_of_lt hne)).trans hBX) p1 (Nat.le_of_lt hne)) p2 (Nat.le_of_lt hne)⟩
end Go.Proofs.YtnddfeidggcplaaGreat
namespace Go.Proofs.YtnddfeidggcplaaGreat
open Go.RowKit

theorem setE2 {M : World → Prop} {w : World} {g : Nat} {t : TypeId} {cs : List E} (b : Blk w g t (cs.flatMap ec).toArray) (x y : E) (h2 : 2 ≤ cs.length) (h : ∀ X, Put w X g → Blk X g t (((cs.set 0 x).set 1 y).flatMap ec).toArray → M X) :
    M ((((w.setCell ⟨g, 0, none⟩ (.int .u64 (fv x.a))).setCell ⟨g, 1, none⟩ (.int .u64 (fv x.b))).setCell ⟨g, 2, none⟩ (.int .u64 (fv y.a))).setCell ⟨g, 3, none⟩ (.int .u64 (fv y.b))) := by
  have h1 := blk_setE (blk_setE b 0 x (by omega)) 1 y (by rw [List.length_set]; omega)
  simp only [Nat.zero_mul, Nat.zero_add, Nat.one_mul, Nat.reduceAdd] at h1
  exact h _ ((((Put.set w g 0 _).trans (Put.set _ g 1 _)).trans (Put.set _ g 2 _)).trans (Put.set _ g 3 _)) h1
theorem setE1 {M : World → Prop} {w : World} {g : Nat} {t : TypeId} {cs : List E} (b : Blk w g t (cs.flatMap ec).toArray) (k o1 o2 : Nat) (x : E) (h1 : o1 = k * 2) (h2 : o2 = k * 2 + 1) (hk : k < cs.length) (h : ∀ X, Put w X g → Blk X g t ((cs.set k x).flatMap ec).toArray → M X) :
    M ((w.setCell ⟨g, o1, none⟩ (.int .u64 (fv x.a))).setCell ⟨g, o2, none⟩ (.int .u64 (fv x.b))) := by
  subst h1; subst h2
  exact h _ ((Put.set w g _ _).trans (Put.set _ g _ _)) (blk_setE b k x hk)
/-- All but block g is as it was; below g, all. -/
def KB (g : Nat) (w w' : World) : Prop := Keeps (fun b => b ≠ g) w w' ∧ Below g w w'
theorem KB.keep {g : Nat} {w a b : World} (h : KB g w a) (hg : g < w.heap.size) (hb : Below a.heap.size a b) : KB g w b := ⟨h.1.trans (Keeps.of_below hb), h.2.trans (hb.mono (Nat.le_trans (Nat.le_of_lt hg) h.1.size))⟩
theorem KB.put {g : Nat} {w a b : World} (h : KB g w a) (p : Put a b g) : KB g w b := ⟨⟨by have := h.1.size; have := p.size; omega, fun j hj hl => (p.other j hj).trans (h.1.same j hj hl)⟩, below_put h.2 p (Nat.le_refl _)⟩
set_option maxRecDepth 100000 in
set_option maxHeartbeats 2000000 in
theorem gClose (a0 a1 : E) (xs : List E) (g : Nat) (c r fin : E) (hk : xs.length ≤ 900) (w : World) (hb : Blk w g 30 ((a0 :: a1 :: xs).flatMap ec).toArray) :
    Calls Tryz.prog 69 #[.slice (some ⟨g, 0, none⟩) (xs.length + 2) (xs.length + 2), ev c, ev r, ev fin] w fun e w' => (Keeps (fun b => b ≠ g) w w' ∧ Below g w w') ∧
      ((clsE c r fin xs = none ∧ e = .returned (.tuple #[nilV, .int .i64 3])) ∨
       ∃ row, clsE c r fin xs = some row ∧ e = .returned (.tuple #[.slice (some ⟨g, 0, none⟩) (xs.length + 2) (xs.length + 2), .int .i64 0]) ∧ Blk w' g 30 (row.flatMap ec).toArray) := by
  obtain ⟨k, hkl⟩ : ∃ k, k = xs.length := ⟨_, rfl⟩
  have HK := Lib.hid hkl
  rw [← hkl] at hk ⊢
  clear hkl
  have hgl := hb.lt
  unfold ev
  go_enter Tryz.func69, Tryz.ntmps69
  go_upto_region 1 with (fail)
  refine wp_stk3 fun W hB hz b1 b2 b3 => ?_
  have hWs := hz.out
  clear hz
  have hbW := hb.keep hB
  have mk := mk_ext (k + 2) (by omega) W
  rw [show ((k + 2 : Nat) : Int) = (k : Int) + 2 from rfl] at mk
  go_upto_region 2 with (fail)
  refine wp_stk1 fun V hV hzV bb => ?_
  have hVs := hzV.out
  rw [hWs] at bb
  clear hzV mk
  have hbV := hbW.keep hV
  obtain ⟨s1, s2⟩ := blk_cellE hbV (k := 0) rfl
  obtain ⟨s3, s4⟩ := blk_cellE hbV (k := 1) rfl
  have e1 := hbV.frozen
  have c1 := (b1.keep hV).cell
  go_upto_region 3 with (fail)
  refine setE2 (M := fun W => Code.wp _ _ _ _ W) hbV c 0 (by simp) fun X pX bX => ?_
  replace bX : Blk X g 30 ((c :: 0 :: xs).flatMap ec).toArray := bX
  have hXs := pX.size
  have b1X := pX.blk (b1.keep hV) (by omega)
  have b2X := pX.blk (b2.keep hV) (by omega)
  have b3X := pX.blk (b3.keep hV) (by omega)
  have bbX := pX.blk bb (by omega)
  have hKX : KB g w X := ⟨⟨by have := hB.size; omega, fun j hj hl => by
    have h1 := hB.size
    rw [pX.other j hj, hV.block j (by omega), hB.block j hl]⟩, below_put ((hB.trans (hV.mono hB.size)).mono (Nat.le_of_lt hgl)) pX (Nat.le_refl _)⟩
  have HA := Lib.hid (gAt (c :: 0 :: xs) r (by simp only [List.length_cons]; rw [← HK.out]; omega) (.slice (some ⟨g, 0, none⟩) (k + 2) (k + 2)) 0 X.heap.size X (exts_blk bX (by simp only [List.length_cons]; rw [← HK.out]) (by omega) (Nat.zero_le _) bX.lt))
  have HC := Lib.hid (show clsE c r fin xs = if atE (basE k) r = 0 then none else some ((c - (fin - atE (c :: 0 :: xs) r) * einv (atE (basE k) r)) :: ((fin - atE (c :: 0 :: xs) r) * einv (atE (basE k) r)) :: xs) by rw [HK.out]; rfl)
  clear s1 s2 s3 s4 e1 c1 hbV hbW b1 b2 b3 bb pX hb
  generalize atE (c :: 0 :: xs) r = st at *
  have c1 := b2X.cell
  go_wp2_with fail
  refine HA.out.mono ?_
  rintro e X2 ⟨he, hb2⟩
  unfold ev at he
  subst he
  replace b1X := b1X.keep hb2
  replace b2X := b2X.keep hb2
  replace b3X := b3X.keep hb2
  replace bbX := bbX.keep hb2
  replace bX := bX.keep hb2
  replace hKX := hKX.keep hgl hb2
  have hs2 := hb2.size
  clear c1 HA
  go_upto_region 4 with (fail)
  refine wp_stk1 fun X3 h3 hz3 b4 => ?_
  have hs3 := hz3.out
  clear hz3
  go_wp2_with fail
  refine (eFromInt (-1) (by decide) (by decide) X3).mono ?_
  rintro e X4 ⟨he, h4⟩
  unfold ev at he
  subst he
  go_wp2_with fail
  refine (eFromInt 1 (by decide) (by decide) X4).mono ?_
  rintro e X5 ⟨he, h5⟩
  unfold ev at he
  subst he
  have h25 := h3.trans ((h4.trans (h5.mono h4.size)).mono h3.size)
  replace b1X := b1X.keep h25
  replace b2X := b2X.keep h25
  replace b3X := b3X.keep h25
  replace bbX := bbX.keep h25
  replace bX := bX.keep h25
  replace b4 := (b4.keep h4).keep h5
  replace hKX := hKX.keep hgl h25
  have hs25 := h25.size
  have hs45 := (h4.trans (h5.mono h4.size)).size
  obtain ⟨s1, s2⟩ := blk_cellE bbX (k := 0) (x := 0) (by simp)
  obtain ⟨s3, s4⟩ := blk_cellE bbX (k := 1) (x := 0) (by simp)
  have e1 := bbX.frozen
  go_upto_region 5 with (fail)
  refine setE2 (M := fun W => Code.wp _ _ _ _ W) bbX (intE (-1)) (intE 1) (by simp) fun Y pY bY => ?_
  replace bY : Blk Y (w.heap.size + 1 + 1 + 1) 30 ((basE k).flatMap ec).toArray := bY
  have hYs := pY.size
  replace b1X := pY.blk b1X (by omega)
  replace b2X := pY.blk b2X (by omega)
  replace b3X := pY.blk b3X (by omega)
  replace b4 := pY.blk b4 (by omega)
  replace bX := pY.blk bX (by omega)
  replace hKX : KB g w Y := ⟨⟨by have := hKX.1.size; omega, fun j hj hl => (pY.other j (by omega)).trans (hKX.1.same j hj hl)⟩, below_put hKX.2 pY (by omega)⟩
  have hlY := hKX.1.size
  have HA := Lib.hid (gAt (basE k) r (by simp only [basE, List.length_cons, List.length_replicate]; omega) (.slice (some ⟨w.heap.size + 1 + 1 + 1, 0, none⟩) (k + 2) (k + 2)) 0 Y.heap.size Y (exts_blk bY (by simp only [basE, List.length_cons, List.length_replicate]) (by omega) (Nat.zero_le _) bY.lt))
  generalize atE (basE k) r = sl at *
  clear s1 s2 s3 s4 e1 bbX
  have c2 := b2X.cell
  go_wp2_with fail
  refine HA.out.mono ?_
  rintro e Y2 ⟨he, hb2'⟩
  unfold ev at he
  subst he
  replace b1X := b1X.keep hb2'
  replace b3X := b3X.keep hb2'
  replace b4 := b4.keep hb2'
  replace bX := bX.keep hb2'
  replace hKX := hKX.keep hgl hb2'
  have hsY := hb2'.size
  clear c2 HA b2X bY
  go_wp2_with fail
  by_cases h0 : sl = 0
  · have HC2 := Lib.hid (HC.out.trans (if_pos h0))
    clear HC
    subst h0
    refine (eInv0 Y2).mono ?_
    rintro e Y3 ⟨rfl, hb3⟩
    replace hKX := hKX.keep hgl hb3
    unfold ev
    go_upto_region 6 with (fail)
    refine wp_stk1 fun Y4 h4' hz4 b5 => ?_
    replace hKX := hKX.keep hgl h4'
    clear hz4 b5
    go_wp2_with fail
    refine (gIs 3 3 Y4).mono ?_
    rintro e w2 ⟨rfl, rfl⟩
    go_wp2_with fail
    refine bodyPost_ret (v := .tuple #[nilV, .int .i64 3]) (by simp [nilV, results, Tryz.results69, go_sem]) rfl ⟨hKX, .inl ⟨HC2.out, rfl⟩⟩
  · refine (eInv sl h0 Y2).mono ?_
    rintro e Y3 ⟨rfl, hb3⟩
    obtain ⟨iv, hiv⟩ : ∃ iv, iv = einv sl := ⟨_, rfl⟩
    have HC2 := Lib.hid (HC.out.trans (if_neg h0))
    rw [← hiv] at HC2 ⊢
    clear HC h0 hiv
    replace b1X := b1X.keep hb3
    replace b3X := b3X.keep hb3
    replace b4 := b4.keep hb3
    replace bX := bX.keep hb3
    replace hKX := hKX.keep hgl hb3
    have hs3' := hb3.size
    unfold ev
    go_upto_region 6 with (fail)
    refine wp_stk1 fun Y4 h4' hz4 b5 => ?_
    have hs4' := hz4.out
    clear hz4
    replace b1X := b1X.keep h4'
    replace b3X := b3X.keep h4'
    replace b4 := b4.keep h4'
    replace bX := bX.keep h4'
    replace hKX := hKX.keep hgl h4'
    go_wp2_with fail
    refine (gIs 0 3 Y4).mono ?_
    rintro e w2 ⟨rfl, rfl⟩
    go_upto_region 8 with (fail)
    have y1 := gw_blk b3X
    have y2 := gw_blk b4
    have y3 := gw_blk b5
    refine wp_region_rg 7 [(3, Spec.val (.agg #[.int .u64 (fv (fin - st).a), .int .u64 (fv (fin - st).b)])), (5, Spec.val (.agg #[.int .u64 (fv ((fin - st) * iv).a), .int .u64 (fv ((fin - st) * iv).b)]))] (by kernel_rfl) (by kernel_rfl) (by kernel_rfl) trivial ?_
    refine rg_det rfl rfl rfl (fun K hK => ?_)
    go_big_quiet_op
    refine hK _ ?_; clear hK K
    refine rg_det rfl rfl rfl (fun K hK => ?_)
    go_big_quiet_op
    refine hK _ ?_; clear hK K
    refine rg_det rfl rfl rfl (fun K hK => ?_)
    go_big_quiet_op
    refine hK _ ?_; clear hK K
    refine rg_val rfl rfl (fun W1 hW1 hF => step_callv en_attestor_ext_Sub (eSub fin st W1) rfl rfl) ?_
    intro a' ha
    simp only [Act.put, List.setIfInBounds_toArray, List.set_cons_succ, List.set_cons_zero] at ha
    subst ha
    refine rg_det rfl rfl rfl (fun K hK => ?_)
    go_big_quiet_op
    refine hK _ ?_; clear hK K
    refine rg_val rfl rfl (fun W1 hW1 hF => step_callv en_attestor_ext_Mul (eMul (fin - st) iv W1) rfl rfl) ?_
    intro a' ha
    simp only [Act.put, List.setIfInBounds_toArray, List.set_cons_succ, List.set_cons_zero] at ha
    subst ha
    refine rg_det rfl rfl rfl (fun K hK => ?_)
    go_big_quiet_op
    refine hK _ ?_; clear hK K
    refine rg_nil (fun w' hw' hF => ?_)
    obtain ⟨z8, rfl⟩ := hw'
    simp only [List.drop_succ_cons, List.drop_zero]
    clear hF y1 y2 y3
    obtain ⟨Z, hZ⟩ : ∃ Z, Z = z8.w := ⟨_, rfl⟩
    have hzh := z8.h
    rw [← hZ] at hzh ⊢
    clear hZ
    replace b1X := b1X.keep hzh
    replace bX := bX.keep hzh
    replace hKX := hKX.keep hgl hzh
    have hsz := hzh.size
    obtain ⟨q, hq⟩ : ∃ q, q = (fin - st) * iv := ⟨_, rfl⟩
    rw [← hq] at HC2 ⊢
    clear hq
    obtain ⟨s1, s2⟩ := blk_cellE bX (k := 1) (x := 0) rfl
    have e1 := bX.frozen
    go_upto_region 9 with (fail)
    refine setE1 (M := fun W => Code.wp _ _ _ _ W) bX 1 _ _ q rfl rfl (by simp) fun V8 p8 b8 => ?_
    replace b8 : Blk V8 g 30 ((c :: q :: xs).flatMap ec).toArray := b8
    have hs8 := p8.size
    replace b1X := p8.blk b1X (by omega)
    replace hKX : KB g w V8 := hKX.put p8
    clear s1 s2 e1 bX p8
    have y1 := gw_blk b1X
    obtain ⟨s3, s4⟩ := blk_cellE b8 (k := 1) (x := q) rfl
    have y2 := gw_cell b8.lt s3
    have y3 := gw_cell b8.lt s4
    simp only [Nat.one_mul, Nat.reduceAdd] at y2 y3
    clear s3 s4
    refine wp_region_rg 7 [(5, Spec.val (.agg #[.int .u64 (fv (c - q).a), .int .u64 (fv (c - q).b)]))] (by kernel_rfl) (by kernel_rfl) (by kernel_rfl) trivial ?_
    refine rg_det rfl rfl rfl (fun K hK => ?_)
    go_big_quiet_op
    refine hK _ ?_; clear hK K
    refine rg_det rfl rfl rfl (fun K hK => ?_)
    go_big_quiet_op
    refine hK _ ?_; clear hK K
    refine rg_det rfl rfl rfl (fun K hK => ?_)
    go_big_quiet_op
    refine hK _ ?_; clear hK K
    refine rg_det rfl rfl rfl (fun K hK => ?_)
    go_big_quiet_op
    refine hK _ ?_; clear hK K
    refine rg_det rfl rfl rfl (fun K hK => ?_)
    go_big_quiet_op
    refine hK _ ?_; clear hK K
    refine rg_val rfl rfl (fun W1 hW1 hF => step_callv en_attestor_ext_Sub (eSub c q W1) rfl rfl) ?_
    intro a' ha
    simp only [Act.put, List.setIfInBounds_toArray, List.set_cons_succ, List.set_cons_zero] at ha
    subst ha
    refine rg_det rfl rfl rfl (fun K hK => ?_)
    go_big_quiet_op
    refine hK _ ?_; clear hK K
    refine rg_nil (fun w' hw' hF => ?_)
    obtain ⟨z9, rfl⟩ := hw'
    simp only [List.drop_succ_cons, List.drop_zero]
    clear hF y1 y2 y3
    obtain ⟨Z9, hZ⟩ : ∃ Z, Z = z9.w := ⟨_, rfl⟩
    have hzh := z9.h
    rw [← hZ] at hzh ⊢
    clear hZ
    replace b8 := b8.keep hzh
    replace hKX := hKX.keep hgl hzh
    obtain ⟨s1, s2⟩ := blk_cellE b8 (k := 0) (x := c) rfl
    have e1 := b8.frozen
    go_upto_region 10 with (fail)
    refine setE1 (M := fun W => Code.wp _ _ _ _ W) b8 0 _ _ (c - q) rfl rfl (by simp) fun V9 p9 b9 => ?_
    replace b9 : Blk V9 g 30 (((c - q) :: q :: xs).flatMap ec).toArray := b9
    replace hKX : KB g w V9 := hKX.put p9
    clear s1 s2 e1 b8 p9
    go_wp2_with fail
    refine bodyPost_ret (v := .tuple #[.slice (some ⟨g, 0, none⟩) (k + 2) (k + 2), .int .i64 0]) (by simp [results, Tryz.results69, go_sem]) rfl ⟨hKX, .inr ⟨_, HC2.out, rfl, b9⟩⟩
end Go.Proofs.YtnddfeidggcplaaGreat
namespace Go.Proofs.YtnddfeidggcplaaGreat
open Go.RowKit

/-- A row of D + 1 values of which m are filled from first on. -/
def rowN (D first : Nat) (L : List E) (m : Nat) : List E := rngL (D + 1) fun j => if first ≤ j ∧ j < first + m then L.getD (j - first) 0 else 0
theorem rowN_zero (D first : Nat) (L : List E) : rowN D first L 0 = List.replicate (D + 1) 0 := by
  rw [rngL_zero]
  refine rngL_congr _ _ _ fun j _ => ?_
  rw [if_neg (by omega)]
theorem rowN_length (D first : Nat) (L : List E) (m : Nat) : (rowN D first L m).length = D + 1 := rngL_length _ _
theorem rowN_set (D first : Nat) (L : List E) (m : Nat) : (rowN D first L m).set (first + m) ((L.drop m).headD 0) = rowN D first L (m + 1) := by
  unfold rowN
  rw [rngL_set]
  refine rngL_congr _ _ _ fun j _ => ?_
  by_cases h : j = first + m
  · subst h
    rw [if_pos rfl, if_pos (by omega), show first + m - first = m by omega]
    rw [List.headD_eq_head?_getD, List.head?_drop, List.getD_eq_getElem?_getD]
  · rw [if_neg h]
    by_cases h2 : first ≤ j ∧ j < first + m
    · rw [if_pos h2, if_pos (by omega)]
    · rw [if_neg h2, if_neg (by omega)]
theorem rowN_get (D first : Nat) (L : List E) (m j : Nat) (h : j < D + 1) : (rowN D first L m)[j]? = some (if first ≤ j ∧ j < first + m then L.getD (j - first) 0 else 0) := rngL_get _ _ _ h
theorem tkZ_drop (L : List E) (s k : Nat) : tkZ (L.drop s) 0 k = tkZ L s k := by
  unfold tkZ
  refine List.map_congr_left fun i _ => ?_
  rw [List.getD_eq_getElem?_getD, List.getElem?_drop, List.getD_eq_getElem?_getD, Nat.zero_add]
theorem rowN_one (D : Nat) (L : List E) (hD : 1 ≤ D) : rowN D 1 L D = 0 :: tkZ L 0 D := by
  apply List.ext_getElem?
  intro j
  by_cases h : j < D + 1
  · rw [rowN_get _ _ _ _ _ h]
    cases j with
    | zero => rfl
    | succ j => rw [if_pos (by omega)]; simp [tkZ, show j < D by omega]
  · rw [List.getElem?_eq_none (by rw [rowN_length]; omega), List.getElem?_eq_none (by rw [List.length_cons, tkZ_length]; omega)]
theorem rowN_two (D : Nat) (L : List E) (hD : 1 ≤ D) : rowN D 2 L (D - 1) = 0 :: 0 :: tkZ L 0 (D - 1) := by
  apply List.ext_getElem?
  intro j
  by_cases h : j < D + 1
  · rw [rowN_get _ _ _ _ _ h]
    match j with
    | 0 => rfl
    | 1 => rfl
    | j + 2 => rw [if_pos (by omega)]; simp [tkZ, show j < D - 1 by omega]
  · rw [List.getElem?_eq_none (by rw [rowN_length]; omega), List.getElem?_eq_none (by rw [List.length_cons, List.length_cons, tkZ_length]; omega)]
/-- The rounds that are made before round i. -/
def simT (v : E) (co L : List E) (D : Nat) (fin : E) (i : Nat) : List (List E) := if i < co.length then (List.range i).map (simA v co L D) else simE v co L D fin
theorem simT_zero (v : E) (co L : List E) (D : Nat) (fin : E) : simT v co L D fin 0 = [] := by
  unfold simT
  by_cases h : co.length = 0
  · rw [if_neg (by omega)]
    unfold simE
    rw [if_pos h]
  · rw [if_pos (by omega)]; rfl
theorem simT_succ (v : E) (co L : List E) (D : Nat) (fin : E) (i : Nat) (h : i + 1 < co.length) : simT v co L D fin (i + 1) = simT v co L D fin i ++ [simRow (simV v co L D i) (tkZ (L.drop (i * D)) 0 D)] := by
  unfold simT
  rw [if_pos h, if_pos (by omega), List.range_succ, List.map_append, tkZ_drop]
  rfl
theorem simT_length (v : E) (co L : List E) (D : Nat) (fin : E) (i : Nat) (h : i < co.length) : (simT v co L D fin i).length = i := by
  unfold simT
  rw [if_pos h]
  simp
theorem simT_last (v : E) (co L : List E) (D : Nat) (fin : E) (i : Nat) (h : i + 1 = co.length) : simE v co L D fin = match clsE (simV v co L D i) (co.getD i 0) fin (tkZ (L.drop (i * D)) 0 (D - 1)) with
    | none => []
    | some row => simT v co L D fin i ++ [row] := by
  unfold simE simT
  rw [if_neg (by omega), show co.length - 1 = i by omega, if_pos (by omega), tkZ_drop]
  try (generalize clsE _ _ _ _ = o; cases o <;> rfl)
theorem simT_last0 (v : E) (co L : List E) (D : Nat) (fin : E) (i : Nat) (h : i + 1 = co.length) (hc : clsE (simV v co L D i) (co.getD i 0) fin (tkZ (L.drop (i * D)) 0 (D - 1)) = none) : simE v co L D fin = [] := by
  rw [simT_last v co L D fin i h, hc]
theorem simT_last1 (v : E) (co L : List E) (D : Nat) (fin : E) (i : Nat) (h : i + 1 = co.length) (row : List E) (hc : clsE (simV v co L D i) (co.getD i 0) fin (tkZ (L.drop (i * D)) 0 (D - 1)) = some row) : simT v co L D fin i ++ [row] = simE v co L D fin := by
  rw [simT_last v co L D fin i h, hc]
theorem simT_end (v : E) (co L : List E) (D : Nat) (fin : E) (i : Nat) (h : ¬ i < co.length) : simT v co L D fin i = simE v co L D fin := if_neg h
theorem RowT.kb {base g : Nat} {w X : World} {u : Value} {ts : List (List E)} (h : RowT base w u ts) (k : KB g w X) (hg : g < base) : RowT base X u ts := by
  obtain ⟨us, ⟨h1, h1'⟩, h2, h3⟩ := h
  refine ⟨us, ⟨h1, h1'.imp id ?_⟩, h2, fun k' x t hx ht => ?_⟩
  · rintro ⟨b, cap, cur, q1, q2, q3, q4⟩
    refine ⟨b, cap, cur, q1, q2, (k.1.same b (by omega) ?_).trans q3, q4⟩
    rcases Nat.lt_or_ge b w.heap.size with hl | hl
    · exact hl
    · rw [Array.getElem?_eq_none hl] at q3; cases q3
  · obtain ⟨lo, hi, q1, q2, q3, q4⟩ := h3 k' x t hx ht
    exact ⟨lo, hi, q1, Nat.le_trans q2 k.1.size, q3, Keeps.rd q4 k.1 (fun b h1 _ => by omega)⟩
theorem step_appT {ops : Array Oper} {o : Oper} {a : Act} {K : Act → World → Prop} {Q : Exit → Act → World → Prop} {EE : Prop} {X : World} {base n lo hi : Nat} {t : TypeId} {ts : List (List E)} {u x : Value} {y : List E} (hgd : o.guard = none) (s p : Operand)
    (ho : o.op = .call { callee := .builtin .append, args := #[s, p], argTypes := #[t, t] }) (ht : Tryz.prog.underlying t = some (.slice 22)) (hs : a.eval s = u) (hx : a.eval p = .slice (some ⟨n, 0, none⟩) 1 1) (hrow : RowT base X u ts) (hsrc : Blk X n 22 #[x]) (hxc : x.oneCell' = true)
    (hE : ExtS lo hi X x y) (hlo : base ≤ lo) (hhi : hi ≤ X.heap.size) (hout : Outside lo hi u) (hk : ts.length ≤ 100000) (hbase : base ≤ X.heap.size)
    (h : ∀ v' w', RowT base w' v' (ts ++ [y]) → Below base X w' → X.grownBy w' u.ownBlock → (v'.ownBlock = u.ownBlock ∨ v'.ownBlock = some X.heap.size) → K (a.put o.dst v') w') :
    if Region.wanted o (yielded ops a.tmps) = true then Oper.wp Tryz.prog o a X K Q else EE := by
  obtain ⟨i0, hi0, hz0, hz1, hz2⟩ := info_parts sl_info
  obtain ⟨us, h1, h2, h3⟩ := hrow
  refine step_append_lies X hgd s p t ho base 22 i0 _ _ _ ht hi0 hz0 hz1 hz2 rfl (by decide) u ts.length us hs h1 ⟨n, 0, none⟩ 1 1 [x] hx rfl (blk_news hsrc) (fun v hv => by rw [List.mem_singleton.1 hv]; exact hxc) (by decide) (by unfold maxLen; omega) (by omega) hbase X.heap.size rfl fun g cap w' hown hgrow hat hlt => ?_
  have hB : Below base X w' := (Below.refl _ _).grown hgrow hbase (fun g hg => (own_block h1 hg).1)
  have hob : (Value.slice (some ⟨g, 0, none⟩) (ts.length + 1) cap).ownBlock = u.ownBlock ∨ (Value.slice (some ⟨g, 0, none⟩) (ts.length + 1) cap).ownBlock = some X.heap.size := by
    rcases hat with e | e
    · exact .inl e.symm
    · exact .inr (by rw [← e]; rfl)
  have hkept : ∀ lo hi, hi ≤ X.heap.size → Outside lo hi u → Kept lo hi X w' := fun lo hi hh ho => Kept.of_grown hgrow ho hh
  refine h _ w' ⟨us ++ [x], by simpa using hown, by simp [h2], fun k z t' hz ht' => ?_⟩ hB hgrow hob
  by_cases hkl : k < us.length
  · rw [List.getElem?_append_left hkl] at hz
    rw [List.getElem?_append_left (by omega)] at ht'
    obtain ⟨lo', hi', q1, q2, q3, q4⟩ := h3 k z t' hz ht'
    exact ⟨lo', hi', q1, Nat.le_trans q2 hB.size, q3.next hob q2, rd_kept q4 (hkept _ _ q2 q3) hB.size⟩
  · have hkk : k < (us ++ [x]).length := (List.getElem?_eq_some_iff.1 hz).1
    simp only [List.length_append, List.length_cons, List.length_nil] at hkk
    obtain rfl : k = us.length := by omega
    rw [List.getElem?_append_right (Nat.le_refl _), Nat.sub_self] at hz
    rw [List.getElem?_append_right (by omega), h2, Nat.sub_self] at ht'
    simp only [List.getElem?_cons_zero, Option.some.injEq] at hz ht'
    subst hz
    subst ht'
    exact ⟨lo, hi, hlo, Nat.le_trans hhi hB.size, hout.next hob hhi, rd_kept hE (hkept _ _ hhi hout) hB.size⟩
theorem step_appU {ops : Array Oper} {o : Oper} {a : Act} {K : Act → World → Prop} {Q : Exit → Act → World → Prop} {EE : Prop} {X : World} {base n lo hi : Nat} {t : TypeId} {ts : List (List E)} {u x : Value} {y : List E} (V : World) (hgd : o.guard = none) (s p : Operand)
    (ho : o.op = .call { callee := .builtin .append, args := #[s, p], argTypes := #[t, t] }) (ht : Tryz.prog.underlying t = some (.slice 22)) (hs : a.eval s = u) (hx : a.eval p = .slice (some ⟨n, 0, none⟩) 1 1) (hX : Below V.heap.size V X) (hrow : RowT base V u ts) (hsrc : Blk X n 22 #[x]) (hxc : x.oneCell' = true)
    (hE : ExtS lo hi V x y) (hlo : base ≤ lo) (hhi : hi ≤ V.heap.size) (hout : Outside lo hi u) (hk : ts.length ≤ 100000) (hbase : base ≤ V.heap.size)
    (h : ∀ v' w', RowT base w' v' (ts ++ [y]) → Below base V w' → ExtS lo hi w' x y → (∀ g t cs, Blk V g t cs → some g ≠ u.ownBlock → Blk w' g t cs) → K (a.put o.dst v') w') :
    if Region.wanted o (yielded ops a.tmps) = true then Oper.wp Tryz.prog o a X K Q else EE :=
  step_appT hgd s p ho ht hs hx (hrow.keep hX) hsrc hxc (Rd.keep hE hX) hlo (Nat.le_trans hhi hX.size) hout hk (Nat.le_trans hbase hX.size) fun v' w' h1 h2 h3 _ =>
    h v' w' h1 ((hX.mono hbase).trans h2) (rd_kept (Rd.keep hE hX) (Kept.of_grown h3 hout (Nat.le_trans hhi hX.size)) h3.size) (fun _ _ _ b hne => grown_blk h3 (b.keep hX) hne)
theorem below_alD (w : World) (o : Obj) : Below w.heap.size w (w.alloc o).drew := by
  have h := (Below.refl w.heap.size w).alloc (Nat.le_refl _) o
  exact ⟨h.os, h.tape, h.output, h.size, h.block⟩
theorem below_al (w : World) (o : Obj) : Below w.heap.size w (w.alloc o) := (Below.refl w.heap.size w).alloc (Nat.le_refl _) o
theorem below_D (w : World) : Below w.heap.size w w.drew := ⟨rfl, rfl, rfl, Nat.le_refl _, fun _ _ => rfl⟩
end Go.Proofs.YtnddfeidggcplaaGreat
namespace Go.Proofs.YtnddfeidggcplaaGreat
open Go.RowKit

/-- What Simulate hands back. -/
def SimR (w : World) (rs : List (List E)) (e : Ending) (w' : World) : Prop := ∃ v, e = .returned v ∧ TabS w.heap.size w'.heap.size w' v rs ∧ Below w.heap.size w w'
theorem simE_le (v : E) (co L : List E) (D : Nat) (fin : E) : (simE v co L D fin).length ≤ co.length := by
  unfold simE
  split
  · simp
  · split
    · simp
    · simp; omega
theorem KB.blk {g k : Nat} {w a : World} {t : TypeId} {cs : Array Value} (h : KB g w a) (b : Blk w k t cs) (hne : k ≠ g) : Blk a k t cs := (h.1.same k hne b.lt).trans b
theorem KB.next {g : Nat} {w a b : World} (h : KB g w a) (k : Keeps (fun j => j ≠ g) a b) (kb : Below g a b) : KB g w b := ⟨h.1.trans k, h.2.trans kb⟩
theorem KB.putHi {g k : Nat} {w a b : World} (h : KB g w a) (p : Put a b k) (hk : w.heap.size ≤ k) (hgk : g ≤ k) : KB g w b := ⟨⟨by have := h.1.size; have := p.size; omega, fun j hj hl => (p.other j (by omega)).trans (h.1.same j hj hl)⟩, below_put h.2 p hgk⟩
theorem KB.nextHi {g k : Nat} {w a b : World} (h : KB g w a) (kk : KB k a b) (hk : w.heap.size ≤ k) (hgk : g ≤ k) : KB g w b :=
  ⟨⟨Nat.le_trans h.1.size kk.1.size, fun j hj hl => (kk.1.same j (by omega) (Nat.lt_of_lt_of_le hl h.1.size)).trans (h.1.same j hj hl)⟩, h.2.trans (kk.2.mono hgk)⟩
theorem rowN_end1 (D : Nat) (R : List E) (hD : 1 ≤ D) : ∃ y ys, rowN D 1 R D = 0 :: y :: ys ∧ tkZ R 0 D = y :: ys ∧ ys.length + 2 = D + 1 := by
  have h := tkZ_length R 0 D
  cases hh : tkZ R 0 D with
  | nil => rw [hh] at h; simp at h; omega
  | cons y ys => rw [hh] at h; simp at h; exact ⟨y, ys, by rw [rowN_one D R hD, hh], rfl, by omega⟩
theorem rowN_end2 (D : Nat) (R : List E) (hD : 1 ≤ D) : ∃ y ys, rowN D 2 R (D - 1) = 0 :: y :: ys ∧ (y = 0 ∧ ys = tkZ R 0 (D - 1)) ∧ ys.length + 2 = D + 1 := ⟨0, _, rowN_two D R hD, ⟨rfl, rfl⟩, by rw [tkZ_length]; omega⟩
theorem set2K {M : World → Prop} {w : World} {g : Nat} {t : TypeId} {c1 c2 v u : Value} (b : Blk w g t #[c1, c2]) (h : ∀ X, KB g w X → Blk X g t #[v, u] → X.heap.size = w.heap.size → M X) : M ((w.setCell ⟨g, 0, none⟩ v).setCell ⟨g, 1, none⟩ u) := by
  have p := (Put.set w g 0 v).trans (Put.set _ g 1 u)
  exact h _ ⟨⟨Nat.le_of_eq p.size.symm, fun j hj _ => p.other j hj⟩, below_put (Below.refl g w) p (Nat.le_refl _)⟩ ((b.set_ 0 v).set_ 1 u) p.size
theorem nil_tabsS (lo hi : Nat) (w : World) : TabS lo hi w nilV [] := ⟨[], rfl, rd_nil _ _ _ _ _ _, fun k u t h => by simp at h⟩
/-- What lies below the rows of a simulation. -/
structure EndS (w : World) (cells : Array Value) (x : E) (sl : Value) (R : List E) (W : World) : Prop where
  bs : Blk W (w.heap.size + 1) 57 cells
  bx : Blk W w.heap.size 30 #[.int .u64 (fv x.a), .int .u64 (fv x.b)]
  bl : Blk W (w.heap.size + 1 + 1) 22 #[sl]
  hR : ExtS 0 w.heap.size W sl R
  hB : Below w.heap.size w W
  hs : w.heap.size + 1 + 1 + 1 < W.heap.size
theorem EndS.below {w W W' : World} {cells : Array Value} {x : E} {sl : Value} {R : List E} {N : Nat} (h : EndS w cells x sl R W) (hb : Below N W W') (hN : w.heap.size + 1 + 1 + 1 ≤ N) : EndS w cells x sl R W' :=
  ⟨h.bs.below hb (by omega), h.bx.below hb (by omega), h.bl.below hb (by omega), h.hR.other hb.size fun g _ h2 _ => hb.block g (by omega), h.hB.trans (hb.mono (by omega)), Nat.lt_of_lt_of_le h.hs hb.size⟩
structure SmS (w : World) (v : E) (co L : List E) (D n : Nat) (cells : Array Value) (i : Nat) (wr : World) : Prop where
  bx : ∃ x : E, Blk wr w.heap.size 30 #[.int .u64 (fv x.a), .int .u64 (fv x.b)] ∧ (i < n → x = simV v co L D i)
  bs : Blk wr (w.heap.size + 1) 57 cells
  bl : ∃ A' cap' R, Blk wr (w.heap.size + 1 + 1) 22 #[.slice A' R.length cap'] ∧ ExtS 0 w.heap.size wr (.slice A' R.length cap') R ∧ (i < n → R = L.drop (i * D))
  hB : Below w.heap.size w wr
  hs : w.heap.size + 1 + 1 + 1 < wr.heap.size
theorem en_attestor_mask_Simulate : ∀ args w, (callFunc 27 args).run Tryz.prog w = .ok (.enter 27 args) w := enters_of Tryz.func27 (by kernel_rfl) rfl
set_option maxRecDepth 100000 in
set_option maxHeartbeats 4000000 in
theorem gSimulate (v : E) (co L : List E) (D : Nat) (fin : E) (hD : 1 ≤ D) (hD9 : D ≤ 900) (n : Nat) (hcn : co.length = n) (hn : n ≤ 1000) (AC AL : Option Addr) (capC capL lo hi lo2 hi2 : Nat) (w : World) (hc : ExtS lo hi w (.slice AC n capC) co) (hL : ExtS lo2 hi2 w (.slice AL L.length capL) L) :
    Calls Tryz.prog 27 #[ev v, .agg #[.slice AC n capC, .int .i64 D, .slice AL L.length capL, .int .u64 (fv fin.a), .int .u64 (fv fin.b)]] w (SimR w (simE v co L D fin) · ·) := by
  have HC := Lib.hid (ext_base hc)
  have HL := Lib.hid (ext_base hL)
  have HCN := Lib.hid hcn
  have HSm := Lib.hid hL.2.1
  have HT0 := Lib.hid (simT_zero v co L D fin)
  clear hc hL hcn
  obtain ⟨nl, hnl⟩ : ∃ nl, nl = L.length := ⟨_, rfl⟩
  rw [← hnl] at HL HSm ⊢
  have HNL := Lib.hid hnl
  clear hnl
  unfold ev
  go_enter Tryz.func27, Tryz.ntmps27
  go_upto_region 1 with (fail)
  refine wp_stk2 fun W hB hz b1 b2 => ?_
  have hWs := hz.out
  clear hz
  have c2 := b2.cell
  go_wp2_with fail
  refine (gSupply AL nl capL W).mono ?_
  rintro e W2 ⟨rfl, rfl⟩
  go_upto_region 2 with (fail)
  refine wp_stk2 fun V hV hzV b3 b4 => ?_
  have hVs := hzV.out
  rw [hWs] at hVs b3 b4
  clear hzV c2
  have own0 : V.ownsRow (w.heap.size + 1 + 1 + 1) 22 1 (.slice (some ⟨w.heap.size + 1 + 1 + 1, 0, none⟩) 0 0) 0 [] := ⟨rfl, .inr ⟨w.heap.size + 1 + 1 + 1, 0, #[], rfl, Nat.le_refl _, b4, Nat.le_refl _, Nat.zero_le _, rfl, rfl⟩⟩
  have HRo := Lib.hid (show RowT (w.heap.size + 1 + 1 + 1) V (.slice (some ⟨w.heap.size + 1 + 1 + 1, 0, none⟩) 0 0) [] from ⟨[], own0, rfl, fun k x t h => by simp at h⟩)
  have hBV := hB.trans (hV.mono hB.size)
  obtain ⟨cells, hcells⟩ : ∃ cells : Array Value, cells = #[.slice AC n capC, .int .i64 D, .slice AL nl capL, .int .u64 (fv fin.a), .int .u64 (fv fin.b)] := ⟨_, rfl⟩
  have HS0 := Lib.hid (show SmS w v co L D n cells 0 V from ⟨⟨v, b1.keep hV, fun _ => rfl⟩, by rw [hcells]; exact b2.keep hV, ⟨AL, capL, L, by rw [← HNL.out]; exact b3, by have := Rd.keep HL.out hBV; rw [← HNL.out]; exact this, fun _ => by rw [Nat.zero_mul]; rfl⟩, hBV, by omega⟩)
  have c2 := (b2.keep hV).cell
  clear own0 b3 b4 b1 b2 hV hB
  go_wp2_with fail
  clear c2
  go_loopw [6, 20] (fun u ix wr => ∃ i : Nat, i ≤ n ∧ ix = .int .i64 i ∧ RowT (w.heap.size + 1 + 1 + 1) wr u (simT v co L D fin i) ∧ SmS w v co L D n cells i wr) (fun _ ix _ => n - (intOf ix).toNat)
  case atStart => exact ⟨0, Nat.zero_le _, rfl, by rw [HT0.out]; exact HRo.out, HS0.out⟩
  case round =>
    obtain ⟨i, hi, rfl, hrow, hS⟩ := hrel
    clear hBV
    by_cases hlt : i < n
    · obtain ⟨⟨x, bx, hx⟩, bs, ⟨A', cap', R, bl, hR, hRd⟩, hBw, hsz⟩ := hS
      obtain ⟨gc, oc, cc, hv, -, -, hgc, lc, qc⟩ := exts_cells (Rd.keep HC.out hBw) (by rw [HCN.out]; omega)
      rw [HCN.out] at hv
      cases hv
      obtain ⟨r, hr⟩ : ∃ r, co[i]? = some r := ⟨_, List.getElem?_eq_getElem (by rw [HCN.out]; exact hlt)⟩
      obtain ⟨d1, d2⟩ := qc i r hr
      have HRI := Lib.hid hr
      have HX := Lib.hid (hx hlt)
      have HRD := Lib.hid (hRd hlt)
      have HCells := Lib.hid hcells
      clear hx hRd qc hr hcells
      obtain ⟨wo, hwo⟩ : ∃ wo, wo = wr := ⟨_, rfl⟩
      subst hwo
      go_upto_region 5 with (fail)
      refine wp_stk1 fun X hX hzX b8 => ?_
      have hXs := hzX.out
      clear d1 d2 hzX
      have mk := mk_ext (D + 1) (by omega) X
      rw [show ((D + 1 : Nat) : Int) = (D : Int) + 1 from rfl] at mk
      have e0 := (bs.keep hX).cell
      rw [HCells.out] at e0
      go_upto_region 6 with (fail)
      refine wp_stk1 fun Y hY hzY bR => ?_
      have hYs := hzY.out
      rw [hXs] at bR
      clear e0 mk hzY
      have hXY := hX.trans (hY.mono hX.size)
      have bxX := bx.keep hX
      have bsX := bs.keep hX
      have blY := bl.keep hXY
      have hRY := Rd.keep hR hXY
      have hBX := hBw.trans (hX.mono hBw.size)
      have hrowX := hrow.keep hX
      have HOb := Lib.hid (fun g (hg : u6.ownBlock = some g) => hrow.block hg)
      clear bx bs bl hR hrow
      have e0 := (bsX.keep hY).cell
      rw [HCells.out] at e0
      by_cases hlast : i + 1 = n
      · have q1 : ((i : Int) == (n : Int) - 1) = true := by simp; omega
        rw [← rowN_zero D 2 R] at bR
        go_wp2_with fail
        clear e0
        go_loopw [11] (fun xx wr => ∃ m : Nat, m + 2 ≤ D + 1 ∧ xx = .int .i64 ((m : Int) + 2) ∧ Blk wr (wo.heap.size + 1) 30 ((rowN D 2 R m).flatMap ec).toArray ∧ (∃ A2 c2, Blk wr (w.heap.size + 1 + 1) 22 #[.slice A2 (R.drop m).length c2] ∧ ExtS 0 w.heap.size wr (.slice A2 (R.drop m).length c2) (R.drop m)) ∧ KB (w.heap.size + 1 + 1) X wr) (fun xx _ => D + 2 - (intOf xx).toNat)
        case atStart => exact ⟨0, by omega, by go_num, bR, ⟨A', cap', blY, hRY⟩, ⟨Keeps.of_below hY, hY.mono (by omega)⟩⟩
        case round =>
          obtain ⟨m, hm, rfl, bRr, ⟨A2, c2, blr, hRr⟩, hK⟩ := hrel
          clear bR blY hRY
          have e0 := (hK.blk bsX (by omega)).cell
          rw [HCells.out] at e0
          by_cases hx : m + 2 ≤ D
          · go_wp2_with fail
            refine (gNext (R.drop m) (w.heap.size + 1 + 1) 0 w.heap.size A2 c2 wr blr hRr (by omega)).mono ?_
            rintro e w2 ⟨he, A3, c3, bl3, hR3, hK3, hB3⟩
            unfold ev at he
            obtain ⟨y, hy⟩ : ∃ y, y = (R.drop m).headD 0 := ⟨_, rfl⟩
            rw [← hy] at he
            subst he
            rw [List.tail_drop] at bl3 hR3
            have bR2 : Blk w2 (wo.heap.size + 1) 30 ((rowN D 2 R m).flatMap ec).toArray := (hK3.same _ (by omega) bRr.lt).trans bRr
            have hK2 := hK.next hK3 hB3
            obtain ⟨s1, s2⟩ := blk_cellE bR2 (rowN_get D 2 R m (m + 2) (by omega))
            have e1 := bR2.frozen
            have HSet := Lib.hid (rowN_set D 2 R m)
            rw [Nat.add_comm 2 m, ← hy] at HSet
            clear e0 bRr blr hRr hK hK3 hB3 hy
            go_wp2_with fail
            clear s1 s2 e1
            have p2 := (Put.set w2 (wo.heap.size + 1) ((m + 2) * 2) (.int .u64 (fv y.a))).trans (Put.set _ (wo.heap.size + 1) ((m + 2) * 2 + 1) (.int .u64 (fv y.b)))
            refine ⟨⟨m + 1, by omega, by go_num, ?_, ⟨A3, c3, blk_farE bl3 (by omega), p2.rd hR3 (.inr (by omega))⟩, hK2.putHi p2 (by omega) (by omega)⟩, by simp [intOf]; omega⟩
            have := blk_setE bR2 (m + 2) y (by rw [rowN_length]; omega)
            rwa [HSet.out] at this
          · obtain ⟨y, ys, hrw, hys, hyl⟩ := rowN_end2 D R hD
            rw [show m = D - 1 by omega, hrw] at bRr
            have HYS := Lib.hid hys
            have HYL := Lib.hid hyl
            clear hrw hys hyl e0
            have bxr := hK.blk bxX (by omega)
            have hbR := bRr.lt
            have y1 := gw_blk bxr
            obtain ⟨s1, s2⟩ := blk_cellE bRr (k := 1) (x := y) rfl
            have y2 := gw_cell bRr.lt s1
            have y3 := gw_cell bRr.lt s2
            simp only [Nat.one_mul, Nat.reduceAdd] at y2 y3
            clear s1 s2 bxr
            have e0 := (hK.blk bsX (by omega)).cell
            rw [HCells.out] at e0
            go_wp2_with fail
            clear e0
            refine wp_region_rg 7 [(5, Spec.val (.agg #[.int .u64 (fv (x - y).a), .int .u64 (fv (x - y).b)]))] (by kernel_rfl) (by kernel_rfl) (by kernel_rfl) trivial ?_
            refine rg_det rfl rfl rfl (fun K hK => ?_)
            go_big_quiet_op
            refine hK _ ?_; clear hK K
            refine rg_det rfl rfl rfl (fun K hK => ?_)
            go_big_quiet_op
            refine hK _ ?_; clear hK K
            refine rg_det rfl rfl rfl (fun K hK => ?_)
            go_big_quiet_op
            refine hK _ ?_; clear hK K
            refine rg_det rfl rfl rfl (fun K hK => ?_)
            go_big_quiet_op
            refine hK _ ?_; clear hK K
            refine rg_det rfl rfl rfl (fun K hK => ?_)
            go_big_quiet_op
            refine hK _ ?_; clear hK K
            refine rg_val rfl rfl (fun W1 hW1 hF => step_callv en_attestor_ext_Sub (eSub x y W1) rfl rfl) ?_
            intro a' ha
            simp only [Act.put, List.setIfInBounds_toArray, List.set_cons_succ, List.set_cons_zero] at ha
            subst ha
            refine rg_det rfl rfl rfl (fun K hK => ?_)
            go_big_quiet_op
            refine hK _ ?_; clear hK K
            refine rg_nil (fun w' hw' hF => ?_)
            obtain ⟨zA, rfl⟩ := hw'
            simp only [List.drop_succ_cons, List.drop_zero]
            clear hF y1 y2 y3
            obtain ⟨Z, hZ⟩ : ∃ Z, Z = zA.w := ⟨_, rfl⟩
            have hzh := zA.h
            rw [← hZ] at hzh ⊢
            clear hZ
            have bRz := bRr.keep hzh
            have hKz := hK.keep (by omega) hzh
            have blz := blr.keep hzh
            have hRz := Rd.keep hRr hzh
            clear bRr hK blr hRr
            obtain ⟨s1, s2⟩ := blk_cellE bRz (k := 0) (x := 0) rfl
            have e1 := bRz.frozen
            go_upto_region 13 with (fail)
            refine setE1 (M := fun W => Code.wp _ _ _ _ W) bRz 0 _ _ (x - y) rfl rfl (by simp) fun V8 p8 b9 => ?_
            replace b9 : Blk V8 (wo.heap.size + 1) 30 (((x - y) :: y :: ys).flatMap ec).toArray := b9
            have hK8 := hKz.putHi p8 (by omega) (by omega)
            have bl8 := p8.blk blz (by omega)
            have hR8 := p8.rd hRz (.inr (by omega))
            clear s1 s2 e1 bRz hKz blz hRz p8 hzh
            have HL0 := Lib.hid (show clsE x r fin ys = none → simE v co L D fin = [] from fun hc => simT_last0 v co L D fin i (by rw [HCN.out]; exact hlast) (by rw [← HX.out, show co.getD i 0 = r by simp [List.getD, HRI.out], ← HRD.out, ← HYS.out.2]; exact hc))
            have HL1 := Lib.hid (show ∀ row, clsE x r fin ys = some row → simT v co L D fin i ++ [row] = simT v co L D fin (i + 1) from fun row hc => by rw [simT_end v co L D fin (i + 1) (by rw [HCN.out]; omega)]; exact simT_last1 v co L D fin i (by rw [HCN.out]; exact hlast) row (by rw [← HX.out, show co.getD i 0 = r by simp [List.getD, HRI.out], ← HRD.out, ← HYS.out.2]; exact hc))
            have HRc := Lib.hid (show i + 1 < n → R.drop m = L.drop ((i + 1) * D) from fun h => absurd h (by omega))
            have hCl := fun W b => gClose (x - y) y ys (wo.heap.size + 1) x r fin (by have := HYL.out; omega) W b
            rw [HYL.out] at hCl
            have HCl := Lib.hid (hCl V8 b9)
            have e0 := (hK8.blk bsX (by omega)).cell
            rw [HCells.out] at e0
            have e1 := (hK8.blk bxX (by omega)).cell
            have e2 := (hK8.blk b8 (by omega)).cell
            have hb9 := b9.lt
            clear hCl b9
            go_wp2_with fail
            refine HCl.out.mono ?_
            rintro e w2 ⟨hkc', ⟨hc, rfl⟩ | ⟨row, hc, rfl, b9⟩⟩ <;> have hkc : KB (wo.heap.size + 1) V8 w2 := hkc'
            · have hBw2 := hBX.trans (hK8.2.mono (by omega))
              have hBw3 := hBw2.trans (hkc.2.mono (by omega))
              have HE := Lib.hid (HL0.out hc)
              clear e0 e1 e2 hc HCl
              go_wp2_with fail
              refine (gIs 3 0 w2).mono ?_
              rintro e w3 ⟨rfl, rfl⟩
              go_wp2_with fail
              go_ret
              exact ⟨nilV, rfl, by rw [HE.out]; exact nil_tabsS _ _ _, hBw3⟩
            · have HSc := Lib.hid (HL1.out row hc)
              have HVc := Lib.hid (show i + 1 < n → atE row r = simV v co L D (i + 1) from fun h => absurd h (by omega))
              have hrl0 := (cls_some hc).1
              have hK9 := hK8.nextHi hkc (by omega) (by omega)
              have bl9 := hkc.blk bl8 (by omega)
              have hR9 := Keeps.rd hR8 hkc.1 (fun g _ h2 => by omega)
              clear e0 e1 e2 hc HCl hK8 bl8 hR8 hkc
              have hK8 := hK9
              have bl8 := bl9
              have hR8 := hR9
              clear hK9 bl9 hR9
              go_wp2_with fail
              refine (gIs 0 0 w2).mono ?_
              rintro e w3 ⟨rfl, rfl⟩
              have hrow9 := hrowX.kb hK8 (by omega)
              have b89 := hK8.blk b8 (by omega)
              have bx9 := hK8.blk bxX (by omega)
              have hrl : (row).length = D + 1 := by have := HYL.out; omega
              have hE9 : ExtS (wo.heap.size + 1) (wo.heap.size + 2) w3 (.slice (some ⟨wo.heap.size + 1, 0, none⟩) (D + 1) (D + 1)) (row) := exts_blk b9 hrl (by omega) (Nat.le_refl _) (by omega)
              have hout := hrowX.out (lo := wo.heap.size + 1) (hi := wo.heap.size + 2) (by omega)
              have hTl : (simT v co L D fin i).length ≤ 100000 := by rw [simT_length _ _ _ _ _ _ (by rw [HCN.out]; exact hlt)]; omega
              have HAt := Lib.hid (fun W1 (hE : ExtS (wo.heap.size + 1) (wo.heap.size + 2) W1 (.slice (some ⟨wo.heap.size + 1, 0, none⟩) (D + 1) (D + 1)) (row)) => gAt (row) r (by omega) _ _ _ W1 hE)
              have hb9 := b9.lt
              go_wp2_with fail
              have e8 := b89.cell
              have hN := EndS.mk (hK8.blk bsX (by omega)) bx9 bl8 hR8 (hBX.trans (hK8.2.mono (by omega))) (by omega)
              clear hK8 bl8 hR8 bx9 b9
              have hTw := Lib.hid hTl
              have e8d := (b89.keep (below_alD w3 (.cells #[.slice (some ⟨wo.heap.size + 1, 0, none⟩) (D + 1) (D + 1)] 22))).cell
              clear hTl
              go_region_law (first
                | (refine step_appU (base := w.heap.size + 1 + 1 + 1) (u := u6) (x := .slice (some ⟨wo.heap.size + 1, 0, none⟩) (D + 1) (D + 1)) (y := row) (lo := wo.heap.size + 1) (hi := wo.heap.size + 2) (ts := simT v co L D fin i) w3 rfl (.tmp 70) (.tmp 72) rfl Tryz.underlying37 rfl rfl (by first | exact below_alD _ _ | exact below_al _ _) hrow9 (Blk.new w3 _ _) rfl hE9 (by omega) (by omega) hout hTw.out (by omega) fun v' w' hr1 hB1 hE1 hg1 => ?_
                   have hN1 := hN.below hB1 (Nat.le_refl _)
                   have e81 := (hg1 _ _ _ b89 (fun e => absurd (HOb.out _ e.symm).2 (by omega))).cell)
                | (go_simp
                   go_at_call 40
                   refine (HAt.out _ hE1).mono ?_
                   rintro e w2 ⟨he, hb2⟩
                   unfold ev at he
                   subst he
                   have hN2 := hN1.below hb2 (Nat.le_of_lt hN1.hs)
                   have hr2 := hr1.keep hb2
                   have e2 := hN2.bx.cell
                   have e3 := hN2.bx.frozen))
              all_goals
                refine set2K (M := fun X => Exit.inBlock _ _ Exit.normal _ X) hN2.bx fun W9 hKW bW hsW => ?_
                clear e2 e3 e8 e8d e81 hN hrow9
                go_wp2_with fail
                exact ⟨⟨i + 1, by omega, by go_num, by rw [← HSc.out]; exact hr2.kb hKW (by omega), ⟨⟨_, bW, HVc.out⟩, hKW.blk hN2.bs (by omega), ⟨_, _, _, hKW.blk hN2.bl (by omega), Keeps.rd hN2.hR hKW.1 (fun g _ h2 => by omega), HRc.out⟩, hN2.hB.trans hKW.2, by have := hN2.hs; omega⟩⟩, by simp [intOf]; omega⟩
      · have q1 : ((i : Int) == (n : Int) - 1) = false := by simp; omega
        rw [← rowN_zero D 1 R] at bR
        go_wp2_with fail
        clear e0
        go_loopw [11] (fun xx wr => ∃ m : Nat, m + 1 ≤ D + 1 ∧ xx = .int .i64 ((m : Int) + 1) ∧ Blk wr (wo.heap.size + 1) 30 ((rowN D 1 R m).flatMap ec).toArray ∧ (∃ A2 c2, Blk wr (w.heap.size + 1 + 1) 22 #[.slice A2 (R.drop m).length c2] ∧ ExtS 0 w.heap.size wr (.slice A2 (R.drop m).length c2) (R.drop m)) ∧ KB (w.heap.size + 1 + 1) X wr) (fun xx _ => D + 2 - (intOf xx).toNat)
        case atStart => exact ⟨0, by omega, by go_num, bR, ⟨A', cap', blY, hRY⟩, ⟨Keeps.of_below hY, hY.mono (by omega)⟩⟩
        case round =>
          obtain ⟨m, hm, rfl, bRr, ⟨A2, c2, blr, hRr⟩, hK⟩ := hrel
          clear bR blY hRY
          have e0 := (hK.blk bsX (by omega)).cell
          rw [HCells.out] at e0
          by_cases hx : m + 1 ≤ D
          · go_wp2_with fail
            refine (gNext (R.drop m) (w.heap.size + 1 + 1) 0 w.heap.size A2 c2 wr blr hRr (by omega)).mono ?_
            rintro e w2 ⟨he, A3, c3, bl3, hR3, hK3, hB3⟩
            unfold ev at he
            obtain ⟨y, hy⟩ : ∃ y, y = (R.drop m).headD 0 := ⟨_, rfl⟩
            rw [← hy] at he
            subst he
            rw [List.tail_drop] at bl3 hR3
            have bR2 : Blk w2 (wo.heap.size + 1) 30 ((rowN D 1 R m).flatMap ec).toArray := (hK3.same _ (by omega) bRr.lt).trans bRr
            have hK2 := hK.next hK3 hB3
            obtain ⟨s1, s2⟩ := blk_cellE bR2 (rowN_get D 1 R m (m + 1) (by omega))
            have e1 := bR2.frozen
            have HSet := Lib.hid (rowN_set D 1 R m)
            rw [Nat.add_comm 1 m, ← hy] at HSet
            clear e0 bRr blr hRr hK hK3 hB3 hy
            go_wp2_with fail
            clear s1 s2 e1
            have p2 := (Put.set w2 (wo.heap.size + 1) ((m + 1) * 2) (.int .u64 (fv y.a))).trans (Put.set _ (wo.heap.size + 1) ((m + 1) * 2 + 1) (.int .u64 (fv y.b)))
            refine ⟨⟨m + 1, by omega, by go_num, ?_, ⟨A3, c3, blk_farE bl3 (by omega), p2.rd hR3 (.inr (by omega))⟩, hK2.putHi p2 (by omega) (by omega)⟩, by simp [intOf]; omega⟩
            have := blk_setE bR2 (m + 1) y (by rw [rowN_length]; omega)
            rwa [HSet.out] at this
          · obtain ⟨y, ys, hrw, hys, hyl⟩ := rowN_end1 D R hD
            rw [show m = D by omega, hrw] at bRr
            have HYS := Lib.hid hys
            have HYL := Lib.hid hyl
            clear hrw hys hyl e0
            have bxr := hK.blk bxX (by omega)
            have hbR := bRr.lt
            have y1 := gw_blk bxr
            obtain ⟨s1, s2⟩ := blk_cellE bRr (k := 1) (x := y) rfl
            have y2 := gw_cell bRr.lt s1
            have y3 := gw_cell bRr.lt s2
            simp only [Nat.one_mul, Nat.reduceAdd] at y2 y3
            clear s1 s2 bxr
            have e0 := (hK.blk bsX (by omega)).cell
            rw [HCells.out] at e0
            go_wp2_with fail
            clear e0
            refine wp_region_rg 7 [(5, Spec.val (.agg #[.int .u64 (fv (x - y).a), .int .u64 (fv (x - y).b)]))] (by kernel_rfl) (by kernel_rfl) (by kernel_rfl) trivial ?_
            refine rg_det rfl rfl rfl (fun K hK => ?_)
            go_big_quiet_op
            refine hK _ ?_; clear hK K
            refine rg_det rfl rfl rfl (fun K hK => ?_)
            go_big_quiet_op
            refine hK _ ?_; clear hK K
            refine rg_det rfl rfl rfl (fun K hK => ?_)
            go_big_quiet_op
            refine hK _ ?_; clear hK K
            refine rg_det rfl rfl rfl (fun K hK => ?_)
            go_big_quiet_op
            refine hK _ ?_; clear hK K
            refine rg_det rfl rfl rfl (fun K hK => ?_)
            go_big_quiet_op
            refine hK _ ?_; clear hK K
            refine rg_val rfl rfl (fun W1 hW1 hF => step_callv en_attestor_ext_Sub (eSub x y W1) rfl rfl) ?_
            intro a' ha
            simp only [Act.put, List.setIfInBounds_toArray, List.set_cons_succ, List.set_cons_zero] at ha
            subst ha
            refine rg_det rfl rfl rfl (fun K hK => ?_)
            go_big_quiet_op
            refine hK _ ?_; clear hK K
            refine rg_nil (fun w' hw' hF => ?_)
            obtain ⟨zA, rfl⟩ := hw'
            simp only [List.drop_succ_cons, List.drop_zero]
            clear hF y1 y2 y3
            obtain ⟨Z, hZ⟩ : ∃ Z, Z = zA.w := ⟨_, rfl⟩
            have hzh := zA.h
            rw [← hZ] at hzh ⊢
            clear hZ
            have bRz := bRr.keep hzh
            have hKz := hK.keep (by omega) hzh
            have blz := blr.keep hzh
            have hRz := Rd.keep hRr hzh
            clear bRr hK blr hRr
            obtain ⟨s1, s2⟩ := blk_cellE bRz (k := 0) (x := 0) rfl
            have e1 := bRz.frozen
            go_upto_region 13 with (fail)
            refine setE1 (M := fun W => Code.wp _ _ _ _ W) bRz 0 _ _ (x - y) rfl rfl (by simp) fun V8 p8 b9 => ?_
            replace b9 : Blk V8 (wo.heap.size + 1) 30 (((x - y) :: y :: ys).flatMap ec).toArray := b9
            have hK8 := hKz.putHi p8 (by omega) (by omega)
            have bl8 := p8.blk blz (by omega)
            have hR8 := p8.rd hRz (.inr (by omega))
            clear s1 s2 e1 bRz hKz blz hRz p8 hzh
            have HSc := Lib.hid (show simT v co L D fin i ++ [(x - y) :: y :: ys] = simT v co L D fin (i + 1) by
              rw [simT_succ _ _ _ _ _ _ (by rw [HCN.out]; omega), ← HRD.out, HYS.out, ← HX.out]; rfl)
            have HVc := Lib.hid (show i + 1 < n → atE ((x - y) :: y :: ys) r = simV v co L D (i + 1) from fun _ => by
              show _ = atE (simRow (simV v co L D i) (tkZ L (i * D) D)) (co.getD i 0)
              rw [← HX.out, ← tkZ_drop, ← HRD.out, HYS.out, show co.getD i 0 = r by simp [List.getD, HRI.out]]; rfl)
            have HRc := Lib.hid (show i + 1 < n → R.drop m = L.drop ((i + 1) * D) from fun _ => by rw [HRD.out, List.drop_drop, show m = D by omega, Nat.succ_mul])
            have hrow9 := hrowX.kb hK8 (by omega)
            have b89 := hK8.blk b8 (by omega)
            have bx9 := hK8.blk bxX (by omega)
            have hrl : ((x - y) :: y :: ys).length = D + 1 := by have := HYL.out; simp only [List.length_cons]; omega
            have hE9 : ExtS (wo.heap.size + 1) (wo.heap.size + 2) V8 (.slice (some ⟨wo.heap.size + 1, 0, none⟩) (D + 1) (D + 1)) ((x - y) :: y :: ys) := exts_blk b9 hrl (by omega) (Nat.le_refl _) (by omega)
            have hout := hrowX.out (lo := wo.heap.size + 1) (hi := wo.heap.size + 2) (by omega)
            have hTl : (simT v co L D fin i).length ≤ 100000 := by rw [simT_length _ _ _ _ _ _ (by rw [HCN.out]; exact hlt)]; omega
            have HAt := Lib.hid (fun W1 (hE : ExtS (wo.heap.size + 1) (wo.heap.size + 2) W1 (.slice (some ⟨wo.heap.size + 1, 0, none⟩) (D + 1) (D + 1)) ((x - y) :: y :: ys)) => gAt ((x - y) :: y :: ys) r (by omega) _ _ _ W1 hE)
            have hb9 := b9.lt
            go_wp2_with fail
            have e8 := b89.cell
            have hN := EndS.mk (hK8.blk bsX (by omega)) bx9 bl8 hR8 (hBX.trans (hK8.2.mono (by omega))) (by omega)
            clear hK8 bl8 hR8 bx9 b9
            have hTw := Lib.hid hTl
            have e8d := (b89.keep (below_alD V8 (.cells #[.slice (some ⟨wo.heap.size + 1, 0, none⟩) (D + 1) (D + 1)] 22))).cell
            clear hTl
            go_region_law (first
              | (refine step_appU (base := w.heap.size + 1 + 1 + 1) (u := u6) (x := .slice (some ⟨wo.heap.size + 1, 0, none⟩) (D + 1) (D + 1)) (y := (x - y) :: y :: ys) (lo := wo.heap.size + 1) (hi := wo.heap.size + 2) (ts := simT v co L D fin i) V8 rfl (.tmp 70) (.tmp 72) rfl Tryz.underlying37 rfl rfl (by first | exact below_alD _ _ | exact below_al _ _) hrow9 (Blk.new V8 _ _) rfl hE9 (by omega) (by omega) hout hTw.out (by omega) fun v' w' hr1 hB1 hE1 hg1 => ?_
                 have hN1 := hN.below hB1 (Nat.le_refl _)
                 have e81 := (hg1 _ _ _ b89 (fun e => absurd (HOb.out _ e.symm).2 (by omega))).cell)
              | (go_simp
                 go_at_call 40
                 refine (HAt.out _ hE1).mono ?_
                 rintro e w2 ⟨he, hb2⟩
                 unfold ev at he
                 subst he
                 have hN2 := hN1.below hb2 (Nat.le_of_lt hN1.hs)
                 have hr2 := hr1.keep hb2
                 have e2 := hN2.bx.cell
                 have e3 := hN2.bx.frozen))
            all_goals
              refine set2K (M := fun X => Exit.inBlock _ _ Exit.normal _ X) hN2.bx fun W9 hKW bW hsW => ?_
              clear e2 e3 e8 e8d e81 hN hrow9
              go_wp2_with fail
              exact ⟨⟨i + 1, by omega, by go_num, by rw [← HSc.out]; exact hr2.kb hKW (by omega), ⟨⟨_, bW, HVc.out⟩, hKW.blk hN2.bs (by omega), ⟨_, _, _, hKW.blk hN2.bl (by omega), Keeps.rd hN2.hR hKW.1 (fun g _ h2 => by omega), HRc.out⟩, hN2.hB.trans hKW.2, by have := hN2.hs; omega⟩⟩, by simp [intOf]; omega⟩
    · obtain rfl : i = n := by omega
      rw [simT_end _ _ _ _ _ _ (by rw [HCN.out]; omega)] at hrow
      have hbw := hS.hB
      go_wp2_with fail
      go_ret
      exact ⟨u6, rfl, (hrow.tabs (by have := simE_le v co L D fin; rw [HCN.out] at this; omega)).wide (by omega) (Nat.le_refl _), hbw⟩
end Go.Proofs.YtnddfeidggcplaaGreat
