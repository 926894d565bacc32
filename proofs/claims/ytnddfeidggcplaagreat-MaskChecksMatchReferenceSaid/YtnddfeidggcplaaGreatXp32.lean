/-
  math/bits.Len of small numbers, and slices.ContainsFunc over the rounds, by contract.
  What Explain of package mask computes; rows that are made one after another.
  Explain of package mask, by contract.
-/
import Derived.Test.YtnddfeidggcplaaGreatFi
import Derived.Lib.BitFns
import Derived.Test.YtnddfeidggcplaaGreatPq32
import Derived.Test.YtnddfeidggcplaaGreatMp32
import Derived.Test.YtnddfeidggcplaaGreatIp
import Derived.Test.YtnddfeidggcplaaGreatRgU
namespace Go.Proofs.YtnddfeidggcplaaGreat
open Go.RowKit

theorem len_pow : ∀ n : Nat, n ≤ 7 → Lib.bitLen (2 ^ n) = n + 1 := by decide
set_option maxRecDepth 100000 in
set_option maxHeartbeats 4000000 in
theorem gLen64 (x : Int) (h0 : 0 ≤ x) (h1 : x ≤ 255) (w : World) : Calls Tryz.prog 101 #[.int .u64 x] w fun e w' => e = .returned (.int .i64 (Lib.bitLen x.toNat)) ∧ w' = w := by
  go_enter Tryz.func101, Tryz.ntmps101
  go_wp2
  all_goals (go_ret; refine ⟨congrArg Ending.returned (congrArg (Value.int IntKind.i64) ?_), rfl⟩)
  all_goals
    rw [Lib.len8_of x (by omega) (by omega)]
    have l := Lib.bitLen_le8' x (by omega) (by omega)
    unfold wrap64
    omega
theorem gLen (n : Nat) (hn : n ≤ 7) (w : World) : Calls Tryz.prog 59 #[.int .u64 ((2 ^ n : Nat) : Int)] w fun e w' => e = .returned (.int .i64 ((n : Int) + 1)) ∧ w' = w := by
  have h2 : 2 ^ n ≤ 128 := Nat.le_trans (Nat.pow_le_pow_right (by decide) hn) (by decide)
  have h3 := len_pow n hn
  generalize 2 ^ n = x at *
  have h := gLen64 (x : Int) (by omega) (by omega) w
  rw [Int.toNat_natCast, h3] at h
  have hh := Lib.hid h
  clear h h3
  go_enter Tryz.func59, Tryz.ntmps59
  go_wp2_with fail
  refine hh.out.mono ?_
  rintro e w2 ⟨rfl, rfl⟩
  go_wp2
  go_ret
  exact ⟨by simp, rfl⟩
def anyK (n : Nat) (bs : Nat → Bool) : Bool := (List.range n).any bs
theorem anyK_true (n k : Nat) (bs : Nat → Bool) (h : k < n) (hb : bs k = true) : anyK n bs = true := List.any_eq_true.2 ⟨k, List.mem_range.2 h, hb⟩
theorem anyK_false (n : Nat) (bs : Nat → Bool) (h : ∀ k, k < n → bs k = false) : anyK n bs = false := by
  unfold anyK
  rw [List.any_eq_false]
  intro k hk
  rw [h k (List.mem_range.1 hk)]
  decide
set_option maxRecDepth 100000 in
set_option maxHeartbeats 1000000 in
theorem gIdxR (n : Nat) (hn : n ≤ 140737488355327) (bs : Nat → Bool) (u : Nat → Value) (A : Option Addr) (g off cap : Nat) (hA : 0 < n → A = some ⟨g, off, none⟩) (w : World) (F : FuncId) (cp : List Value) (hen : ∀ args w, (callFunc F args).run Tryz.prog w = .ok (.enter F args) w)
    (hcell : ∀ k W, k < n → Below w.heap.size w W → g < W.heap.size ∧ W.cell? ⟨g, off + k, none⟩ = some (u k)) (hcall : ∀ k W, k < n → Below w.heap.size w W → Calls Tryz.prog F ((u k) :: cp).toArray W (Ret (.bool (bs k)) W)) :
    Calls Tryz.prog 106 #[.slice A n cap, .func (.func F) #[] cp.toArray] w (RetR (fun _ _ v _ => ∃ r : Int, v = .int .i64 r ∧ ((anyK n bs = false ∧ r = -1) ∨ (anyK n bs = true ∧ 0 ≤ r))) w) := by
  have HC := Lib.hid hcell
  have HK := Lib.hid hcall
  have HEN := Lib.hid hen
  have HA := Lib.hid hA
  clear hcell hcall hen hA
  go_enter Tryz.func106, Tryz.ntmps106
  go_wp2
  go_loopw [8] (fun i wr => ∃ k : Nat, k ≤ n ∧ i = .int .i64 k ∧ (∀ j, j < k → bs j = false) ∧ Below w.heap.size w wr) (fun i _ => n - (intOf i).toNat)
  case atStart => exact ⟨0, Nat.zero_le _, rfl, fun j hj => absurd hj (by omega), Below.refl _ _⟩
  case round =>
    obtain ⟨k, hk, rfl, hall, hB⟩ := hrel
    have HAll := Lib.hid hall
    clear hall
    by_cases hlt : k < n
    · have hA := HA.out (by omega)
      subst hA
      obtain ⟨hgs, hc⟩ := HC.out k wr hlt hB
      have hcl := Lib.hid (HK.out k wr hlt hB)
      have hen := HEN.out
      go_wp2_with fail
      refine (Calls.mono hcl.out ?_)
      rintro e w2 ⟨rfl, hb⟩
      clear hen hc
      cases hbk : bs k
      · have HB := Lib.hid hbk
        clear hbk
        go_wp2
        exact ⟨⟨k + 1, by omega, by go_num, fun j hj => by
          rcases Nat.lt_succ_iff_lt_or_eq.1 hj with h1 | h1
          · exact HAll.out j h1
          · subst h1; exact HB.out, hB.trans (hb.mono hB.size)⟩, by simp [intOf]; omega⟩
      · have HB := Lib.hid hbk
        clear hbk
        go_wp2
        go_ret
        exact ⟨_, rfl, ⟨k, rfl, .inr ⟨anyK_true n k bs hlt HB.out, by omega⟩⟩, hB.trans (hb.mono hB.size)⟩
    · obtain rfl : k = n := by omega
      go_wp2
      go_ret
      exact ⟨_, rfl, ⟨-1, rfl, .inl ⟨anyK_false _ _ HAll.out, rfl⟩⟩, hB⟩
set_option maxRecDepth 100000 in
set_option maxHeartbeats 1000000 in
theorem gConR (n : Nat) (hn : n ≤ 140737488355327) (bs : Nat → Bool) (u : Nat → Value) (A : Option Addr) (g off cap : Nat) (hA : 0 < n → A = some ⟨g, off, none⟩) (w : World) (F : FuncId) (cp : List Value) (hen : ∀ args w, (callFunc F args).run Tryz.prog w = .ok (.enter F args) w)
    (hcell : ∀ k W, k < n → Below w.heap.size w W → g < W.heap.size ∧ W.cell? ⟨g, off + k, none⟩ = some (u k)) (hcall : ∀ k W, k < n → Below w.heap.size w W → Calls Tryz.prog F ((u k) :: cp).toArray W (Ret (.bool (bs k)) W)) :
    Calls Tryz.prog 61 #[.slice A n cap, .func (.func F) #[] cp.toArray] w (Ret (.bool (anyK n bs)) w) := by
  have HI := Lib.hid (gIdxR n hn bs u A g off cap hA w F cp hen hcell hcall)
  clear hcell hcall hen hA
  go_enter Tryz.func61, Tryz.ntmps61
  go_wp2_with fail
  refine HI.out.mono ?_
  rintro e w2 ⟨v, rfl, ⟨r, rfl, hr⟩, hb⟩
  rcases hr with ⟨h1, rfl⟩ | ⟨h1, h2⟩
  · have H1 := Lib.hid h1
    clear h1
    go_wp2
    go_ret
    exact ⟨by rw [H1.out]; rfl, hb⟩
  · have H1 := Lib.hid h1
    clear h1
    go_wp2
    go_ret
    exact ⟨by rw [H1.out]; rfl, hb⟩
theorem anyK_list {α : Type} (xs : List α) (d : α) (f : α → Bool) : anyK xs.length (fun k => f (xs.getD k d)) = xs.any f := by
  unfold anyK
  rw [Bool.eq_iff_iff, List.any_eq_true, List.any_eq_true]
  constructor
  · rintro ⟨k, hk, h⟩
    have hk := List.mem_range.1 hk
    exact ⟨xs[k], List.getElem_mem _, by simpa [List.getD, hk] using h⟩
  · rintro ⟨x, hx, h⟩
    obtain ⟨k, hk, rfl⟩ := List.getElem_of_mem hx
    exact ⟨k, List.mem_range.2 hk, by simpa [List.getD, hk] using h⟩
theorem en_attestor_mask_Explain_1 : ∀ args w, (callFunc 62 args).run Tryz.prog w = .ok (.enter 62 args) w := enters_of Tryz.func62 (by kernel_rfl) rfl
set_option maxRecDepth 100000 in
set_option maxHeartbeats 400000 in
theorem gExp1 (A A1 A2 : Option Addr) (n cap n1 c1 c2 : Nat) (ps : List Trm) (bx lo hi : Nat) (w : World) (hn : n ≤ 140737488355327) (hp : TrmS lo hi w (.slice A2 ps.length c2) ps) (hsh : ∀ p ∈ ps, p.t.length ≤ 1000) (hb : bx < w.heap.size) (e1 : w.cell? ⟨bx, 0, none⟩ = some (.slice A1 n1 c1)) (e2 : w.cell? ⟨bx, 1, none⟩ = some (.slice A2 ps.length c2)) :
    Calls Tryz.prog 62 #[.slice A n cap, .pointer (some ⟨bx, 0, none⟩)] w (Ret (.bool (decide (n ≠ degE ps + 1))) w) := by
  have HD := Lib.hid (gDegree (.slice A1 n1 c1) (.slice A2 ps.length c2) ps lo hi w hp hsh)
  have hD : degE ps ≤ 1000 := degE_le ps 1000 (by decide) hsh
  clear hp hsh
  generalize degE ps = D at *
  generalize ps.length = m at *
  unfold sv at HD
  go_enter Tryz.func62, Tryz.ntmps62
  go_wp2_with fail
  refine HD.out.mono ?_
  rintro e w2 ⟨rfl, hb2⟩
  clear e1 e2
  go_wp2_with fail
  go_ret
  exact ⟨by show Ending.returned (Value.bool ((n : Int) != (D : Int) + 1)) = _; congr 2; rw [Bool.eq_iff_iff]; simp; omega, hb2⟩
/-- Whether some round has not one value more than the degree says. -/
def badLen (d : Nat) (r : List E) : Bool := decide (r.length ≠ d + 1)
theorem gConX (rs : List (List E)) (A1 A2 : Option Addr) (n1 c1 c2 : Nat) (ps : List Trm) (bx lo hi lo2 hi2 : Nat) (v : Value) (w : World) (hg : TabS lo2 hi2 w v rs) (hp : TrmS lo hi w (.slice A2 ps.length c2) ps) (hsh : ∀ p ∈ ps, p.t.length ≤ 1000) (hb : bx < w.heap.size) (e1 : w.cell? ⟨bx, 0, none⟩ = some (.slice A1 n1 c1)) (e2 : w.cell? ⟨bx, 1, none⟩ = some (.slice A2 ps.length c2)) :
    Calls Tryz.prog 61 #[v, .func (.func 62) #[] #[.pointer (some ⟨bx, 0, none⟩)]] w (Ret (.bool (rs.any (badLen (degE ps)))) w) := by
  obtain ⟨A, cap, rfl⟩ := hg.len
  rw [← anyK_list rs [] (badLen (degE ps))]
  obtain ⟨us, h1, h2, h3⟩ := hg
  obtain ⟨g, off, hA, hc⟩ : ∃ g off, (0 < rs.length → A = some ⟨g, off, none⟩) ∧ ∀ k W, k < rs.length → Below w.heap.size w W → g < W.heap.size ∧ W.cell? ⟨g, off + k, none⟩ = some (us.getD k (.bool false)) := by
    by_cases h0 : 0 < rs.length
    · obtain ⟨g, off, cap', hv, q1, q2, q3, q4, q5⟩ := Rd.form h2 h0
      cases hv
      refine ⟨g, off, fun _ => rfl, fun k W hk hW => ?_⟩
      have d1 := q5 k (us.getD k (.bool false)) (by simp [List.getD, show k < us.length by omega])
      exact ⟨Nat.lt_of_lt_of_le q4 hW.size, (hW.cell (p := ⟨g, off + k, none⟩) q4).trans d1⟩
    · exact ⟨0, 0, fun h => absurd h h0, fun k W hk => absurd hk (by omega)⟩
  refine gConR rs.length h2.2.1 _ (fun k => us.getD k (.bool false)) A g off cap hA w _ [.pointer (some ⟨bx, 0, none⟩)] en_attestor_mask_Explain_1 hc (fun k W hk hW => ?_)
  have r := h3 k (us.getD k (.bool false)) (rs.getD k []) (by simp [List.getD, show k < us.length by omega]) (by simp [List.getD, hk])
  obtain ⟨A4, c4, h4⟩ := Rd.len r
  have hs4 := r.2.1
  generalize rs.getD k [] = t at *
  generalize us.getD k (.bool false) = u at *
  subst h4
  exact gExp1 A4 A1 A2 t.length c4 n1 c1 c2 ps bx lo hi W hs4 (hp.keep hW) hsh (Nat.lt_of_lt_of_le hb hW.size) ((hW.cell (p := ⟨bx, 0, none⟩) hb).trans e1) ((hW.cell (p := ⟨bx, 1, none⟩) hb).trans e2)
end Go.Proofs.YtnddfeidggcplaaGreat
namespace Go.Proofs.YtnddfeidggcplaaGreat
open Go.RowKit

/-! ### Explain in mathematics -/
def expRow (rho : E) (g p : List E) (k : Int) (c : E) : List E := (List.range g.length).map fun x => einv rho * (g.getD x 0 - p.getD x 0) * pwZ k - c
def expK (plain rs : List (List E)) (rho : E) (co : List E) (n : Nat) : Nat → List (List E)
  | 0 => []
  | i + 1 => expK plain rs rho co n i ++ [expRow rho (rs.getD i []) (plain.getD i []) ((i : Int) + 1 - (n : Int)) (evM (expK plain rs rho co n i) co)]
def sumOk (rs : List (List E)) (co : List E) : Bool := (List.range rs.length).all fun i => decide (i = 0) || decide (endsE (rs.getD i []) = atE (rs.getD (i - 1) []) (co.getD (i - 1) 0))
def explE (plain rs : List (List E)) (rho : E) (co : List E) (n D : Nat) : List (List E) × Int :=
  if rs.length ≠ n ∨ co.length ≠ n then ([], 1) else if rho = 0 then ([], 3) else if rs.any (badLen D) then ([], 61) else if sumOk rs co then (expK plain rs rho co n n, 0) else ([], 60)
theorem expRow_length (rho : E) (g p : List E) (k : Int) (c : E) : (expRow rho g p k c).length = g.length := by simp [expRow]
theorem expRow_get (rho : E) (g p : List E) (k : Int) (c : E) (x : Nat) (hx : x < g.length) : (expRow rho g p k c)[x]? = some (einv rho * (g.getD x 0 - p.getD x 0) * pwZ k - c) := by simp [expRow, hx]
theorem expK_length (plain rs : List (List E)) (rho : E) (co : List E) (n : Nat) : ∀ i, (expK plain rs rho co n i).length = i
  | 0 => rfl
  | i + 1 => by rw [expK, List.length_append, expK_length plain rs rho co n i]; rfl
theorem expK_take (plain rs : List (List E)) (rho : E) (co : List E) (n i : Nat) : ∀ j, (expK plain rs rho co n (i + j)).take i = expK plain rs rho co n i
  | 0 => by rw [Nat.add_zero]; exact List.take_of_length_le (by rw [expK_length]; exact Nat.le_refl _)
  | j + 1 => by
    rw [show i + (j + 1) = i + j + 1 from rfl, expK, List.take_append_of_le_length (by rw [expK_length]; omega)]
    exact expK_take plain rs rho co n i j
theorem expK_ev (plain rs : List (List E)) (rho : E) (co : List E) (n i N : Nat) (h : i ≤ N) : evM (expK plain rs rho co n i) co = evK (expK plain rs rho co n N) co i := by
  obtain ⟨j, rfl⟩ : ∃ j, N = i + j := ⟨N - i, by omega⟩
  rw [← expK_take plain rs rho co n i j, evM_take _ _ _ (by rw [expK_length]; omega)]
theorem expK_get (plain rs : List (List E)) (rho : E) (co : List E) (n i N : Nat) (h : i < N) : (expK plain rs rho co n N)[i]? = some (expRow rho (rs.getD i []) (plain.getD i []) ((i : Int) + 1 - (n : Int)) (evK (expK plain rs rho co n N) co i)) := by
  have h1 : (expK plain rs rho co n (i + 1))[i]? = some (expRow rho (rs.getD i []) (plain.getD i []) ((i : Int) + 1 - (n : Int)) (evM (expK plain rs rho co n i) co)) := by
    rw [expK, List.getElem?_append_right (by rw [expK_length]; exact Nat.le_refl _), expK_length, Nat.sub_self]; rfl
  rw [expK_ev plain rs rho co n i N (by omega)] at h1
  obtain ⟨j, rfl⟩ : ∃ j, N = i + 1 + j := ⟨N - (i + 1), by omega⟩
  rw [← h1]
  conv => rhs; rw [← expK_take plain rs rho co n (i + 1) j]
  rw [List.getElem?_take, if_pos (by omega)]
theorem sumOk_true (rs : List (List E)) (co : List E) : sumOk rs co = true ↔ ∀ i, 0 < i → i < rs.length → endsE (rs.getD i []) = atE (rs.getD (i - 1) []) (co.getD (i - 1) 0) := by
  unfold sumOk
  rw [List.all_eq_true]
  constructor
  · intro h i h0 h1
    have := h i (List.mem_range.2 h1)
    simpa [show i ≠ 0 by omega] using this
  · intro h i hi
    have hi' := List.mem_range.1 hi
    by_cases h0 : i = 0
    · simp [h0]
    · rw [h i (by omega) hi']; simp

/-! ### Rows that are made one after another -/
def outL (n : Nat) (f : Nat → Value) (j : Nat) : List Value := (List.range n).map fun k => if k < j then f k else nilV
theorem outL_len (n : Nat) (f : Nat → Value) (j : Nat) : (outL n f j).length = n := by simp [outL]
theorem outL_zero (n : Nat) (f : Nat → Value) : outL n f 0 = List.replicate n nilV := by
  apply List.ext_getElem
  · simp [outL]
  · intro i h1 h2
    simp [outL]
theorem outL_get (n : Nat) (f : Nat → Value) (j k : Nat) (hk : k < n) (hj : k < j) : (outL n f j)[k]? = some (f k) := by simp [outL, hk, hj]
theorem outL_nil (n : Nat) (f : Nat → Value) (j : Nat) (hj : j < n) : (outL n f j)[j]? = some nilV := by simp [outL, hj]
theorem outL_self (n : Nat) (f : Nat → Value) (j : Nat) : (outL n f j).set j nilV = outL n f j := by
  apply List.ext_getElem?
  intro i
  rw [List.getElem?_set]
  by_cases h : j = i
  · subst h
    by_cases hn : j < n
    · rw [if_pos rfl, if_pos (by rw [outL_len]; exact hn), outL_nil n f j hn]
    · rw [if_pos rfl, if_neg (by rw [outL_len]; exact hn), List.getElem?_eq_none (by rw [outL_len]; omega)]
  · rw [if_neg h]
theorem outL_set (n : Nat) (f : Nat → Value) (j : Nat) (u : Value) : (outL n f j).set j u = outL n (fun k => if k = j then u else f k) (j + 1) := by
  apply List.ext_getElem?
  intro i
  rw [List.getElem?_set]
  unfold outL
  by_cases h : j = i
  · subst h
    by_cases hn : j < n <;> simp [hn]
  · rw [if_neg h]
    by_cases hn : i < n
    · simp only [List.getElem?_map, List.getElem?_range hn, Option.map_some]
      by_cases h2 : i < j
      · rw [if_pos h2, if_pos (by omega), if_neg (by omega)]
      · rw [if_neg h2, if_neg (by omega)]
    · simp [hn]
def OutF (R : List (List E)) (go L n j : Nat) (V : World) : Prop := ∃ f : Nat → Value, Blk V go 22 (outL n f j).toArray ∧ ∀ k t, k < j → R[k]? = some t → ExtS L V.heap.size V (f k) t
theorem OutF.keep {R : List (List E)} {go L n j : Nat} {V W : World} (h : OutF R go L n j V) (hb : Below V.heap.size V W) : OutF R go L n j W := by
  obtain ⟨f, h1, h2⟩ := h
  exact ⟨f, h1.keep hb, fun k t hk ht => (Rd.keep (h2 k t hk ht) hb).wide (Nat.le_refl _) hb.size⟩
theorem OutF.put {R : List (List E)} {go L n j g : Nat} {V W : World} (h : OutF R go L n j V) (hp : Put V W g) (hg : g < L) (hne : go ≠ g) : OutF R go L n j W := by
  obtain ⟨f, h1, h2⟩ := h
  exact ⟨f, hp.blk h1 hne, fun k t hk ht => by rw [hp.size]; exact hp.rd (h2 k t hk ht) (.inl hg)⟩
theorem OutF.tabs {R : List (List E)} {go L n j : Nat} {V : World} (h : OutF R go L n j V) (hj : j ≤ n) (hR : j ≤ R.length) (hl : n ≤ 1000000) {lo : Nat} (hgo : lo ≤ go) (hL : lo ≤ L) : TabS lo V.heap.size V (.slice (some ⟨go, 0, none⟩) j n) (R.take j) := by
  obtain ⟨f, h1, h2⟩ := h
  have hRl : (R.take j).length = j := by rw [List.length_take]; omega
  refine ⟨(List.range j).map f, by rw [hRl]; simp, ⟨by rw [hRl]; simp, by omega, _, _, by rw [hRl], by omega, fun _ => ⟨go, 0, rfl, hgo, h1.lt, h1.lt, fun i u hu => ?_⟩⟩, fun k u t hu ht => ?_⟩
  · rw [Nat.zero_add, h1.cell]
    have hi : i < j := by have := (List.getElem?_eq_some_iff.1 hu).1; simpa using this
    rw [List.getElem?_toArray, outL_get n f j i (by omega) hi]
    simpa [hi] using hu
  · have hk : k < j := by have := (List.getElem?_eq_some_iff.1 hu).1; simpa using this
    rw [List.getElem?_take, if_pos hk] at ht
    have hu' : f k = u := by simpa [hk] using hu
    rw [← hu']
    exact Rd.wide (h2 k t hk ht) hL (Nat.le_refl _)
end Go.Proofs.YtnddfeidggcplaaGreat
namespace Go.Proofs.YtnddfeidggcplaaGreat
open Go.RowKit

theorem en_attestor_mask_Explain : ∀ args w, (callFunc 16 args).run Tryz.prog w = .ok (.enter 16 args) w := enters_of Tryz.func16 (by kernel_rfl) rfl
/-- What Explain hands back. -/
def ExpR (w : World) (r : List (List E) × Int) (e : Ending) (w' : World) : Prop := ∃ v, e = .returned (.tuple #[v, .int .i64 r.2]) ∧ TabS w.heap.size w'.heap.size w' v r.1 ∧ Below w.heap.size w w'
theorem nil_tabs (lo hi : Nat) (w : World) : TabS lo hi w nilV [] := ⟨[], rfl, rd_nil _ _ _ _ _ _, fun k u t h => by simp at h⟩
theorem own_lenX {w : World} {base n size : Nat} {e : TypeId} {v : Value} {xs : List Value} (h : w.ownsRow base e size v n xs) : ∃ A c, v = .slice A n c := by
  rcases h.2 with ⟨rfl, rfl⟩ | ⟨g, cap, cur, rfl, _⟩
  · exact ⟨_, _, rfl⟩
  · exact ⟨_, _, rfl⟩
theorem ext_casesX (x F : E) : x = F ∨ (x ≠ F ∧ fv x.a ≠ fv F.a) ∨ (x ≠ F ∧ fv x.a = fv F.a ∧ fv x.b ≠ fv F.b) := by
  by_cases h : x = F
  · exact .inl h
  · by_cases h1 : fv x.a = fv F.a
    · refine .inr (.inr ⟨h, h1, fun h2 => h ?_⟩)
      exact E.ext_ (fv_inj h1) (fv_inj h2)
    · exact .inr (.inl ⟨h, h1⟩)
attribute [local irreducible] wpRg
set_option maxRecDepth 100000 in
set_option maxHeartbeats 8000000 in
theorem gExplain (tabs : List (List E)) (ps : List Trm) (rs : List (List E)) (rho : E) (co : List E) (n : Nat) (hn : n ≤ 7) (hall : AllLen tabs (2 ^ n)) (h0 : 0 < tabs.length) (hl : tabs.length ≤ 1000) (hd : degE ps ≤ 900) (hgl : rs.length ≤ 1000)
    (AC : Option Addr) (capC : Nat) (vt vp vr : Value) (lo hi lo2 hi2 lo3 hi3 : Nat) (w : World) (h : SumS lo hi w vt vp tabs ps) (hrr : TabS lo2 hi2 w vr rs) (hcs : ExtS lo3 hi3 w (.slice AC co.length capC) co) :
    Calls Tryz.prog 16 #[sv vt vp, vr, .agg #[.int .u64 (fv rho.a), .int .u64 (fv rho.b), .slice AC co.length capC]] w (ExpR w (explE (prvR tabs ps co) rs rho co n (degE ps)) · ·) := by
  obtain ⟨AP, cP, rfl⟩ := h.hp.len
  obtain ⟨AR, cR, rfl⟩ := hrr.len
  have HPr := Lib.hid (fun (hc : co.length = n) W (hW : Below w.heap.size w W) => gProve tabs ps co n hc (by omega) hall h0 hl vt (.slice AP ps.length cP) (.slice AC co.length capC) lo hi lo3 hi3 W (h.keep hW) (Rd.keep hcs hW))
  obtain ⟨tb, ht⟩ : ∃ t, tabs[0]? = some t := ⟨_, List.getElem?_eq_getElem h0⟩
  have htl : tb.length = 2 ^ n := hall tb (List.mem_of_getElem? ht)
  obtain ⟨gT, oT, cT, rfl, -, -, -, qT, qT5⟩ := tabs_cells h.ht h0
  have d0 := qT5 0 tb ht
  have HLen := Lib.hid (gLen n hn)
  obtain ⟨N, hN⟩ : ∃ N, N = 2 ^ n := ⟨_, rfl⟩
  rw [htl, ← hN] at d0
  rw [← hN] at HLen
  have hN1 : N ≤ 128 := by rw [hN]; exact Nat.le_trans (Nat.pow_le_pow_right (by decide) hn) (by decide)
  obtain ⟨A0, c0, d1, -⟩ := d0
  rw [Nat.add_zero] at d1
  have HS := Lib.hid h
  have HR := Lib.hid hrr.base
  have HC := Lib.hid (ext_base hcs)
  have HSh := Lib.hid h.short
  have hDp := degE_pos ps
  clear qT5 ht htl hN hall h hrr hcs hl
  obtain ⟨F, hF⟩ : ∃ F, F = explE (prvR tabs ps co) rs rho co n (degE ps) := ⟨_, rfl⟩
  rw [← hF]
  have HF := Lib.hid hF
  clear hF
  obtain ⟨m, hm⟩ : ∃ m, m = tabs.length := ⟨_, rfl⟩
  have hm0 : 0 < m := by omega
  rw [← hm] at HPr ⊢
  have HM := Lib.hid hm
  clear hm h0
  obtain ⟨rl, hrl⟩ : ∃ rl, rl = rs.length := ⟨_, rfl⟩
  obtain ⟨cl, hcl⟩ : ∃ cl, cl = co.length := ⟨_, rfl⟩
  have hrl1 : rl ≤ 1000 := by omega
  have hcl1 : cl ≤ 140737488355327 := by rw [hcl]; exact HC.out.2.1
  rw [← hrl] at HR ⊢
  rw [← hcl] at HPr HC ⊢
  have HRl := Lib.hid hrl
  have HCl := Lib.hid hcl
  have HE1 : Hid (rl ≠ n ∨ cl ≠ n → F = ([], 1)) := Lib.hid fun hh => by rw [HF.out]; unfold explE; rw [if_pos (by rw [← HRl.out, ← HCl.out]; exact hh)]
  have HE3 : Hid (rl = n → cl = n → rho = 0 → F = ([], 3)) := Lib.hid fun h1 h2 h3 => by rw [HF.out]; unfold explE; rw [if_neg (by rw [← HRl.out, ← HCl.out]; omega), if_pos h3]
  have HE61 : Hid (rl = n → cl = n → rho ≠ 0 → rs.any (badLen (degE ps)) = true → F = ([], 61)) := Lib.hid fun h1 h2 h3 h4 => by rw [HF.out]; unfold explE; rw [if_neg (by rw [← HRl.out, ← HCl.out]; omega), if_neg h3, if_pos h4]
  have HE60 : Hid (rl = n → cl = n → rho ≠ 0 → rs.any (badLen (degE ps)) = false → sumOk rs co = false → F = ([], 60)) := Lib.hid fun h1 h2 h3 h4 h5 => by rw [HF.out]; unfold explE; rw [if_neg (by rw [← HRl.out, ← HCl.out]; omega), if_neg h3, h4, if_neg (by decide), h5, if_neg (by decide)]
  have HE0 : Hid (rl = n → cl = n → rho ≠ 0 → rs.any (badLen (degE ps)) = false → sumOk rs co = true → F = (expK (prvR tabs ps co) rs rho co n n, 0)) := Lib.hid fun h1 h2 h3 h4 h5 => by rw [HF.out]; unfold explE; rw [if_neg (by rw [← HRl.out, ← HCl.out]; omega), if_neg h3, h4, if_neg (by decide), h5, if_pos rfl]
  clear hrl hcl hgl HF
  unfold sv at *
  go_enter Tryz.func16, Tryz.ntmps16
  go_upto_region 1 with (fail)
  refine wp_stk2 fun W hB hz b3 b5 => ?_
  have hWs := hz.out
  clear hz
  have e3 := b3.cell
  have d1W := (hB.cell (p := ⟨gT, oT, none⟩) qT).trans d1
  go_wp2_with fail
  refine (HLen.out _).mono ?_
  rintro e w1 ⟨rfl, rfl⟩
  clear e3 d1W d1
  by_cases hrn : rl = n
  · have q1 : ((rl : Int) != (n : Int)) = false := by simp; omega
    by_cases hcn : cl = n
    · have q2 : ((cl : Int) != (n : Int)) = false := by simp; omega
      have e5 := b5.cell
      by_cases hrho : rho = 0
      · subst hrho
        go_wp2_with fail
        refine (eInv0 _).mono ?_
        rintro e w2 ⟨rfl, hb2⟩
        unfold ev
        clear e5
        go_wp2_with fail
        refine bodyPost_ret (v := .tuple #[nilV, .int .i64 3]) (by simp [nilV, results, Tryz.results16, go_sem]) rfl ⟨nilV, by rw [HE3.out hrn hcn trivial], by rw [HE3.out hrn hcn trivial]; exact nil_tabs _ _ _, (hB.trans (hb2.mono hB.size)).alloc (hB.trans (hb2.mono hB.size)).size _⟩
      · go_wp2_with fail
        refine (eInv rho hrho _).mono ?_
        rintro e w2 ⟨rfl, hb2⟩
        unfold ev
        clear e5
        go_wp2_with fail
        refine calls_stk1 fun X hBX hzX b9 => ?_
        have hXs : X.heap.size = w2.heap.size + 1 := hzX.out
        clear hzX
        have hB2 := hB.trans (hb2.mono hB.size)
        have hBx := hB2.trans (hBX.mono hB2.size)
        have b3X := (b3.keep hb2).keep hBX
        have b5X := (b5.keep hb2).keep hBX
        have hSX := HS.out.keep hBx
        clear b3 b5
        have HCon := gConX rs (some ⟨gT, oT, none⟩) AP m cT cP ps w.heap.size lo hi 0 w.heap.size (.slice AR rs.length cR) X (by rw [← HRl.out]; exact HR.out.keep hBx) hSX.hp HSh.out b3X.lt (b3X.cell 0) (b3X.cell 1)
        rw [← HRl.out, hrn] at HCon
        refine HCon.mono ?_
        rintro e w3 ⟨rfl, hb3⟩
        clear HCon
        have hB3 := hBx.trans (hb3.mono hBx.size)
        have b3Y := b3X.keep hb3
        have b5Y := b5X.keep hb3
        have b9Y := b9.keep hb3
        clear b3X b5X b9 hSX
        cases hbad : rs.any (badLen (degE ps))
        · have e3 := b3Y.cell
          have e5 := b5Y.cell
          have HBad := Lib.hid hbad
          have HPn := HPr.out hcn
          rw [hcn] at HPn
          have HPm := Lib.hid (HPn w3 hB3)
          clear HPn HPr
          clear hbad
          go_wp2_with fail
          refine HPm.out.mono ?_
          rintro e w4 ⟨v1, v2, rfl, R1, V1, hb4⟩
          clear e3 e5
          obtain ⟨A1, c1, rfl⟩ := R1.len
          obtain ⟨A2, c2, rfl⟩ := Rd.len V1
          have hRp : (prvR tabs ps co).length = n := by rw [prvR_length, ← HCl.out, hcn]
          rw [hRp] at R1 ⊢
          have HRp := Lib.hid hRp
          clear hRp
          have hB4 := hB3.trans (hb4.mono hB3.size)
          have hs4 := hB4.size
          have hs34 := hb4.size
          have hb9l := b9Y.lt
          have hmk := mk_rds n (by omega)
          go_wp2_with fail
          refine wp_stk1 fun V hBV hzV bo => ?_
          have hVs : V.heap.size = w4.heap.size + 1 := hzV.out
          clear hzV hmk
          obtain ⟨go, hgo⟩ : ∃ go, go = w4.heap.size := ⟨_, rfl⟩
          rw [← hgo] at bo ⊢
          have hgo1 := Nat.le_of_eq hgo
          have hgo2 := Nat.le_of_eq hgo.symm
          clear hgo
          obtain ⟨R, hRX⟩ : ∃ R, R = expK (prvR tabs ps co) rs rho co n n := ⟨_, rfl⟩
          have hRl : R.length = n := by rw [hRX, expK_length]
          have HRX := Lib.hid hRX
          have HRL := Lib.hid hRl
          have HRow := Lib.hid (show ∀ i, i < n → R[i]? = some (expRow rho (rs.getD i []) ((prvR tabs ps co).getD i []) ((i : Int) + 1 - (n : Int)) (evK R co i)) from fun i hi => by
            rw [HRX.out]
            exact expK_get _ rs rho co n i n hi)
          have HLr := Lib.hid (show ∀ g ∈ rs, g.length = degE ps + 1 from fun g hg => by
            have := List.any_eq_false.1 HBad.out g hg
            simpa [badLen] using this)
          have HLp := Lib.hid (show ∀ g ∈ prvR tabs ps co, g.length = degE ps + 1 from fun g hg => by
            have key : ∀ (coins : List E) (tabs : List (List E)), ∀ h ∈ prvR tabs ps coins, h.length = degE ps + 1 := fun coins => by
              induction coins with
              | nil => intro tabs h hh; simp [prvR] at hh
              | cons c cs ih =>
                intro tabs h hh
                simp only [prvR, List.mem_cons] at hh
                rcases hh with rfl | hh
                · exact rndE_length _ _
                · exact ih _ h hh
            exact key co tabs g hg)
          clear hRX hRl
          have HRlen := Lib.hid (show ∀ g ∈ R, g.length ≤ 1000 from fun g hg => by
            obtain ⟨k, hk⟩ := List.getElem?_of_mem hg
            have hkn : k < n := by have := (List.getElem?_eq_some_iff.1 hk).1; rw [HRL.out] at this; exact this
            rw [HRow.out k hkn] at hk
            cases hk
            rw [expRow_length]
            have hkr : k < rs.length := by rw [← HRl.out, hrn]; exact hkn
            rw [show rs.getD k [] = rs[k] by simp [List.getD, hkr], HLr.out _ (List.getElem_mem hkr)]
            omega)
          rw [hrn] at HR
          rw [hcn] at HC
          have HE0' := Lib.hid (fun h => HE0.out hrn hcn hrho HBad.out h)
          have HE60' := Lib.hid (fun h => HE60.out hrn hcn hrho HBad.out h)
          rw [← HRX.out] at HE0'
          clear HE0 HE60 HE1 HE3 HE61
          generalize prvR tabs ps co = pl at *
          generalize degE ps = D at *
          go_loopw [62] (fun ix wr => ∃ i : Nat, i ≤ n ∧ ix = .int .i64 i ∧ OutF R go (go + 1) n i wr ∧ Below w4.heap.size w4 wr ∧ (∀ j, 0 < j → j < i → endsE (rs.getD j []) = atE (rs.getD (j - 1) []) (co.getD (j - 1) 0))) (fun ix _ => n - (intOf ix).toNat)
          case atStart => exact ⟨0, Nat.zero_le _, rfl, ⟨fun _ => nilV, by rw [outL_zero]; exact bo, fun k t hk => absurd hk (by omega)⟩, hBV, fun j h1 h2 => absurd h2 (by omega)⟩
          case round =>
            obtain ⟨i, hi, rfl, hO, hBr, hsum⟩ := hrel
            have HSum := Lib.hid hsum
            clear hsum bo hBV
            by_cases hlt : i < n
            · have hBw := hB4.trans (hBr.mono hB4.size)
              obtain ⟨t, ht⟩ : ∃ t, rs[i]? = some t := ⟨_, List.getElem?_eq_getElem (by rw [← HRl.out, hrn]; exact hlt)⟩
              have htl : t.length = D + 1 := HLr.out t (List.mem_of_getElem? ht)
              obtain ⟨gr, or, capr, hv, -, -, hgr, lr, qr⟩ := tabs_cells (HR.out.keep hBw) (by rw [← HRl.out, hrn]; omega)
              rw [← HRl.out, hrn] at hv
              cases hv
              obtain ⟨At, ct, d0, hEt⟩ := qr i t ht
              rw [htl] at d0
              obtain ⟨f, hbo, hrows⟩ := hO
              have b5k := ((b5Y.keep hb4).keep hBr)
              have HTL := Lib.hid htl
              have HTI := Lib.hid ht
              have hHG1 := fun W1 (hW : Below wr.heap.size wr W1) => gEnds t (by omega) _ _ _ W1 (Rd.keep hEt hW)
              rw [htl] at hHG1
              have HG1 := Lib.hid hHG1
              clear hHG1 htl
              by_cases hi0 : 0 < i
              · obtain ⟨tp, htp⟩ : ∃ t, rs[i - 1]? = some t := ⟨_, List.getElem?_eq_getElem (by rw [← HRl.out, hrn]; omega)⟩
                have htpl : tp.length = D + 1 := HLr.out tp (List.mem_of_getElem? htp)
                obtain ⟨Aq, cq, d3, hEq⟩ := qr (i - 1) tp htp
                rw [htpl] at d3
                obtain ⟨gc, oc, capc, hvc, -, -, hgc, lc, qc⟩ := exts_cells (Rd.keep HC.out hBw) (by rw [← HCl.out, hcn]; omega)
                rw [← HCl.out, hcn] at hvc
                cases hvc
                obtain ⟨xp, hxp⟩ : ∃ x, co[i - 1]? = some x := ⟨_, List.getElem?_eq_getElem (by rw [← HCl.out, hcn]; omega)⟩
                obtain ⟨d4, d5⟩ := qc (i - 1) xp hxp
                have hS1 := Lib.hid (show endsE (rs.getD i []) = endsE t by simp [List.getD, ht])
                have hS2 := Lib.hid (show atE (rs.getD (i - 1) []) (co.getD (i - 1) 0) = atE tp xp by simp [List.getD, htp, hxp])
                have HG2 := Lib.hid (fun W1 (hW : Below wr.heap.size wr W1) => gAt tp xp (by omega) _ _ _ W1 (Rd.keep hEq hW))
                have k3 := gw_cell (W := wr) lr d3
                have k4 := gw_cell (W := wr) lc d4
                have k5 := gw_cell (W := wr) lc d5
                have y5 := gw_blk b5k
                clear qc d4 d5 htp hxp d3
                rw [htpl] at HG2
                clear htpl
                generalize endsE t = s1 at *
                generalize atE tp xp = s2 at *
                rcases ext_casesX s1 s2 with hs | ⟨hne, hs⟩ | ⟨hne, hs1, hs⟩
                · subst hs
                  have HSi := Lib.hid (show 0 < i → endsE (rs.getD i []) = atE (rs.getD (i - 1) []) (co.getD (i - 1) 0) from fun _ => hS1.out.trans hS2.out.symm)
                  go_wp2_with fail
                  refine wp_region_rg 19 [(4, Spec.val (.agg #[.int .u64 (fv (s1).a), .int .u64 (fv (s1).b)])), (16, Spec.val (.agg #[.int .u64 (fv (s1).a), .int .u64 (fv (s1).b)]))] (by kernel_rfl) (by kernel_rfl) (by kernel_rfl) trivial ?_
                  refine rg_det rfl rfl rfl (fun K hK => ?_)
                  go_big_quiet_op
                  refine hK _ ?_; clear hK K
                  refine rg_det rfl rfl rfl (fun K hK => ?_)
                  go_big_quiet_op
                  refine hK _ ?_; clear hK K
                  refine rg_det rfl rfl rfl (fun K hK => ?_)
                  go_big_quiet_op
                  refine hK _ ?_; clear hK K
                  refine rg_det rfl rfl rfl (fun K hK => ?_)
                  go_big_quiet_op
                  refine hK _ ?_; clear hK K
                  refine rg_val rfl rfl (fun W1 hW1 hF => step_callv en_attestor_mask_ends (HG1.out W1 (grw_below hW1)) rfl rfl) ?_
                  intro a' ha
                  simp only [Act.put, List.setIfInBounds_toArray, List.set_cons_succ, List.set_cons_zero] at ha
                  subst ha
                  refine rg_det rfl rfl rfl (fun K hK => ?_)
                  go_big_quiet_op
                  refine hK _ ?_; clear hK K
                  refine rg_det rfl rfl rfl (fun K hK => ?_)
                  go_big_quiet_op
                  refine hK _ ?_; clear hK K
                  refine rg_det rfl rfl rfl (fun K hK => ?_)
                  go_big_quiet_op
                  refine hK _ ?_; clear hK K
                  refine rg_det rfl rfl rfl (fun K hK => ?_)
                  go_big_quiet_op
                  refine hK _ ?_; clear hK K
                  refine rg_det rfl rfl rfl (fun K hK => ?_)
                  go_big_quiet_op
                  refine hK _ ?_; clear hK K
                  refine rg_det rfl rfl rfl (fun K hK => ?_)
                  go_big_quiet_op
                  refine hK _ ?_; clear hK K
                  refine rg_det rfl rfl rfl (fun K hK => ?_)
                  go_big_quiet_op
                  refine hK _ ?_; clear hK K
                  refine rg_det rfl rfl rfl (fun K hK => ?_)
                  go_big_quiet_op
                  refine hK _ ?_; clear hK K
                  refine rg_det rfl rfl rfl (fun K hK => ?_)
                  go_big_quiet_op
                  refine hK _ ?_; clear hK K
                  refine rg_det rfl rfl rfl (fun K hK => ?_)
                  go_big_quiet_op
                  refine hK _ ?_; clear hK K
                  refine rg_det rfl rfl rfl (fun K hK => ?_)
                  go_big_quiet_op
                  refine hK _ ?_; clear hK K
                  refine rg_val rfl rfl (fun W1 hW1 hF => step_callv en_attestor_poly_At (HG2.out W1 (grw_below hW1)) rfl rfl) ?_
                  intro a' ha
                  simp only [Act.put, List.setIfInBounds_toArray, List.set_cons_succ, List.set_cons_zero] at ha
                  subst ha
                  refine rg_det rfl rfl rfl (fun K hK => ?_)
                  go_big_quiet_op
                  refine hK _ ?_; clear hK K
                  refine rg_det rfl rfl rfl (fun K hK => ?_)
                  go_big_quiet_op
                  refine hK _ ?_; clear hK K
                  refine rg_nil (fun w' hw' hF => ?_)
                  obtain ⟨z, rfl⟩ := hw'
                  simp only [List.drop_succ_cons, List.drop_zero]
                  go_wp2_with fail
                  have hzh := z.h
                  obtain ⟨Z, hZ⟩ : ∃ Z, Z = z.w := ⟨_, rfl⟩
                  rw [← hZ] at hzh ⊢
                  clear hZ hF
                  have hBz := hBr.trans (hzh.mono hBr.size)
                  have hO := OutF.keep ⟨f, hbo, hrows⟩ hzh
                  have hwz := hBw.trans (hzh.mono hBw.size)
                  have hzs := hzh.size
                  have hrs := hBr.size
                  have hgol := hbo.lt
                  have b5z := b5k.keep hzh
                  have HEv := Lib.hid (show ∀ W1, Below Z.heap.size Z W1 → Calls Tryz.prog 22 #[.slice (some ⟨go, 0, none⟩) i n, .slice (some ⟨gc, oc, none⟩) n capC] W1 (Ret (ev (evK R co i)) W1) from fun W1 hW => by
                    have hw1 : Below w.heap.size w W1 := hwz.trans (hW.mono hwz.size)
                    have hTt := OutF.tabs (lo := 0) (hO.keep hW) (show i ≤ n by omega) (by rw [HRL.out]; omega) (by omega) (Nat.zero_le _) (Nat.zero_le _)
                    have h1 := gEvM (R.take i) co (by rw [List.length_take, ← HCl.out, hcn]; omega) (by rw [List.length_take]; omega) (fun g hg => HRlen.out g (List.mem_of_mem_take hg)) _ _ _ _ _ _ W1 hTt (Rd.keep HC.out hw1)
                    rwa [evM_take R co i (by rw [HRL.out]; omega)] at h1)
                  obtain ⟨gp, hgp⟩ : ∃ g, pl[i]? = some g := ⟨_, List.getElem?_eq_getElem (by rw [HRp.out]; omega)⟩
                  have hgpl : gp.length = D + 1 := HLp.out gp (List.mem_of_getElem? hgp)
                  obtain ⟨g8, o8, cap8, hv8, -, -, hg8, l8, q8⟩ := tabs_cells (R1.keep hBz) (by rw [HRp.out]; omega)
                  rw [HRp.out] at hv8
                  cases hv8
                  obtain ⟨Ap, cp, d8, hEp⟩ := q8 i gp hgp
                  rw [hgpl] at d8
                  obtain ⟨row, hrow⟩ : ∃ row, row = expRow rho t gp ((i : Int) + 1 - (n : Int)) (evK R co i) := ⟨_, rfl⟩
                  have HRi := Lib.hid (show R[i]? = some row by rw [HRow.out i hlt, hrow]; simp [List.getD, HTI.out, hgp])
                  have HFin := Lib.hid (show ∀ x v p, t[x]? = some v → gp[x]? = some p → row[x]? = some (einv rho * (v - p) * pwZ ((i : Int) + 1 - (n : Int)) - evK R co i) from fun x v p hv hp => by
                    have hx : x < t.length := (List.getElem?_eq_some_iff.1 hv).1
                    rw [hrow, expRow_get _ _ _ _ _ _ hx, show t.getD x 0 = v by simp [List.getD, hv], show gp.getD x 0 = p by rw [List.getD_eq_getElem?_getD, hp]; rfl])
                  have HRowL := Lib.hid (show row.length = D + 1 by rw [hrow, expRow_length, HTL.out])
                  have HPw := Lib.hid (gPower ((i : Int) + 1 - (n : Int)) (by omega) (by omega))
                  clear hrow
                  generalize evK R co i = ck at *
                  generalize pwZ ((i : Int) + 1 - (n : Int)) = pq at *
                  have y5 := gw_blk b5z
                  obtain ⟨i1, hi1, jz0, jz1, jz2⟩ := info_parts ext_info
                  have hit := HTL.out
                  have HGL := Lib.hid hgpl
                  clear hO q8 qr hgp hgpl hit
                  refine wp_region_rg 7 [(5, Spec.val (.agg #[.int .u64 (fv (ck).a), .int .u64 (fv (ck).b)])), (6, Spec.rel (New 30 #[.int .u64 0, .int .u64 0]) (NewF))] (by kernel_rfl) (by kernel_rfl) (by kernel_rfl) ⟨fit_new, trivial⟩ ?_
                  refine rg_det rfl rfl rfl (fun K hK => ?_)
                  go_big_quiet_op
                  refine hK _ ?_; clear hK K
                  refine rg_det rfl rfl rfl (fun K hK => ?_)
                  go_big_quiet_op
                  refine hK _ ?_; clear hK K
                  refine rg_det rfl rfl rfl (fun K hK => ?_)
                  go_big_quiet_op
                  refine hK _ ?_; clear hK K
                  refine rg_det rfl rfl rfl (fun K hK => ?_)
                  go_big_quiet_op
                  refine hK _ ?_; clear hK K
                  refine rg_det rfl rfl rfl (fun K hK => ?_)
                  go_big_quiet_op
                  refine hK _ ?_; clear hK K
                  refine rg_val rfl rfl (fun W1 hW1 hF => step_callv en_attestor_mask_Eval (HEv.out W1 (grw_below hW1)) rfl rfl) ?_
                  intro a' ha
                  simp only [Act.put, List.setIfInBounds_toArray, List.set_cons_succ, List.set_cons_zero] at ha
                  subst ha
                  refine rg_rel rfl rfl (fun W1 hW1 hF => step_new hi1 jz0 rfl) ?_
                  intro ns6 ms6 vs6 hns6 hms6 hds6 hfs6 a' ha
                  simp only [Act.put, List.setIfInBounds_toArray, List.set_cons_succ, List.set_cons_zero] at ha
                  subst ha
                  obtain rfl := hfs6
                  refine rg_nil (fun w' hw' hF => ?_)
                  obtain ⟨z2, rfl⟩ := hw'
                  simp only [List.drop_succ_cons, List.drop_zero]
                  obtain ⟨hms, -, hls, b16⟩ := end_last hF
                  have e1 := b16.cell
                  have e2 := b16.frozen
                  clear hF y5
                  go_upto_region 17 with (fail)
                  refine set2 (M := fun W => Code.wp _ _ _ _ W) b16 fun U2 hU2 bU2 => ?_
                  have b16' : Blk U2 ns6 30 #[.int .u64 (fv ck.a), .int .u64 (fv ck.b)] := bU2
                  have hs2 := hU2.size
                  have hz2 := z2.h.size
                  have hzU : Below Z.heap.size Z U2 := below_put z2.h hU2 (by omega)
                  have hwU : Below wr.heap.size wr U2 := hzh.trans (hzU.mono hzh.size)
                  have hX2 : Below w4.heap.size w4 U2 := hBr.trans (hwU.mono hBr.size)
                  have bo2 := hbo.keep hwU
                  have hgoU := bo2.lt
                  have hrows2 : ∀ k t, k < i → R[k]? = some t → ExtS (go + 1) wr.heap.size U2 (f k) t := fun k t hk ht => Rd.keep (hrows k t hk ht) hwU
                  have hEt2 := Rd.keep hEt hwU
                  have hEp2 := Rd.keep hEp hzU
                  have d82 := (hzU.cell (p := ⟨g8, o8 + i, none⟩) l8).trans d8
                  have b9U := (b9Y.keep hb4).keep hX2
                  clear e1 e2 b16 bU2 hEt hEp d8 d0
                  obtain ⟨gt, ot, capt, hvt, -, -, hgt, lt2, qt⟩ := exts_cells hEt2 (by rw [HTL.out]; omega)
                  rw [HTL.out] at hvt
                  cases hvt
                  obtain ⟨gq, oq, capq, hvq, -, -, hgq, lq, qq⟩ := exts_cells hEp2 (by rw [HGL.out]; omega)
                  rw [HGL.out] at hvq
                  cases hvq
                  have HT := Lib.hid qt
                  have HQ := Lib.hid qq
                  have HRS := Lib.hid hrows2
                  have hl14 := b16'.lt
                  have hl9 := b9U.lt
                  clear qt qq hEt2 hEp2 hrows2 hrows hbo
                  go_wp2_with fail
                  go_loopw [94] (fun ix wr' => ∃ x : Nat, x ≤ D + 1 ∧ ix = .int .i64 x ∧ (∃ u, Blk wr' go 22 ((outL n f i).set i u).toArray ∧ wr'.ownsRow U2.heap.size 30 2 u x ((row.take x).flatMap ec)) ∧ Keeps (fun g => g ≠ go) U2 wr' ∧ Below w4.heap.size w4 wr') (fun ix _ => D + 1 - (intOf ix).toNat)
                  case atStart => exact ⟨0, Nat.zero_le _, rfl, ⟨nilV, by rw [outL_self]; exact bo2, by rw [List.take_zero]; exact World.ownsRow_nil _ _ _ _⟩, Keeps.refl _, hX2⟩
                  case round =>
                    obtain ⟨x, hx, rfl, ⟨u, bor, hown⟩, hKk, hXk⟩ := hrel
                    by_cases hlt2 : x < D + 1
                    · obtain ⟨v, hv⟩ : ∃ v, t[x]? = some v := ⟨_, List.getElem?_eq_getElem (by rw [HTL.out]; exact hlt2)⟩
                      obtain ⟨p, hp⟩ : ∃ p, gp[x]? = some p := ⟨_, List.getElem?_eq_getElem (by rw [HGL.out]; exact hlt2)⟩
                      obtain ⟨d1, d2⟩ := HT.out x v hv
                      obtain ⟨d3, d4⟩ := HQ.out x p hp
                      have HRx := Lib.hid (HFin.out x v p hv hp)
                      have hsk := hKk.size
                      have e1 := hKk.cell (show gt ≠ go by omega) d1
                      have e2 := hKk.cell (show gt ≠ go by omega) d2
                      have kb : ∀ {g t cs}, Blk U2 g t cs → g ≠ go → Blk wr g t cs := fun {g t cs} h hne => (hKk.same _ hne h.lt).trans h
                      have k16 := kb b16' (by omega)
                      have k9 := kb b9U (by omega)
                      clear d1 d2 hv hp kb
                      go_upto_region 20 with (fail)
                      refine wp_stk1 fun Y2 hY2 hzY2 bV => ?_
                      have hsY2 : Y2.heap.size = wr.heap.size + 1 := hzY2.out
                      have hXY := hXk.trans (hY2.mono hXk.size)
                      have hsx := hXk.size
                      have y9 := gw_blk (k9.keep hY2)
                      have yV := gw_blk bV
                      have hUY : Keeps (fun g => g ≠ go) U2 Y2 := hKk.trans (Keeps.of_below hY2)
                      have y8 := gw_cell (W := Y2) (Nat.lt_of_lt_of_le (Nat.lt_of_lt_of_le l8 hzU.size) hUY.size) (hUY.cell (show g8 ≠ go by omega) d82)
                      have y1 := gw_cell (W := Y2) (Nat.lt_of_lt_of_le lq hUY.size) (hUY.cell (show gq ≠ go by omega) d3)
                      have y2 := gw_cell (W := Y2) (Nat.lt_of_lt_of_le lq hUY.size) (hUY.cell (show gq ≠ go by omega) d4)
                      clear e1 e2 hzY2 d3 d4
                      refine wp_region_rg 18 [(9, Spec.val (.agg #[.int .u64 (fv (v - p).a), .int .u64 (fv (v - p).b)])), (10, Spec.val (.agg #[.int .u64 (fv (einv rho * (v - p)).a), .int .u64 (fv (einv rho * (v - p)).b)])), (15, Spec.val (.agg #[.int .u64 (fv (pq).a), .int .u64 (fv (pq).b)])), (16, Spec.val (.agg #[.int .u64 (fv (einv rho * (v - p) * pq).a), .int .u64 (fv (einv rho * (v - p) * pq).b)])), (17, Spec.rel (New 30 #[.int .u64 0, .int .u64 0]) (NewF))] (by kernel_rfl) (by kernel_rfl) (by kernel_rfl) ⟨fit_new, trivial⟩ ?_
                      refine rg_det rfl rfl rfl (fun K hK => ?_)
                      go_big_quiet_op
                      refine hK _ ?_; clear hK K
                      refine rg_det rfl rfl rfl (fun K hK => ?_)
                      go_big_quiet_op
                      refine hK _ ?_; clear hK K
                      refine rg_det rfl rfl rfl (fun K hK => ?_)
                      go_big_quiet_op
                      refine hK _ ?_; clear hK K
                      refine rg_det rfl rfl rfl (fun K hK => ?_)
                      go_big_quiet_op
                      refine hK _ ?_; clear hK K
                      refine rg_det rfl rfl rfl (fun K hK => ?_)
                      go_big_quiet_op
                      refine hK _ ?_; clear hK K
                      refine rg_det rfl rfl rfl (fun K hK => ?_)
                      go_big_quiet_op
                      refine hK _ ?_; clear hK K
                      refine rg_det rfl rfl rfl (fun K hK => ?_)
                      go_big_quiet_op
                      refine hK _ ?_; clear hK K
                      refine rg_det rfl rfl rfl (fun K hK => ?_)
                      go_big_quiet_op
                      refine hK _ ?_; clear hK K
                      refine rg_det rfl rfl rfl (fun K hK => ?_)
                      go_big_quiet_op
                      refine hK _ ?_; clear hK K
                      refine rg_val rfl rfl (fun W1 hW1 hF => step_callv en_attestor_ext_Sub (eSub v p W1) rfl rfl) ?_
                      intro a' ha
                      simp only [Act.put, List.setIfInBounds_toArray, List.set_cons_succ, List.set_cons_zero] at ha
                      subst ha
                      refine rg_val rfl rfl (fun W1 hW1 hF => step_callv en_attestor_ext_Mul (eMul (einv rho) (v - p) W1) rfl rfl) ?_
                      intro a' ha
                      simp only [Act.put, List.setIfInBounds_toArray, List.set_cons_succ, List.set_cons_zero] at ha
                      subst ha
                      refine rg_det rfl rfl rfl (fun K hK => ?_)
                      go_big_quiet_op
                      refine hK _ ?_; clear hK K
                      refine rg_det rfl rfl rfl (fun K hK => ?_)
                      go_big_quiet_op
                      refine hK _ ?_; clear hK K
                      refine rg_det rfl rfl rfl (fun K hK => ?_)
                      go_big_quiet_op
                      refine hK _ ?_; clear hK K
                      refine rg_det rfl rfl rfl (fun K hK => ?_)
                      go_big_quiet_op
                      refine hK _ ?_; clear hK K
                      refine rg_val rfl rfl (fun W1 hW1 hF => step_callv en_attestor_mask_power (HPw.out W1) rfl rfl) ?_
                      intro a' ha
                      simp only [Act.put, List.setIfInBounds_toArray, List.set_cons_succ, List.set_cons_zero] at ha
                      subst ha
                      refine rg_val rfl rfl (fun W1 hW1 hF => step_callv en_attestor_ext_Mul (eMul (einv rho * (v - p)) pq W1) rfl rfl) ?_
                      intro a' ha
                      simp only [Act.put, List.setIfInBounds_toArray, List.set_cons_succ, List.set_cons_zero] at ha
                      subst ha
                      refine rg_rel rfl rfl (fun W1 hW1 hF => step_new hi1 jz0 rfl) ?_
                      intro nu17 mu17 vu17 hnu17 hmu17 hdu17 hfu17 a' ha
                      simp only [Act.put, List.setIfInBounds_toArray, List.set_cons_succ, List.set_cons_zero] at ha
                      subst ha
                      obtain rfl := hfu17
                      refine rg_nil (fun w' hw' hF => ?_)
                      obtain ⟨z3, rfl⟩ := hw'
                      simp only [List.drop_succ_cons, List.drop_zero]
                      obtain ⟨hmu, -, hlu, b19⟩ := end_last hF
                      have hz3 := z3.h.size
                      have e1 := b19.cell
                      have e2 := b19.frozen
                      clear hF y9 yV y8 y1 y2
                      generalize hq : einv rho * (v - p) * pq = q at *
                      go_upto_region 21 with (fail)
                      refine set2 (M := fun W => Code.wp _ _ _ _ W) b19 fun U3 hU3 bU3 => ?_
                      have b19' : Blk U3 nu17 30 #[.int .u64 (fv q.a), .int .u64 (fv q.b)] := bU3
                      have hs3 := hU3.size
                      have hwU3 : Below wr.heap.size wr U3 := below_put (hY2.trans (z3.h.mono hY2.size)) hU3 (by omega)
                      have bo3 := bor.keep hwU3
                      have k163 := k16.keep hwU3
                      have hgo3 := bo3.lt
                      have cgo : U3.cell? ⟨go, i, none⟩ = some u := by
                        rw [bo3.cell]
                        simp [outL_len, hlt]
                      obtain ⟨Au, cu, rfl⟩ := own_lenX hown
                      have yg := gw_cell (W := U3) hgo3 cgo
                      have yq := gw_blk b19'
                      have yc := gw_blk k163
                      clear e1 e2 b19 bU3 cgo
                      refine wp_region_lateM 10 [0,1] [(8, Spec.val (.agg #[.int .u64 (fv (q - ck).a), .int .u64 (fv (q - ck).b)])), (9, Spec.rel (Lit 30 1 (([q - ck] : List E).flatMap ec).toArray) (LitF 1))] (by kernel_rfl) (by kernel_rfl) (by kernel_rfl) (by kernel_rfl) (by intro _ _ d _ _ h; cases d <;> exact h) ⟨fit_lit, trivial⟩ ?_
                      refine rg_det rfl rfl rfl (fun K hK => ?_)
                      go_big_quiet_op
                      refine hK _ ?_; clear hK K
                      refine rg_det rfl rfl rfl (fun K hK => ?_)
                      go_big_quiet_op
                      refine hK _ ?_; clear hK K
                      refine rg_det rfl rfl rfl (fun K hK => ?_)
                      go_big_quiet_op
                      refine hK _ ?_; clear hK K
                      refine rg_det rfl rfl rfl (fun K hK => ?_)
                      go_big_quiet_op
                      refine hK _ ?_; clear hK K
                      refine rg_det rfl rfl rfl (fun K hK => ?_)
                      go_big_quiet_op
                      refine hK _ ?_; clear hK K
                      refine rg_det rfl rfl rfl (fun K hK => ?_)
                      go_big_quiet_op
                      refine hK _ ?_; clear hK K
                      refine rg_det rfl rfl rfl (fun K hK => ?_)
                      go_big_quiet_op
                      refine hK _ ?_; clear hK K
                      refine rg_det rfl rfl rfl (fun K hK => ?_)
                      go_big_quiet_op
                      refine hK _ ?_; clear hK K
                      refine rg_val rfl rfl (fun W1 hW1 hF => step_callv en_attestor_ext_Sub (eSub q ck W1) rfl rfl) ?_
                      intro a' ha
                      simp only [Act.put, List.setIfInBounds_toArray, List.set_cons_succ, List.set_cons_zero] at ha
                      subst ha
                      refine rg_rel rfl rfl (fun W1 hW1 hF => step_litE [q - ck] rfl (by decide) (by decide) rfl rfl) ?_
                      intro nx9 mx9 vx9 hnx9 hmx9 hdx9 hfx9 a' ha
                      simp only [Act.put, List.setIfInBounds_toArray, List.set_cons_succ, List.set_cons_zero] at ha
                      subst ha
                      obtain rfl := hfx9
                      refine rg_nil (fun w' hw' hF => ?_)
                      obtain ⟨z4, rfl⟩ := hw'
                      simp only [List.drop_succ_cons, List.drop_zero]
                      obtain ⟨hmx, -, hlx, bL⟩ := end_last hF
                      have hz4 := z4.h.size
                      clear hF yg yq yc
                      have hwz4 : Below wr.heap.size wr z4.w := hwU3.trans (z4.h.mono hwU3.size)
                      have HX4 := Lib.hid (hXk.trans (hwz4.mono hXk.size))
                      have bo4 := bo3.gw z4
                      have hsw4 := hwz4.size
                      have HOwn := Lib.hid hown
                      refine wpList_app3 rfl _ _ rfl Tryz.underlying22 hi1 jz0 jz1 jz2 rfl (by decide) (cl := ec (q - ck)) rfl (ec_one _) rfl rfl (own_below hown (Nat.le_refl _) hwz4) bL (by unfold maxLen; omega) (by omega) (by omega) ?_
                      intro v' w' hown' hgrow hBg hob
                      have hob1 : ∀ g, g < U2.heap.size → some g ≠ (Value.slice Au x cu).ownBlock := fun g hg e => by
                        have := (own_block HOwn.out e.symm).1
                        omega
                      have bo5 := grown_blk hgrow bo4 (hob1 go hgoU)
                      have hgo5 := bo5.lt
                      have hgs5 := hBg.size
                      have hUw4 : Keeps (fun g => g ≠ go) U2 z4.w := hKk.trans (Keeps.of_below hwz4)
                      have hKw : Keeps (fun g => g ≠ go) U2 w' := ⟨by omega, fun g hg hl => (hgrow.block g (by omega) (hob1 g hl)).trans (hUw4.same g hg hl)⟩
                      obtain ⟨Av, cv, rfl⟩ := own_lenX hown'
                      have HG := Lib.hid hgrow
                      have HOwn' := Lib.hid hown'
                      clear hgrow hown' hob
                      have e1 : w'.cell? ⟨go, i, none⟩ = some (.slice Au x cu) := by
                        rw [bo5.cell]
                        simp [outL_len, hlt]
                      have e2 := bo5.frozen
                      go_wp2_with fail
                      refine ⟨⟨x + 1, by omega, by go_num, ⟨.slice Av (x + 1) cv, ?_, ?_⟩, ?_, ?_⟩, by simp [intOf]; omega⟩
                      · have h5 := bo5.set_ i (.slice Av (x + 1) cv)
                        rwa [List.setIfInBounds_toArray, List.set_set] at h5
                      · have hT : (row.take (x + 1)).flatMap ec = (row.take x).flatMap ec ++ ec (q - ck) := by
                          rw [List.take_add_one, HRx.out]
                          simp
                        rw [hT]
                        exact own_put HOwn'.out (Put.set _ _ _ _) (by omega)
                      · exact ⟨by rw [(Put.set w' go i (.slice Av (x + 1) cv)).size]; exact hKw.size, fun g hg hl => ((Put.set w' go i (.slice Av (x + 1) cv)).other g hg).trans (hKw.same g hg hl)⟩
                      · exact below_put (HX4.out.trans (hBg.mono (by omega))) (Put.set _ _ _ _) (by omega)
                    · have hxD : x = D + 1 := by omega
                      rw [hxD] at hown
                      rw [List.take_of_length_le (by rw [HRowL.out]; exact Nat.le_refl _)] at hown
                      have hsk := hKk.size
                      go_wp2_with fail
                      refine ⟨⟨i + 1, by omega, by go_num, ⟨fun k => if k = i then u else f k, by rw [← outL_set]; exact bor, fun k t' hk ht' => ?_⟩, hXk, fun j h1 h2 => ?_⟩, by simp [intOf]; omega⟩
                      · by_cases hki : k = i
                        · rw [hki, HRi.out] at ht'
                          cases ht'
                          simp only [if_pos hki]
                          exact Rd.wide (exts_of_own hown HRowL.out (by omega) (Nat.le_refl _)) (by omega) (Nat.le_refl _)
                        · simp only [if_neg hki]
                          exact Rd.wide (Keeps.rd (HRS.out k t' (by omega) ht') hKk (fun g h1 _ => by omega)) (Nat.le_refl _) (by omega)
                      · by_cases hji : j = i
                        · rw [hji]
                          exact HSi.out (by omega)
                        · exact HSum.out j h1 (by omega)
                · have HF60 := Lib.hid (HE60'.out (by
                    cases hso : sumOk rs co
                    · rfl
                    · exact absurd (hS1.out.symm.trans (((sumOk_true rs co).1 hso i hi0 (by rw [← HRl.out, hrn]; omega)).trans hS2.out)) hne))
                  clear hne
                  go_wp2_with fail
                  refine wp_region_rg 19 [(4, Spec.val (.agg #[.int .u64 (fv (s1).a), .int .u64 (fv (s1).b)])), (16, Spec.val (.agg #[.int .u64 (fv (s2).a), .int .u64 (fv (s2).b)]))] (by kernel_rfl) (by kernel_rfl) (by kernel_rfl) trivial ?_
                  refine rg_det rfl rfl rfl (fun K hK => ?_)
                  go_big_quiet_op
                  refine hK _ ?_; clear hK K
                  refine rg_det rfl rfl rfl (fun K hK => ?_)
                  go_big_quiet_op
                  refine hK _ ?_; clear hK K
                  refine rg_det rfl rfl rfl (fun K hK => ?_)
                  go_big_quiet_op
                  refine hK _ ?_; clear hK K
                  refine rg_det rfl rfl rfl (fun K hK => ?_)
                  go_big_quiet_op
                  refine hK _ ?_; clear hK K
                  refine rg_val rfl rfl (fun W1 hW1 hF => step_callv en_attestor_mask_ends (HG1.out W1 (grw_below hW1)) rfl rfl) ?_
                  intro a' ha
                  simp only [Act.put, List.setIfInBounds_toArray, List.set_cons_succ, List.set_cons_zero] at ha
                  subst ha
                  refine rg_det rfl rfl rfl (fun K hK => ?_)
                  go_big_quiet_op
                  refine hK _ ?_; clear hK K
                  refine rg_det rfl rfl rfl (fun K hK => ?_)
                  go_big_quiet_op
                  refine hK _ ?_; clear hK K
                  refine rg_det rfl rfl rfl (fun K hK => ?_)
                  go_big_quiet_op
                  refine hK _ ?_; clear hK K
                  refine rg_det rfl rfl rfl (fun K hK => ?_)
                  go_big_quiet_op
                  refine hK _ ?_; clear hK K
                  refine rg_det rfl rfl rfl (fun K hK => ?_)
                  go_big_quiet_op
                  refine hK _ ?_; clear hK K
                  refine rg_det rfl rfl rfl (fun K hK => ?_)
                  go_big_quiet_op
                  refine hK _ ?_; clear hK K
                  refine rg_det rfl rfl rfl (fun K hK => ?_)
                  go_big_quiet_op
                  refine hK _ ?_; clear hK K
                  refine rg_det rfl rfl rfl (fun K hK => ?_)
                  go_big_quiet_op
                  refine hK _ ?_; clear hK K
                  refine rg_det rfl rfl rfl (fun K hK => ?_)
                  go_big_quiet_op
                  refine hK _ ?_; clear hK K
                  refine rg_det rfl rfl rfl (fun K hK => ?_)
                  go_big_quiet_op
                  refine hK _ ?_; clear hK K
                  refine rg_det rfl rfl rfl (fun K hK => ?_)
                  go_big_quiet_op
                  refine hK _ ?_; clear hK K
                  refine rg_val rfl rfl (fun W1 hW1 hF => step_callv en_attestor_poly_At (HG2.out W1 (grw_below hW1)) rfl rfl) ?_
                  intro a' ha
                  simp only [Act.put, List.setIfInBounds_toArray, List.set_cons_succ, List.set_cons_zero] at ha
                  subst ha
                  refine rg_det rfl rfl rfl (fun K hK => ?_)
                  go_big_quiet_op
                  refine hK _ ?_; clear hK K
                  refine rg_det rfl rfl rfl (fun K hK => ?_)
                  go_big_quiet_op
                  refine hK _ ?_; clear hK K
                  refine rg_nil (fun w' hw' hF => ?_)
                  obtain ⟨z, rfl⟩ := hw'
                  simp only [List.drop_succ_cons, List.drop_zero]
                  clear hF y5 k3 k4 k5
                  go_wp2_with fail
                  refine bodyPost_ret (v := .tuple #[nilV, .int .i64 60]) (by simp [nilV, results, Tryz.results16, go_sem]) rfl ⟨nilV, by rw [HF60.out], by rw [HF60.out]; exact nil_tabs _ _ _, hBw.trans (z.h.mono hBw.size)⟩
                · have HF60 := Lib.hid (HE60'.out (by
                    cases hso : sumOk rs co
                    · rfl
                    · exact absurd (hS1.out.symm.trans (((sumOk_true rs co).1 hso i hi0 (by rw [← HRl.out, hrn]; omega)).trans hS2.out)) hne))
                  clear hne
                  go_wp2_with fail
                  refine wp_region_rg 19 [(4, Spec.val (.agg #[.int .u64 (fv (s1).a), .int .u64 (fv (s1).b)])), (16, Spec.val (.agg #[.int .u64 (fv (s2).a), .int .u64 (fv (s2).b)]))] (by kernel_rfl) (by kernel_rfl) (by kernel_rfl) trivial ?_
                  refine rg_det rfl rfl rfl (fun K hK => ?_)
                  go_big_quiet_op
                  refine hK _ ?_; clear hK K
                  refine rg_det rfl rfl rfl (fun K hK => ?_)
                  go_big_quiet_op
                  refine hK _ ?_; clear hK K
                  refine rg_det rfl rfl rfl (fun K hK => ?_)
                  go_big_quiet_op
                  refine hK _ ?_; clear hK K
                  refine rg_det rfl rfl rfl (fun K hK => ?_)
                  go_big_quiet_op
                  refine hK _ ?_; clear hK K
                  refine rg_val rfl rfl (fun W1 hW1 hF => step_callv en_attestor_mask_ends (HG1.out W1 (grw_below hW1)) rfl rfl) ?_
                  intro a' ha
                  simp only [Act.put, List.setIfInBounds_toArray, List.set_cons_succ, List.set_cons_zero] at ha
                  subst ha
                  refine rg_det rfl rfl rfl (fun K hK => ?_)
                  go_big_quiet_op
                  refine hK _ ?_; clear hK K
                  refine rg_det rfl rfl rfl (fun K hK => ?_)
                  go_big_quiet_op
                  refine hK _ ?_; clear hK K
                  refine rg_det rfl rfl rfl (fun K hK => ?_)
                  go_big_quiet_op
                  refine hK _ ?_; clear hK K
                  refine rg_det rfl rfl rfl (fun K hK => ?_)
                  go_big_quiet_op
                  refine hK _ ?_; clear hK K
                  refine rg_det rfl rfl rfl (fun K hK => ?_)
                  go_big_quiet_op
                  refine hK _ ?_; clear hK K
                  refine rg_det rfl rfl rfl (fun K hK => ?_)
                  go_big_quiet_op
                  refine hK _ ?_; clear hK K
                  refine rg_det rfl rfl rfl (fun K hK => ?_)
                  go_big_quiet_op
                  refine hK _ ?_; clear hK K
                  refine rg_det rfl rfl rfl (fun K hK => ?_)
                  go_big_quiet_op
                  refine hK _ ?_; clear hK K
                  refine rg_det rfl rfl rfl (fun K hK => ?_)
                  go_big_quiet_op
                  refine hK _ ?_; clear hK K
                  refine rg_det rfl rfl rfl (fun K hK => ?_)
                  go_big_quiet_op
                  refine hK _ ?_; clear hK K
                  refine rg_det rfl rfl rfl (fun K hK => ?_)
                  go_big_quiet_op
                  refine hK _ ?_; clear hK K
                  refine rg_val rfl rfl (fun W1 hW1 hF => step_callv en_attestor_poly_At (HG2.out W1 (grw_below hW1)) rfl rfl) ?_
                  intro a' ha
                  simp only [Act.put, List.setIfInBounds_toArray, List.set_cons_succ, List.set_cons_zero] at ha
                  subst ha
                  refine rg_det rfl rfl rfl (fun K hK => ?_)
                  go_big_quiet_op
                  refine hK _ ?_; clear hK K
                  refine rg_det rfl rfl rfl (fun K hK => ?_)
                  go_big_quiet_op
                  refine hK _ ?_; clear hK K
                  refine rg_nil (fun w' hw' hF => ?_)
                  obtain ⟨z, rfl⟩ := hw'
                  simp only [List.drop_succ_cons, List.drop_zero]
                  clear hF y5 k3 k4 k5
                  go_wp2_with fail
                  refine bodyPost_ret (v := .tuple #[nilV, .int .i64 60]) (by simp [nilV, results, Tryz.results16, go_sem]) rfl ⟨nilV, by rw [HF60.out], by rw [HF60.out]; exact nil_tabs _ _ _, hBw.trans (z.h.mono hBw.size)⟩
              · have HSi := Lib.hid (show 0 < i → endsE (rs.getD i []) = atE (rs.getD (i - 1) []) (co.getD (i - 1) 0) from fun h => absurd h hi0)
                go_wp2_with fail
                refine wp_region_rg 19 [] (by kernel_rfl) (by kernel_rfl) (by kernel_rfl) trivial ?_
                refine rg_det rfl rfl rfl (fun K hK => ?_)
                go_big_quiet_op
                refine hK _ ?_; clear hK K
                refine rg_det rfl rfl rfl (fun K hK => ?_)
                go_big_quiet_op
                refine hK _ ?_; clear hK K
                refine rg_det rfl rfl rfl (fun K hK => ?_)
                go_big_quiet_op
                refine hK _ ?_; clear hK K
                refine rg_skip (by kernel_rfl) ?_
                intro a' ha
                simp only [Act.put, List.setIfInBounds_toArray, List.set_cons_succ, List.set_cons_zero] at ha
                subst ha
                refine rg_skip (by kernel_rfl) ?_
                intro a' ha
                simp only [Act.put, List.setIfInBounds_toArray, List.set_cons_succ, List.set_cons_zero] at ha
                subst ha
                refine rg_skip (by kernel_rfl) ?_
                intro a' ha
                simp only [Act.put, List.setIfInBounds_toArray, List.set_cons_succ, List.set_cons_zero] at ha
                subst ha
                refine rg_skip (by kernel_rfl) ?_
                intro a' ha
                simp only [Act.put, List.setIfInBounds_toArray, List.set_cons_succ, List.set_cons_zero] at ha
                subst ha
                refine rg_skip (by kernel_rfl) ?_
                intro a' ha
                simp only [Act.put, List.setIfInBounds_toArray, List.set_cons_succ, List.set_cons_zero] at ha
                subst ha
                refine rg_skip (by kernel_rfl) ?_
                intro a' ha
                simp only [Act.put, List.setIfInBounds_toArray, List.set_cons_succ, List.set_cons_zero] at ha
                subst ha
                refine rg_skip (by kernel_rfl) ?_
                intro a' ha
                simp only [Act.put, List.setIfInBounds_toArray, List.set_cons_succ, List.set_cons_zero] at ha
                subst ha
                refine rg_skip (by kernel_rfl) ?_
                intro a' ha
                simp only [Act.put, List.setIfInBounds_toArray, List.set_cons_succ, List.set_cons_zero] at ha
                subst ha
                refine rg_skip (by kernel_rfl) ?_
                intro a' ha
                simp only [Act.put, List.setIfInBounds_toArray, List.set_cons_succ, List.set_cons_zero] at ha
                subst ha
                refine rg_skip (by kernel_rfl) ?_
                intro a' ha
                simp only [Act.put, List.setIfInBounds_toArray, List.set_cons_succ, List.set_cons_zero] at ha
                subst ha
                refine rg_skip (by kernel_rfl) ?_
                intro a' ha
                simp only [Act.put, List.setIfInBounds_toArray, List.set_cons_succ, List.set_cons_zero] at ha
                subst ha
                refine rg_skip (by kernel_rfl) ?_
                intro a' ha
                simp only [Act.put, List.setIfInBounds_toArray, List.set_cons_succ, List.set_cons_zero] at ha
                subst ha
                refine rg_skip (by kernel_rfl) ?_
                intro a' ha
                simp only [Act.put, List.setIfInBounds_toArray, List.set_cons_succ, List.set_cons_zero] at ha
                subst ha
                refine rg_skip (by kernel_rfl) ?_
                intro a' ha
                simp only [Act.put, List.setIfInBounds_toArray, List.set_cons_succ, List.set_cons_zero] at ha
                subst ha
                refine rg_skip (by kernel_rfl) ?_
                intro a' ha
                simp only [Act.put, List.setIfInBounds_toArray, List.set_cons_succ, List.set_cons_zero] at ha
                subst ha
                refine rg_det rfl rfl rfl (fun K hK => ?_)
                go_big_quiet_op
                refine hK _ ?_; clear hK K
                refine rg_nil (fun w' hw' hF => ?_)
                obtain ⟨z, rfl⟩ := hw'
                simp only [List.drop_succ_cons, List.drop_zero]
                go_wp2_with fail
                have hzh := z.h
                obtain ⟨Z, hZ⟩ : ∃ Z, Z = z.w := ⟨_, rfl⟩
                rw [← hZ] at hzh ⊢
                clear hZ hF
                have hBz := hBr.trans (hzh.mono hBr.size)
                have hO := OutF.keep ⟨f, hbo, hrows⟩ hzh
                have hwz := hBw.trans (hzh.mono hBw.size)
                have hzs := hzh.size
                have hrs := hBr.size
                have hgol := hbo.lt
                have b5z := b5k.keep hzh
                have HEv := Lib.hid (show ∀ W1, Below Z.heap.size Z W1 → Calls Tryz.prog 22 #[.slice (some ⟨go, 0, none⟩) i n, .slice AC n capC] W1 (Ret (ev (evK R co i)) W1) from fun W1 hW => by
                  have hw1 : Below w.heap.size w W1 := hwz.trans (hW.mono hwz.size)
                  have hTt := OutF.tabs (lo := 0) (hO.keep hW) (show i ≤ n by omega) (by rw [HRL.out]; omega) (by omega) (Nat.zero_le _) (Nat.zero_le _)
                  have h1 := gEvM (R.take i) co (by rw [List.length_take, ← HCl.out, hcn]; omega) (by rw [List.length_take]; omega) (fun g hg => HRlen.out g (List.mem_of_mem_take hg)) _ _ _ _ _ _ W1 hTt (Rd.keep HC.out hw1)
                  rwa [evM_take R co i (by rw [HRL.out]; omega)] at h1)
                obtain ⟨gp, hgp⟩ : ∃ g, pl[i]? = some g := ⟨_, List.getElem?_eq_getElem (by rw [HRp.out]; omega)⟩
                have hgpl : gp.length = D + 1 := HLp.out gp (List.mem_of_getElem? hgp)
                obtain ⟨g8, o8, cap8, hv8, -, -, hg8, l8, q8⟩ := tabs_cells (R1.keep hBz) (by rw [HRp.out]; omega)
                rw [HRp.out] at hv8
                cases hv8
                obtain ⟨Ap, cp, d8, hEp⟩ := q8 i gp hgp
                rw [hgpl] at d8
                obtain ⟨row, hrow⟩ : ∃ row, row = expRow rho t gp ((i : Int) + 1 - (n : Int)) (evK R co i) := ⟨_, rfl⟩
                have HRi := Lib.hid (show R[i]? = some row by rw [HRow.out i hlt, hrow]; simp [List.getD, HTI.out, hgp])
                have HFin := Lib.hid (show ∀ x v p, t[x]? = some v → gp[x]? = some p → row[x]? = some (einv rho * (v - p) * pwZ ((i : Int) + 1 - (n : Int)) - evK R co i) from fun x v p hv hp => by
                  have hx : x < t.length := (List.getElem?_eq_some_iff.1 hv).1
                  rw [hrow, expRow_get _ _ _ _ _ _ hx, show t.getD x 0 = v by simp [List.getD, hv], show gp.getD x 0 = p by rw [List.getD_eq_getElem?_getD, hp]; rfl])
                have HRowL := Lib.hid (show row.length = D + 1 by rw [hrow, expRow_length, HTL.out])
                have HPw := Lib.hid (gPower ((i : Int) + 1 - (n : Int)) (by omega) (by omega))
                clear hrow
                generalize evK R co i = ck at *
                generalize pwZ ((i : Int) + 1 - (n : Int)) = pq at *
                have y5 := gw_blk b5z
                obtain ⟨i1, hi1, jz0, jz1, jz2⟩ := info_parts ext_info
                have hit := HTL.out
                have HGL := Lib.hid hgpl
                clear hO q8 qr hgp hgpl hit
                refine wp_region_rg 7 [(5, Spec.val (.agg #[.int .u64 (fv (ck).a), .int .u64 (fv (ck).b)])), (6, Spec.rel (New 30 #[.int .u64 0, .int .u64 0]) (NewF))] (by kernel_rfl) (by kernel_rfl) (by kernel_rfl) ⟨fit_new, trivial⟩ ?_
                refine rg_det rfl rfl rfl (fun K hK => ?_)
                go_big_quiet_op
                refine hK _ ?_; clear hK K
                refine rg_det rfl rfl rfl (fun K hK => ?_)
                go_big_quiet_op
                refine hK _ ?_; clear hK K
                refine rg_det rfl rfl rfl (fun K hK => ?_)
                go_big_quiet_op
                refine hK _ ?_; clear hK K
                refine rg_det rfl rfl rfl (fun K hK => ?_)
                go_big_quiet_op
                refine hK _ ?_; clear hK K
                refine rg_det rfl rfl rfl (fun K hK => ?_)
                go_big_quiet_op
                refine hK _ ?_; clear hK K
                refine rg_val rfl rfl (fun W1 hW1 hF => step_callv en_attestor_mask_Eval (HEv.out W1 (grw_below hW1)) rfl rfl) ?_
                intro a' ha
                simp only [Act.put, List.setIfInBounds_toArray, List.set_cons_succ, List.set_cons_zero] at ha
                subst ha
                refine rg_rel rfl rfl (fun W1 hW1 hF => step_new hi1 jz0 rfl) ?_
                intro ns6 ms6 vs6 hns6 hms6 hds6 hfs6 a' ha
                simp only [Act.put, List.setIfInBounds_toArray, List.set_cons_succ, List.set_cons_zero] at ha
                subst ha
                obtain rfl := hfs6
                refine rg_nil (fun w' hw' hF => ?_)
                obtain ⟨z2, rfl⟩ := hw'
                simp only [List.drop_succ_cons, List.drop_zero]
                obtain ⟨hms, -, hls, b16⟩ := end_last hF
                have e1 := b16.cell
                have e2 := b16.frozen
                clear hF y5
                go_upto_region 17 with (fail)
                refine set2 (M := fun W => Code.wp _ _ _ _ W) b16 fun U2 hU2 bU2 => ?_
                have b16' : Blk U2 ns6 30 #[.int .u64 (fv ck.a), .int .u64 (fv ck.b)] := bU2
                have hs2 := hU2.size
                have hz2 := z2.h.size
                have hzU : Below Z.heap.size Z U2 := below_put z2.h hU2 (by omega)
                have hwU : Below wr.heap.size wr U2 := hzh.trans (hzU.mono hzh.size)
                have hX2 : Below w4.heap.size w4 U2 := hBr.trans (hwU.mono hBr.size)
                have bo2 := hbo.keep hwU
                have hgoU := bo2.lt
                have hrows2 : ∀ k t, k < i → R[k]? = some t → ExtS (go + 1) wr.heap.size U2 (f k) t := fun k t hk ht => Rd.keep (hrows k t hk ht) hwU
                have hEt2 := Rd.keep hEt hwU
                have hEp2 := Rd.keep hEp hzU
                have d82 := (hzU.cell (p := ⟨g8, o8 + i, none⟩) l8).trans d8
                have b9U := (b9Y.keep hb4).keep hX2
                clear e1 e2 b16 bU2 hEt hEp d8 d0
                obtain ⟨gt, ot, capt, hvt, -, -, hgt, lt2, qt⟩ := exts_cells hEt2 (by rw [HTL.out]; omega)
                rw [HTL.out] at hvt
                cases hvt
                obtain ⟨gq, oq, capq, hvq, -, -, hgq, lq, qq⟩ := exts_cells hEp2 (by rw [HGL.out]; omega)
                rw [HGL.out] at hvq
                cases hvq
                have HT := Lib.hid qt
                have HQ := Lib.hid qq
                have HRS := Lib.hid hrows2
                have hl14 := b16'.lt
                have hl9 := b9U.lt
                clear qt qq hEt2 hEp2 hrows2 hrows hbo
                go_wp2_with fail
                go_loopw [94] (fun ix wr' => ∃ x : Nat, x ≤ D + 1 ∧ ix = .int .i64 x ∧ (∃ u, Blk wr' go 22 ((outL n f i).set i u).toArray ∧ wr'.ownsRow U2.heap.size 30 2 u x ((row.take x).flatMap ec)) ∧ Keeps (fun g => g ≠ go) U2 wr' ∧ Below w4.heap.size w4 wr') (fun ix _ => D + 1 - (intOf ix).toNat)
                case atStart => exact ⟨0, Nat.zero_le _, rfl, ⟨nilV, by rw [outL_self]; exact bo2, by rw [List.take_zero]; exact World.ownsRow_nil _ _ _ _⟩, Keeps.refl _, hX2⟩
                case round =>
                  obtain ⟨x, hx, rfl, ⟨u, bor, hown⟩, hKk, hXk⟩ := hrel
                  by_cases hlt2 : x < D + 1
                  · obtain ⟨v, hv⟩ : ∃ v, t[x]? = some v := ⟨_, List.getElem?_eq_getElem (by rw [HTL.out]; exact hlt2)⟩
                    obtain ⟨p, hp⟩ : ∃ p, gp[x]? = some p := ⟨_, List.getElem?_eq_getElem (by rw [HGL.out]; exact hlt2)⟩
                    obtain ⟨d1, d2⟩ := HT.out x v hv
                    obtain ⟨d3, d4⟩ := HQ.out x p hp
                    have HRx := Lib.hid (HFin.out x v p hv hp)
                    have hsk := hKk.size
                    have e1 := hKk.cell (show gt ≠ go by omega) d1
                    have e2 := hKk.cell (show gt ≠ go by omega) d2
                    have kb : ∀ {g t cs}, Blk U2 g t cs → g ≠ go → Blk wr g t cs := fun {g t cs} h hne => (hKk.same _ hne h.lt).trans h
                    have k16 := kb b16' (by omega)
                    have k9 := kb b9U (by omega)
                    clear d1 d2 hv hp kb
                    go_upto_region 20 with (fail)
                    refine wp_stk1 fun Y2 hY2 hzY2 bV => ?_
                    have hsY2 : Y2.heap.size = wr.heap.size + 1 := hzY2.out
                    have hXY := hXk.trans (hY2.mono hXk.size)
                    have hsx := hXk.size
                    have y9 := gw_blk (k9.keep hY2)
                    have yV := gw_blk bV
                    have hUY : Keeps (fun g => g ≠ go) U2 Y2 := hKk.trans (Keeps.of_below hY2)
                    have y8 := gw_cell (W := Y2) (Nat.lt_of_lt_of_le (Nat.lt_of_lt_of_le l8 hzU.size) hUY.size) (hUY.cell (show g8 ≠ go by omega) d82)
                    have y1 := gw_cell (W := Y2) (Nat.lt_of_lt_of_le lq hUY.size) (hUY.cell (show gq ≠ go by omega) d3)
                    have y2 := gw_cell (W := Y2) (Nat.lt_of_lt_of_le lq hUY.size) (hUY.cell (show gq ≠ go by omega) d4)
                    clear e1 e2 hzY2 d3 d4
                    refine wp_region_rg 18 [(9, Spec.val (.agg #[.int .u64 (fv (v - p).a), .int .u64 (fv (v - p).b)])), (10, Spec.val (.agg #[.int .u64 (fv (einv rho * (v - p)).a), .int .u64 (fv (einv rho * (v - p)).b)])), (15, Spec.val (.agg #[.int .u64 (fv (pq).a), .int .u64 (fv (pq).b)])), (16, Spec.val (.agg #[.int .u64 (fv (einv rho * (v - p) * pq).a), .int .u64 (fv (einv rho * (v - p) * pq).b)])), (17, Spec.rel (New 30 #[.int .u64 0, .int .u64 0]) (NewF))] (by kernel_rfl) (by kernel_rfl) (by kernel_rfl) ⟨fit_new, trivial⟩ ?_
                    refine rg_det rfl rfl rfl (fun K hK => ?_)
                    go_big_quiet_op
                    refine hK _ ?_; clear hK K
                    refine rg_det rfl rfl rfl (fun K hK => ?_)
                    go_big_quiet_op
                    refine hK _ ?_; clear hK K
                    refine rg_det rfl rfl rfl (fun K hK => ?_)
                    go_big_quiet_op
                    refine hK _ ?_; clear hK K
                    refine rg_det rfl rfl rfl (fun K hK => ?_)
                    go_big_quiet_op
                    refine hK _ ?_; clear hK K
                    refine rg_det rfl rfl rfl (fun K hK => ?_)
                    go_big_quiet_op
                    refine hK _ ?_; clear hK K
                    refine rg_det rfl rfl rfl (fun K hK => ?_)
                    go_big_quiet_op
                    refine hK _ ?_; clear hK K
                    refine rg_det rfl rfl rfl (fun K hK => ?_)
                    go_big_quiet_op
                    refine hK _ ?_; clear hK K
                    refine rg_det rfl rfl rfl (fun K hK => ?_)
                    go_big_quiet_op
                    refine hK _ ?_; clear hK K
                    refine rg_det rfl rfl rfl (fun K hK => ?_)
                    go_big_quiet_op
                    refine hK _ ?_; clear hK K
                    refine rg_val rfl rfl (fun W1 hW1 hF => step_callv en_attestor_ext_Sub (eSub v p W1) rfl rfl) ?_
                    intro a' ha
                    simp only [Act.put, List.setIfInBounds_toArray, List.set_cons_succ, List.set_cons_zero] at ha
                    subst ha
                    refine rg_val rfl rfl (fun W1 hW1 hF => step_callv en_attestor_ext_Mul (eMul (einv rho) (v - p) W1) rfl rfl) ?_
                    intro a' ha
                    simp only [Act.put, List.setIfInBounds_toArray, List.set_cons_succ, List.set_cons_zero] at ha
                    subst ha
                    refine rg_det rfl rfl rfl (fun K hK => ?_)
                    go_big_quiet_op
                    refine hK _ ?_; clear hK K
                    refine rg_det rfl rfl rfl (fun K hK => ?_)
                    go_big_quiet_op
                    refine hK _ ?_; clear hK K
                    refine rg_det rfl rfl rfl (fun K hK => ?_)
                    go_big_quiet_op
                    refine hK _ ?_; clear hK K
                    refine rg_det rfl rfl rfl (fun K hK => ?_)
                    go_big_quiet_op
                    refine hK _ ?_; clear hK K
                    refine rg_val rfl rfl (fun W1 hW1 hF => step_callv en_attestor_mask_power (HPw.out W1) rfl rfl) ?_
                    intro a' ha
                    simp only [Act.put, List.setIfInBounds_toArray, List.set_cons_succ, List.set_cons_zero] at ha
                    subst ha
                    refine rg_val rfl rfl (fun W1 hW1 hF => step_callv en_attestor_ext_Mul (eMul (einv rho * (v - p)) pq W1) rfl rfl) ?_
                    intro a' ha
                    simp only [Act.put, List.setIfInBounds_toArray, List.set_cons_succ, List.set_cons_zero] at ha
                    subst ha
                    refine rg_rel rfl rfl (fun W1 hW1 hF => step_new hi1 jz0 rfl) ?_
                    intro nu17 mu17 vu17 hnu17 hmu17 hdu17 hfu17 a' ha
                    simp only [Act.put, List.setIfInBounds_toArray, List.set_cons_succ, List.set_cons_zero] at ha
                    subst ha
                    obtain rfl := hfu17
                    refine rg_nil (fun w' hw' hF => ?_)
                    obtain ⟨z3, rfl⟩ := hw'
                    simp only [List.drop_succ_cons, List.drop_zero]
                    obtain ⟨hmu, -, hlu, b19⟩ := end_last hF
                    have hz3 := z3.h.size
                    have e1 := b19.cell
                    have e2 := b19.frozen
                    clear hF y9 yV y8 y1 y2
                    generalize hq : einv rho * (v - p) * pq = q at *
                    go_upto_region 21 with (fail)
                    refine set2 (M := fun W => Code.wp _ _ _ _ W) b19 fun U3 hU3 bU3 => ?_
                    have b19' : Blk U3 nu17 30 #[.int .u64 (fv q.a), .int .u64 (fv q.b)] := bU3
                    have hs3 := hU3.size
                    have hwU3 : Below wr.heap.size wr U3 := below_put (hY2.trans (z3.h.mono hY2.size)) hU3 (by omega)
                    have bo3 := bor.keep hwU3
                    have k163 := k16.keep hwU3
                    have hgo3 := bo3.lt
                    have cgo : U3.cell? ⟨go, i, none⟩ = some u := by
                      rw [bo3.cell]
                      simp [outL_len, hlt]
                    obtain ⟨Au, cu, rfl⟩ := own_lenX hown
                    have yg := gw_cell (W := U3) hgo3 cgo
                    have yq := gw_blk b19'
                    have yc := gw_blk k163
                    clear e1 e2 b19 bU3 cgo
                    refine wp_region_lateM 10 [0,1] [(8, Spec.val (.agg #[.int .u64 (fv (q - ck).a), .int .u64 (fv (q - ck).b)])), (9, Spec.rel (Lit 30 1 (([q - ck] : List E).flatMap ec).toArray) (LitF 1))] (by kernel_rfl) (by kernel_rfl) (by kernel_rfl) (by kernel_rfl) (by intro _ _ d _ _ h; cases d <;> exact h) ⟨fit_lit, trivial⟩ ?_
                    refine rg_det rfl rfl rfl (fun K hK => ?_)
                    go_big_quiet_op
                    refine hK _ ?_; clear hK K
                    refine rg_det rfl rfl rfl (fun K hK => ?_)
                    go_big_quiet_op
                    refine hK _ ?_; clear hK K
                    refine rg_det rfl rfl rfl (fun K hK => ?_)
                    go_big_quiet_op
                    refine hK _ ?_; clear hK K
                    refine rg_det rfl rfl rfl (fun K hK => ?_)
                    go_big_quiet_op
                    refine hK _ ?_; clear hK K
                    refine rg_det rfl rfl rfl (fun K hK => ?_)
                    go_big_quiet_op
                    refine hK _ ?_; clear hK K
                    refine rg_det rfl rfl rfl (fun K hK => ?_)
                    go_big_quiet_op
                    refine hK _ ?_; clear hK K
                    refine rg_det rfl rfl rfl (fun K hK => ?_)
                    go_big_quiet_op
                    refine hK _ ?_; clear hK K
                    refine rg_det rfl rfl rfl (fun K hK => ?_)
                    go_big_quiet_op
                    refine hK _ ?_; clear hK K
                    refine rg_val rfl rfl (fun W1 hW1 hF => step_callv en_attestor_ext_Sub (eSub q ck W1) rfl rfl) ?_
                    intro a' ha
                    simp only [Act.put, List.setIfInBounds_toArray, List.set_cons_succ, List.set_cons_zero] at ha
                    subst ha
                    refine rg_rel rfl rfl (fun W1 hW1 hF => step_litE [q - ck] rfl (by decide) (by decide) rfl rfl) ?_
                    intro nx9 mx9 vx9 hnx9 hmx9 hdx9 hfx9 a' ha
                    simp only [Act.put, List.setIfInBounds_toArray, List.set_cons_succ, List.set_cons_zero] at ha
                    subst ha
                    obtain rfl := hfx9
                    refine rg_nil (fun w' hw' hF => ?_)
                    obtain ⟨z4, rfl⟩ := hw'
                    simp only [List.drop_succ_cons, List.drop_zero]
                    obtain ⟨hmx, -, hlx, bL⟩ := end_last hF
                    have hz4 := z4.h.size
                    clear hF yg yq yc
                    have hwz4 : Below wr.heap.size wr z4.w := hwU3.trans (z4.h.mono hwU3.size)
                    have HX4 := Lib.hid (hXk.trans (hwz4.mono hXk.size))
                    have bo4 := bo3.gw z4
                    have hsw4 := hwz4.size
                    have HOwn := Lib.hid hown
                    refine wpList_app3 rfl _ _ rfl Tryz.underlying22 hi1 jz0 jz1 jz2 rfl (by decide) (cl := ec (q - ck)) rfl (ec_one _) rfl rfl (own_below hown (Nat.le_refl _) hwz4) bL (by unfold maxLen; omega) (by omega) (by omega) ?_
                    intro v' w' hown' hgrow hBg hob
                    have hob1 : ∀ g, g < U2.heap.size → some g ≠ (Value.slice Au x cu).ownBlock := fun g hg e => by
                      have := (own_block HOwn.out e.symm).1
                      omega
                    have bo5 := grown_blk hgrow bo4 (hob1 go hgoU)
                    have hgo5 := bo5.lt
                    have hgs5 := hBg.size
                    have hUw4 : Keeps (fun g => g ≠ go) U2 z4.w := hKk.trans (Keeps.of_below hwz4)
                    have hKw : Keeps (fun g => g ≠ go) U2 w' := ⟨by omega, fun g hg hl => (hgrow.block g (by omega) (hob1 g hl)).trans (hUw4.same g hg hl)⟩
                    obtain ⟨Av, cv, rfl⟩ := own_lenX hown'
                    have HG := Lib.hid hgrow
                    have HOwn' := Lib.hid hown'
                    clear hgrow hown' hob
                    have e1 : w'.cell? ⟨go, i, none⟩ = some (.slice Au x cu) := by
                      rw [bo5.cell]
                      simp [outL_len, hlt]
                    have e2 := bo5.frozen
                    go_wp2_with fail
                    refine ⟨⟨x + 1, by omega, by go_num, ⟨.slice Av (x + 1) cv, ?_, ?_⟩, ?_, ?_⟩, by simp [intOf]; omega⟩
                    · have h5 := bo5.set_ i (.slice Av (x + 1) cv)
                      rwa [List.setIfInBounds_toArray, List.set_set] at h5
                    · have hT : (row.take (x + 1)).flatMap ec = (row.take x).flatMap ec ++ ec (q - ck) := by
                        rw [List.take_add_one, HRx.out]
                        simp
                      rw [hT]
                      exact own_put HOwn'.out (Put.set _ _ _ _) (by omega)
                    · exact ⟨by rw [(Put.set w' go i (.slice Av (x + 1) cv)).size]; exact hKw.size, fun g hg hl => ((Put.set w' go i (.slice Av (x + 1) cv)).other g hg).trans (hKw.same g hg hl)⟩
                    · exact below_put (HX4.out.trans (hBg.mono (by omega))) (Put.set _ _ _ _) (by omega)
                  · have hxD : x = D + 1 := by omega
                    rw [hxD] at hown
                    rw [List.take_of_length_le (by rw [HRowL.out]; exact Nat.le_refl _)] at hown
                    have hsk := hKk.size
                    go_wp2_with fail
                    refine ⟨⟨i + 1, by omega, by go_num, ⟨fun k => if k = i then u else f k, by rw [← outL_set]; exact bor, fun k t' hk ht' => ?_⟩, hXk, fun j h1 h2 => ?_⟩, by simp [intOf]; omega⟩
                    · by_cases hki : k = i
                      · rw [hki, HRi.out] at ht'
                        cases ht'
                        simp only [if_pos hki]
                        exact Rd.wide (exts_of_own hown HRowL.out (by omega) (Nat.le_refl _)) (by omega) (Nat.le_refl _)
                      · simp only [if_neg hki]
                        exact Rd.wide (Keeps.rd (HRS.out k t' (by omega) ht') hKk (fun g h1 _ => by omega)) (Nat.le_refl _) (by omega)
                    · by_cases hji : j = i
                      · rw [hji]
                        exact HSi.out (by omega)
                      · exact HSum.out j h1 (by omega)
            · have hin : i = n := by omega
              rw [hin] at hO
              have HFR := Lib.hid (HE0'.out ((sumOk_true rs co).2 fun j h0 h1 => HSum.out j h0 (by rw [← HRl.out, hrn] at h1; omega)))
              have hTR := OutF.tabs (lo := w.heap.size) hO (Nat.le_refl _) (by rw [HRL.out]; exact Nat.le_refl _) (by omega) (by omega) (by omega)
              rw [List.take_of_length_le (by rw [HRL.out]; exact Nat.le_refl _)] at hTR
              clear hO
              go_wp2_with fail
              refine bodyPost_ret (v := .tuple #[.slice (some ⟨go, 0, none⟩) n n, .int .i64 0]) (by simp [results, Tryz.results16, go_sem]) rfl ⟨.slice (some ⟨go, 0, none⟩) n n, by rw [HFR.out], by rw [HFR.out]; exact hTR, hB4.trans (hBr.mono hB4.size)⟩
        · go_wp2_with fail
          refine bodyPost_ret (v := .tuple #[nilV, .int .i64 61]) (by simp [nilV, results, Tryz.results16, go_sem]) rfl ⟨nilV, by rw [HE61.out hrn hcn hrho hbad], by rw [HE61.out hrn hcn hrho hbad]; exact nil_tabs _ _ _, hB3⟩
    · have q2 : ((cl : Int) != (n : Int)) = true := by simp; omega
      have e5 := b5.cell
      go_wp2_with fail
      refine bodyPost_ret (v := .tuple #[nilV, .int .i64 1]) (by simp [nilV, results, Tryz.results16, go_sem]) rfl ⟨nilV, by rw [HE1.out (.inr hcn)], by rw [HE1.out (.inr hcn)]; exact nil_tabs _ _ _, hB⟩
  · have q1 : ((rl : Int) != (n : Int)) = true := by simp; omega
    go_wp2_with fail
    refine bodyPost_ret (v := .tuple #[nilV, .int .i64 1]) (by simp [nilV, results, Tryz.results16, go_sem]) rfl ⟨nilV, by rw [HE1.out (.inl hrn)], by rw [HE1.out (.inl hrn)]; exact nil_tabs _ _ _, hB⟩
end Go.Proofs.YtnddfeidggcplaaGreat
