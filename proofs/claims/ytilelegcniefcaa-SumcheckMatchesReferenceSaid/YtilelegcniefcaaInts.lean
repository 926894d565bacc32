/-
  The reference's functions of chapter 05, by contract.
  Validity of tables: the function of package mle and the reference's, by contract.
  Integers made into elements, as the statements of chapter 17 do it.
-/
import Derived.Test.YtilelegcniefcaaMl3
import Derived.Test.YtilelegcniefcaaGrow
namespace Go.Proofs.Ytilelegcniefcaa
open Go.RowKit

def lineE (p q : List E) (t : E) (j : Nat) : List E := (List.range j).map fun k => p.getD k 0 + t * (q.getD k 0 - p.getD k 0)
theorem lineE_succ (p q : List E) (t : E) (j : Nat) : lineE p q t (j + 1) = lineE p q t j ++ [p.getD j 0 + t * (q.getD j 0 - p.getD j 0)] := by simp [lineE, List.range_succ]
theorem lineE_length (p q : List E) (t : E) (j : Nat) : (lineE p q t j).length = j := by simp [lineE]
def bindE (t : List E) (r : E) (j : Nat) : List E := (List.range j).map fun k => t.getD (2 * k) 0 + r * (t.getD (2 * k + 1) 0 - t.getD (2 * k) 0)
theorem bindE_succ (t : List E) (r : E) (j : Nat) : bindE t r (j + 1) = bindE t r j ++ [t.getD (2 * j) 0 + r * (t.getD (2 * j + 1) 0 - t.getD (2 * j) 0)] := by simp [bindE, List.range_succ]
theorem bindE_length (t : List E) (r : E) (j : Nat) : (bindE t r j).length = j := by simp [bindE]
theorem bindE_all (r : E) : ∀ (n : Nat) (t : List E), t.length = 2 * n → bindE t r n = bindL t r
  | 0, [], _ => rfl
  | n + 1, x :: y :: t, h => by
    have ih := bindE_all r n t (by simp only [List.length_cons] at h; omega)
    rw [bindL, ← ih]
    unfold bindE
    rw [List.range_succ_eq_map, List.map_cons, List.map_map]
    congr 1
  | 0, _ :: _, h => by simp at h
  | n + 1, [], h => by simp at h
  | n + 1, [_], h => by simp at h; omega
/-- The table that 'Made' makes. -/
def mdAt (l : List Raw) (i : Nat) : E := if l.length = 0 then eb (fz i) else madeAt l (i % l.length) + eb (fz ((i / l.length : Nat) : Int))
def mdT (l : List Raw) (j : Nat) : List E := (List.range j).map (mdAt l)
theorem mdT_succ (l : List Raw) (j : Nat) : mdT l (j + 1) = mdT l j ++ [mdAt l j] := by simp [mdT, List.range_succ]
theorem mdT_length (l : List Raw) (j : Nat) : (mdT l j).length = j := by simp [mdT]
theorem tabE_succ (p : List E) (j : Nat) : ((List.range (j + 1)).map fun i => eqi i p) = ((List.range j).map fun i => eqi i p) ++ [eqi j p] := by simp [List.range_succ]
def liftE (zs : List Int) : List E := zs.map fun z => eb (fz z)

set_option maxRecDepth 100000 in
set_option maxHeartbeats 1000000 in
theorem rEval (t p : List E) (ht : t.length ≤ 1000000) (hp : p.length ≤ 60) (v1 v2 : Value) (lo1 hi1 lo2 hi2 : Nat) (w : World) (h1 : ExtS lo1 hi1 w v1 t) (h2 : ExtS lo2 hi2 w v2 p) :
    Calls Try.prog 35 #[v1, v2] w (Ret (ev (dotE t p t.length)) w) := by
  obtain ⟨A1, cap1, rfl⟩ := h1.len
  have hlen := h1.2.1
  unfold ev
  go_enter Try.func35, Try.ntmps35
  go_wp2
  refine wp_stk2 fun W3 hB3 hz3 d1 b5 => ?_
  have hne : w.heap.size ≠ w.heap.size + 1 := by omega
  go_loopw [6] (fun i wr => ∃ k : Nat, k ≤ t.length ∧ i = .int .i64 k ∧ Blk wr (w.heap.size + 1) 43 #[.int .u64 (fv (dotE t p k).a), .int .u64 (fv (dotE t p k).b)] ∧ Blk wr w.heap.size 43 #[.int .u64 0, .int .u64 0] ∧ Below w.heap.size w wr) (fun i _ => t.length - (intOf i).toNat)
  case atStart => exact ⟨0, Nat.zero_le _, rfl, b5, d1, hB3⟩
  case round =>
    obtain ⟨k, hk, rfl, bk, br, hB⟩ := hrel
    clear b5 d1 hB3
    by_cases hlt : k < t.length
    · obtain ⟨g, off, cap', hv, q1, q2, q3, q4, q5⟩ := exts_cells h1 (by omega)
      cases hv
      obtain ⟨x, hx, hxd⟩ := get_of hlt
      obtain ⟨d1, d2⟩ := q5 k x hx
      have c1 := gw_cell (W := wr) (Nat.lt_of_lt_of_le q4 hB.size) ((hB.cell (p := ⟨g, off + k * 2, none⟩) q4).trans d1)
      have c2 := gw_cell (W := wr) (Nat.lt_of_lt_of_le q4 hB.size) ((hB.cell (p := ⟨g, off + k * 2 + 1, none⟩) q4).trans d2)
      have c5 := gw_blk bk
      have h2r := Rd.keep h2 hB
      have HF := Lib.hid (dotE_succ t p k)
      rw [hxd] at HF
      have hk6 : k ≤ 1000000 := by omega
      clear q5 d1 d2 hx hxd h1 h2
      generalize dotE t p k = m at *
      go_wp2
      refine wp_region_rg 10 [(7, Spec.val (.agg #[.int .u64 (fv (eqi k p).a), .int .u64 (fv (eqi k p).b)])), (8, Spec.val (.agg #[.int .u64 (fv (x * eqi k p).a), .int .u64 (fv (x * eqi k p).b)])), (9, Spec.val (.agg #[.int .u64 (fv (m + x * eqi k p).a), .int .u64 (fv (m + x * eqi k p).b)]))] (by kernel_rfl) (by kernel_rfl) (by kernel_rfl) trivial ?_
      refine rg_det rfl rfl rfl (fun K hK => ?_)
      go_big_quiet_op
      refine hK _ ?_; clear hK K
      refine rg_det rfl rfl rfl (fun K hK => ?_)
      go_big_quiet_op
      refine hK _ ?_; clear hK K
      refine rg_det rfl rfl rfl (fun K hK => ?_)
      go_big_quiet_op
      refine hK _ ?_; clear hK K
      refine rg_det rfl rfl rfl (fun K hK => ?_)
      go_big_quiet_op
      refine hK _ ?_; clear hK K
      refine rg_det rfl rfl rfl (fun K hK => ?_)
      go_big_quiet_op
      refine hK _ ?_; clear hK K
      refine rg_det rfl rfl rfl (fun K hK => ?_)
      go_big_quiet_op
      refine hK _ ?_; clear hK K
      refine rg_det rfl rfl rfl (fun K hK => ?_)
      go_big_quiet_op
      refine hK _ ?_; clear hK K
      refine rg_val rfl rfl (fun W1 hW1 hF => step_callv en_attestor_attestorref05_EqIndex (mEqIndexR k p hk6 hp _ lo2 hi2 W1 (Rd.keep h2r (grw_below hW1))) rfl rfl) ?_
      intro a' ha
      simp only [Act.put, List.setIfInBounds_toArray, List.set_cons_succ, List.set_cons_zero] at ha
      subst ha
      refine rg_val rfl rfl (fun W1 hW1 hF => step_callv en_attestor_attestorref02_Mul (xMul x (eqi k p) W1) rfl rfl) ?_
      intro a' ha
      simp only [Act.put, List.setIfInBounds_toArray, List.set_cons_succ, List.set_cons_zero] at ha
      subst ha
      refine rg_val rfl rfl (fun W1 hW1 hF => step_callv en_attestor_attestorref02_Add (xAdd m (x * eqi k p) W1) rfl rfl) ?_
      intro a' ha
      simp only [Act.put, List.setIfInBounds_toArray, List.set_cons_succ, List.set_cons_zero] at ha
      subst ha
      refine rg_nil (fun w' hw' hF => ?_)
      obtain ⟨z, rfl⟩ := hw'
      simp only [List.drop_succ_cons, List.drop_zero]
      have e1 := (bk.gw z).cell
      have e2 := (bk.gw z).frozen
      go_wp2
      exact ⟨⟨k + 1, by omega, by go_num, by rw [HF.out]; exact blk_set2 (bk.gw z), blk_far2 (br.gw z) hne, below_set2 (hB.trans (z.h.mono hB.size)) (by omega)⟩, by simp [intOf]; omega⟩
    · obtain rfl : k = t.length := by omega
      have e1 := bk.cell
      have e3 := br.cell
      have e4 := br.frozen
      go_wp2
      refine bodyPost_ret (v := .agg #[.int .u64 (fv (dotE t p t.length).a), .int .u64 (fv (dotE t p t.length).b)]) (by simp [results, Try.results35, go_sem, e3]) rfl ⟨rfl, ?_⟩
      exact below_set2 hB (Nat.le_refl _)
end Go.Proofs.Ytilelegcniefcaa
namespace Go.Proofs.Ytilelegcniefcaa
open Go.RowKit
attribute [local go_sem] Oper.semAt_some

def vld (x : Raw) : Bool := decide (x.1 < 18446744069414584321) && decide (x.2 < 18446744069414584321)
/-- What is returned for a table: the number of variables, and whether it is valid. -/
def VR (xs : List Raw) (n : Nat) (b : Bool) : Prop := (b = true ∧ xs.length = 2 ^ n ∧ n ≤ 16 ∧ xs.all vld = true) ∨ (b = false ∧ n = 0 ∧ ¬ ∃ m, xs.length = 2 ^ m ∧ m ≤ 16 ∧ xs.all vld = true)
theorem vr_unique {xs : List Raw} {n m : Nat} {a b : Bool} (h1 : VR xs n a) (h2 : VR xs m b) : n = m ∧ a = b := by
  rcases h1 with ⟨ha, h3, h4, h5⟩ | ⟨ha, h3, h4⟩ <;> rcases h2 with ⟨hb, h6, h7, h8⟩ | ⟨hb, h6, h7⟩
  · refine ⟨?_, by rw [ha, hb]⟩
    exact (Nat.pow_right_inj (Nat.le_refl 2)).1 (h3.symm.trans h6)
  · exact absurd ⟨n, h3, h4, h5⟩ h7
  · exact absurd ⟨m, h6, h7, h8⟩ h4
  · exact ⟨by omega, by rw [ha, hb]⟩
def VRes (xs : List Raw) (_ _ : Nat) (v : Value) (_ : World) : Prop := ∃ (n : Nat) (b : Bool), v = .tuple #[.int .i64 n, .bool b] ∧ VR xs n b
set_option maxRecDepth 100000 in
set_option maxHeartbeats 400000 in
theorem fValid (a : Int) (w : World) : Calls Try.prog 68 #[.int .u64 a] w (Ret (.bool (decide (a < 18446744069414584321))) w) := by
  go_enter Try.func68, Try.ntmps68
  go_wp2
  go_ret
  exact ⟨rfl, Below.refl _ _⟩
set_option maxRecDepth 100000 in
set_option maxHeartbeats 400000 in
theorem rValid1 (a : Int) (w : World) : Calls Try.prog 73 #[.int .u64 a] w (Ret (.bool (decide (a < 18446744069414584321))) w) := by
  go_enter Try.func73, Try.ntmps73
  go_wp2
  go_ret
  exact ⟨rfl, Below.refl _ _⟩
set_option maxRecDepth 100000 in
set_option maxHeartbeats 400000 in
theorem eValid (x : Raw) (w : World) : Calls Try.prog 43 #[.agg #[.int .u64 x.1, .int .u64 x.2]] w (Ret (.bool (vld x)) w) := by
  unfold vld
  cases hd : decide (x.1 < 18446744069414584321)
  · skip
    go_enter Try.func43, Try.ntmps43
    go_wp2_with fail
    refine calls_stk1 fun W hB hz b1 => ?_
    refine (fValid x.1 W).mono ?_
    rintro e w2 ⟨rfl, hb⟩
    rw [hd]
    clear hd
    go_wp2
    go_ret
    exact ⟨rfl, hB.trans (hb.mono hB.size)⟩
  · skip
    go_enter Try.func43, Try.ntmps43
    go_wp2_with fail
    refine calls_stk1 fun W hB hz b1 => ?_
    refine (fValid x.1 W).mono ?_
    rintro e w2 ⟨rfl, hb⟩
    rw [hd]
    have c1 := (b1.keep hb).cell
    clear hd
    go_wp2_with fail
    refine (fValid x.2 _).mono ?_
    rintro e w3 ⟨rfl, hb3⟩
    go_wp2
    go_ret
    exact ⟨rfl, (hB.trans (hb.mono hB.size)).trans (hb3.mono (hB.trans (hb.mono hB.size)).size)⟩
set_option maxRecDepth 100000 in
set_option maxHeartbeats 400000 in
theorem xValid (x : Raw) (w : World) : Calls Try.prog 51 #[.agg #[.int .u64 x.1, .int .u64 x.2]] w (Ret (.bool (vld x)) w) := by
  unfold vld
  cases hd : decide (x.1 < 18446744069414584321)
  · skip
    go_enter Try.func51, Try.ntmps51
    go_wp2_with fail
    refine calls_stk1 fun W hB hz b1 => ?_
    refine (rValid1 x.1 W).mono ?_
    rintro e w2 ⟨rfl, hb⟩
    rw [hd]
    clear hd
    go_wp2
    go_ret
    exact ⟨rfl, hB.trans (hb.mono hB.size)⟩
  · skip
    go_enter Try.func51, Try.ntmps51
    go_wp2_with fail
    refine calls_stk1 fun W hB hz b1 => ?_
    refine (rValid1 x.1 W).mono ?_
    rintro e w2 ⟨rfl, hb⟩
    rw [hd]
    have c1 := (b1.keep hb).cell
    clear hd
    go_wp2_with fail
    refine (rValid1 x.2 _).mono ?_
    rintro e w3 ⟨rfl, hb3⟩
    go_wp2
    go_ret
    exact ⟨rfl, (hB.trans (hb.mono hB.size)).trans (hb3.mono (hB.trans (hb.mono hB.size)).size)⟩
end Go.Proofs.Ytilelegcniefcaa
namespace Go.Proofs.Ytilelegcniefcaa
open Go.RowKit

def zc (z : Int) : List Value := [.int .i64 z]
theorem zc_len (z : Int) : (zc z).length = 1 := rfl
def IntS (lo hi : Nat) (w : World) (v : Value) (zs : List Int) : Prop := Rd lo hi 1 w v zs.length (zs.flatMap zc) ∧ ∀ z ∈ zs, Num z
def intsE (zs : List Int) : List E := zs.map fun z => eb (fz z)
set_option maxRecDepth 100000 in
set_option maxHeartbeats 1000000 in
theorem lInts (zs : List Int) (v : Value) (lo hi : Nat) (w : World) (h : IntS lo hi w v zs) (hl : zs.length ≤ 1000) :
    Calls Try.prog 41 #[v] w (RetR (ExtA (intsE zs)) w) := by
  obtain ⟨A, cap, rfl⟩ := h.1.len
  obtain ⟨i0, hi0, hz0, hz1, hz2⟩ := info_parts ext_info
  go_enter Try.func41, Try.ntmps41
  go_wp2
  go_loopw [3, 4] (fun v j wr => ∃ k : Nat, k ≤ zs.length ∧ j = .int .i64 k ∧ wr.ownsRow w.heap.size 43 2 v k ((intsE (zs.take k)).flatMap ec) ∧ Below w.heap.size w wr) (fun _ j _ => zs.length - (intOf j).toNat)
  case atStart => exact ⟨0, Nat.zero_le _, rfl, ⟨by simp [intsE], .inr ⟨w.heap.size, 0, #[], rfl, Nat.le_refl _, World.alloc_heap_new w _, Nat.le_refl _, Nat.zero_le _, rfl, by simp [intsE]⟩⟩, (Below.refl _ _).alloc (Nat.le_refl _) _⟩
  case round =>
    obtain ⟨k, hk, rfl, hown, hB⟩ := hrel
    by_cases hlt : k < zs.length
    · obtain ⟨g, off, cap', hv, q1, q2, q3, q4, q5⟩ := Rd.form h.1 (by omega)
      cases hv
      obtain ⟨z, hz⟩ : ∃ z, zs[k]? = some z := ⟨zs[k], List.getElem?_eq_getElem hlt⟩
      have hc := q5 (k * 1 + 0) _ (flat_get zc_len zs k 0 z _ hz rfl)
      rw [Nat.mul_one, Nat.add_zero] at hc
      have c1 := (hB.cell (p := ⟨g, off + k, none⟩) q4).trans hc
      obtain ⟨n1, n2⟩ := h.2 z (List.mem_of_getElem? hz)
      have hf : (intsE (zs.take (k + 1))).flatMap ec = (intsE (zs.take k)).flatMap ec ++ ec (eb (fz z)) := by
        unfold intsE
        rw [List.take_add_one, hz]
        simp
      have HF := Lib.hid hf
      clear hf hz hc q5 h
      go_wp2_with fail
      refine (xFromInt z (by omega) (by omega) _).mono ?_
      rintro e w2 ⟨he, hb⟩
      unfold ev at he
      subst he
      have hb2 : Below wr.heap.size wr w2 := hb
      generalize eb (fz z) = y at *
      go_wp2_with (at_builtin; refine wpList_app1 rfl _ _ rfl Try.underlying22 hi0 hz0 hz1 hz2 rfl (by decide) (cl := ec y) rfl (ec_one _) rfl rfl (own_below hown (Nat.le_refl _) ?hX) ?hsrc ?h63 ?hby ?hbase ?_)
      case hX => exact hb2.alloc hb2.size _
      case hsrc => exact Blk.new_at _ _ _ (by simp)
      case h63 => unfold maxLen; omega
      case hby => omega
      case hbase => have := hB.size; have := hb2.size; simp; omega
      intro v1 w3 hown3 hgrow hB3
      go_wp2
      exact ⟨⟨k + 1, by omega, by go_num, by rw [HF.out]; exact hown3, (hB.trans ((hb2.alloc hb2.size _).mono hB.size)).trans hB3⟩, by simp [intOf]; omega⟩
    · obtain rfl : k = zs.length := by omega
      go_wp2
      go_ret
      refine ⟨u3, rfl, ?_, hB⟩
      have := Rd.of_own hown (by omega) (Nat.le_refl _)
      rw [List.take_of_length_le (Nat.le_refl _)] at this
      unfold ExtA ExtS
      rw [show (intsE zs).length = zs.length by simp [intsE]]
      exact this
end Go.Proofs.Ytilelegcniefcaa
