/-
  What SumcheckLinearity rests on: sums are linear in their coefficients; terms scaled, cut, and a row of scaled terms.
-/
import Derived.Test.YtilelegcniefcaaLCo6
import Derived.Test.YtilelegcniefcaaIp
import Derived.Test.YtilelegcniefcaaCpm
import Derived.Test.YtilelegcniefcaaCut
namespace Go.Proofs.Ytilelegcniefcaa
open Go.RowKit

def sclE (y : E) (ps : List Trm) : List Trm := ps.map fun p => ⟨p.c * y, p.t⟩
theorem sclE_length (y : E) (ps : List Trm) : (sclE y ps).length = ps.length := by simp [sclE]
theorem sclE_succ (y : E) (ps : List Trm) (k : Nat) (p : Trm) (h : ps[k]? = some p) : sclE y (ps.take (k + 1)) = sclE y (ps.take k) ++ [⟨p.c * y, p.t⟩] := by
  simp [sclE, List.take_add_one, h]
theorem trm_scl (val : Nat → E) (y : E) (p : Trm) : trmE val ⟨p.c * y, p.t⟩ = y * trmE val p := by
  have key : ∀ (l : List Nat) (c : E), l.foldl (fun v k => v * val k) (c * y) = y * l.foldl (fun v k => v * val k) c := by
    intro l
    induction l with
    | nil => intro c; exact E.mul_comm _ _
    | cons k l ih => intro c; rw [List.foldl_cons, List.foldl_cons, ← ih, E.mul_assoc, E.mul_comm y, ← E.mul_assoc]
  exact key p.t p.c
theorem fin_scl (val : Nat → E) (y : E) (ps : List Trm) : finE val (sclE y ps) = y * finE val ps := by
  unfold finE sclE
  rw [List.map_map, ← esum_mul]
  exact esum_congr _ _ _ fun p _ => trm_scl val y p
theorem tot_scl (tabs : List (List E)) (y : E) (ps : List Trm) : totE tabs (sclE y ps) = totE tabs ps * y := by
  unfold totE totK
  rw [E.mul_comm, ← esum_mul]
  exact esum_congr _ _ _ fun i _ => fin_scl _ y ps
theorem deg_scl (y : E) (ps : List Trm) : degE (sclE y ps) = degE ps := by unfold degE sclE; rw [List.foldl_map]
theorem fin_split (val : Nat → E) (ps : List Trm) (n : Nat) : finE val (ps.take n) + finE val (ps.drop n) = finE val ps := by
  unfold finE
  rw [← esum_append, ← List.map_append, List.take_append_drop]
theorem tot_split (tabs : List (List E)) (ps : List Trm) (n : Nat) : totE tabs (ps.take n) + totE tabs (ps.drop n) = totE tabs ps := by
  unfold totE totK
  rw [← esum_add]
  exact esum_congr _ _ _ fun i _ => fin_split _ ps n
theorem rnd_scl (tabs : List (List E)) (y : E) (ps : List Trm) (i : Nat) (h : i < degE ps + 1) : (rndE tabs (sclE y ps)).getD i 0 = (rndE tabs ps).getD i 0 * y := by
  rw [rndE_get tabs ps i h, rndE_get tabs (sclE y ps) i (by rw [deg_scl]; exact h), tot_scl]
theorem rnd_split (tabs : List (List E)) (ps : List Trm) (n i N : Nat) (h : i < degE ps + 1) (hall : AllLen tabs (2 * N)) (h0 : 0 < tabs.length) (h3 : ∀ p ∈ ps, p.t.length ≤ 3) :
    atE (rndE tabs (ps.take n)) (nodeE i) + atE (rndE tabs (ps.drop n)) (nodeE i) = (rndE tabs ps).getD i 0 := by
  rw [rnd_at tabs (ps.take n) N hall h0 (degE_le _ 3 (by decide) fun p hp => h3 p (List.mem_of_mem_take hp)), rnd_at tabs (ps.drop n) N hall h0 (degE_le _ 3 (by decide) fun p hp => h3 p (List.mem_of_mem_drop hp)), tot_split, rndE_get tabs ps i h]

/-! ### Cuts -/
theorem elem_prod : Try.prog.elem 28 = 66 := by kernel_rfl
/-- A slice of terms, cut from an index on. -/
theorem cut_trm (A : Option Addr) (n cap k : Nat) (hk : k ≤ n) : ∃ A' cap', (∀ w, (Instr.sliceAt 28 (.slice A n cap) (some (.int .i64 (k : Int))) none none).run Try.prog w = .ok (.slice A' (n - k) cap') w) ∧
    ∀ lo hi w ps, TrmS lo hi w (.slice A n cap) ps → TrmS lo hi w (.slice A' (n - k) cap') (ps.drop k) := by
  have ht : Try.prog.underlying 28 = some (.slice (Try.prog.elem 28)) := by rw [elem_prod]; exact Try.underlying28
  refine ⟨if cap = k then A else A.map (·.add (k * 3)), cap - k, fun w => ?_, fun lo hi w ps h => ?_⟩
  · rw [run_sliceAt_slice w _ _ _ _ _ ht, run_slice_l w _ A n cap ht .i64 (k : Int) (by omega) (by omega), elem_prod, Try.sizeOf66]
    simp [Result.andThen, sliced]
  · obtain ⟨us, hu, ⟨h1, h2, A0, cap0, h3, h4, h5⟩, h6⟩ := h
    cases h3
    have hl : (ps.drop k).length = ps.length - k := List.length_drop ..
    have hul : (us.drop k).length = us.length - k := List.length_drop ..
    have hz : ((ps.drop k).zip (us.drop k)) = (ps.zip us).drop k := by simp only [List.zip, List.drop_zipWith]
    refine ⟨us.drop k, by rw [hl, hul, hu], ⟨?_, by omega, _, _, by rw [hl], by omega, fun h0 => ?_⟩, fun j u p hj hp => ?_⟩
    · rw [flat_length trc_len, List.length_zip, hl, hul, hu, Nat.min_self]
    · obtain ⟨g, off, rfl, q2, q3, q4, q5⟩ := h5 (by omega)
      refine ⟨g, off + k * 3, ?_, q2, q3, q4, fun j u hj => ?_⟩
      · rw [if_neg (by omega)]
        simp only [Option.map_some, Option.some.injEq]
        unfold Addr.add
        by_cases hk0 : k = 0
        · subst hk0; simp
        · rw [if_neg (by omega)]
      · rw [Nat.add_assoc]
        refine q5 (k * 3 + j) u ?_
        rw [hz] at hj
        have e : (ps.zip us).flatMap trc = ((ps.zip us).take k).flatMap trc ++ ((ps.zip us).drop k).flatMap trc := by rw [← List.flatMap_append, List.take_append_drop]
        have hlt : (((ps.zip us).take k).flatMap trc).length = k * 3 := by rw [flat_length trc_len, List.length_take, List.length_zip, hu, Nat.min_self, Nat.min_eq_left (by omega)]
        rw [e, List.getElem?_append_right (by omega), hlt, Nat.add_sub_cancel_left]
        exact hj
    · rw [List.getElem?_drop] at hj hp
      exact h6 (k + j) u p hj hp
theorem trms_take {lo hi n k cap : Nat} {A : Option Addr} {w : World} {ps : List Trm} (h : TrmS lo hi w (.slice A n cap) ps) (hk : k ≤ ps.length) : TrmS lo hi w (.slice A k cap) (ps.take k) := by
  obtain ⟨us, hu, ⟨h1, h2, A0, cap0, h3, h4, h5⟩, h6⟩ := h
  cases h3
  have hl : (ps.take k).length = k := by rw [List.length_take]; omega
  have hul : (us.take k).length = k := by rw [List.length_take]; omega
  have hz : ((ps.take k).zip (us.take k)) = (ps.zip us).take k := by simp only [List.zip, List.take_zipWith]
  refine ⟨us.take k, by rw [hl, hul], ⟨?_, by omega, A, cap, by rw [hl], by omega, fun h0 => ?_⟩, fun j u p hj hp => ?_⟩
  · rw [flat_length trc_len, List.length_zip, hl, hul, Nat.min_self]
  · obtain ⟨g, off, rfl, q2, q3, q4, q5⟩ := h5 (by omega)
    refine ⟨g, off, rfl, q2, q3, q4, fun j u hj => q5 j u ?_⟩
    rw [hz] at hj
    have e : (ps.zip us).flatMap trc = ((ps.zip us).take k).flatMap trc ++ ((ps.zip us).drop k).flatMap trc := by rw [← List.flatMap_append, List.take_append_drop]
    rw [e, List.getElem?_append_left (List.getElem?_eq_some_iff.1 hj).1]
    exact hj
  · have hj' := (List.getElem?_eq_some_iff.1 hj).1
    rw [List.getElem?_take, if_pos (by omega)] at hj hp
    exact h6 j u p hj hp

/-! ### A row of terms whose indices lie elsewhere -/
def RowQ (base lo hi : Nat) (V w : World) (u : Value) (ps : List Trm) : Prop := ∃ us : List Value, w.ownsRow base 66 3 u ps.length ((ps.zip us).flatMap trc) ∧ us.length = ps.length ∧ ∀ (k : Nat) x p, us[k]? = some x → ps[k]? = some p → IdxS lo hi V x p.t
theorem RowQ.first (base lo hi : Nat) (V w : World) : RowQ base lo hi V w (.slice none 0 0) [] := ⟨[], ⟨rfl, .inl ⟨rfl, rfl⟩⟩, rfl, fun k x t h => by simp at h⟩
theorem RowQ.len {base lo hi : Nat} {V w : World} {u : Value} {ps : List Trm} (h : RowQ base lo hi V w u ps) : ∃ A cap, u = .slice A ps.length cap := by
  obtain ⟨us, h1, _⟩ := h
  exact own_len h1
theorem RowQ.keep {base lo hi : Nat} {V w X : World} {u : Value} {ps : List Trm} (h : RowQ base lo hi V w u ps) (hb : Below w.heap.size w X) : RowQ base lo hi V X u ps := by
  obtain ⟨us, h1, h2, h3⟩ := h
  exact ⟨us, own_below h1 (Nat.le_refl _) hb, h2, h3⟩
theorem RowQ.put {base lo hi g : Nat} {V w X : World} {u : Value} {ps : List Trm} (h : RowQ base lo hi V w u ps) (hp : Put w X g) (hg : g < base) : RowQ base lo hi V X u ps := by
  obtain ⟨us, h1, h2, h3⟩ := h
  exact ⟨us, own_put h1 hp hg, h2, h3⟩
theorem RowQ.trms {base hi : Nat} {V w : World} {u : Value} {ps : List Trm} (h : RowQ base 0 hi V w u ps) (hl : ps.length ≤ 1000000) (hb : Below V.heap.size V w) (hh : hi ≤ V.heap.size) : TrmS 0 w.heap.size w u ps := by
  obtain ⟨us, h1, h2, h3⟩ := h
  exact ⟨us, h2, Rd.wide (Rd.of_own h1 (by omega) (Nat.le_refl _)) (Nat.zero_le _) (Nat.le_refl _), fun k x t hx ht => Rd.wide (Rd.keep (h3 k x t hx ht) hb) (Nat.le_refl _) (Nat.le_trans hh hb.size)⟩
theorem wpList_appQ {ops : Array Oper} {rest : List Oper} {o : Oper} {a : Act} {Q : Exit → Act → World → Prop} {X V : World} {base n lo hi : Nat} {t : TypeId} {ps : List Trm} {u x : Value} {y : Trm} (hgd : o.guard = none) (s p : Operand)
    (ho : o.op = .call { callee := .builtin .append, args := #[s, p], argTypes := #[t, t] }) (ht : Try.prog.underlying t = some (.slice 66)) (hs : a.eval s = u) (hx : a.eval p = .slice (some ⟨n, 0, none⟩) 1 1) (hrow : RowQ base lo hi V X u ps) (hsrc : Blk X n 66 #[.int .u64 (fv y.c.a), .int .u64 (fv y.c.b), x]) (hxc : x.oneCell' = true)
    (hE : IdxS lo hi V x y.t) (hk : ps.length ≤ 100000) (hbase : base ≤ X.heap.size)
    (h : ∀ v' w', RowQ base lo hi V w' v' (ps ++ [y]) → Below base X w' → X.grownBy w' u.ownBlock → wpList Try.prog ops Q rest (a.put o.dst v') w') : wpList Try.prog ops Q (o :: rest) a X := by
  obtain ⟨i0, hi0, hz0, hz1, hz2⟩ := info_parts prod_info
  obtain ⟨us, h1, h2, h3⟩ := hrow
  refine wpList_app3 hgd s p ho ht hi0 hz0 hz1 hz2 rfl (by decide) (cl := trc (y, x)) rfl (trc_one (y, x) hxc) hs hx h1 hsrc (by unfold maxLen; omega) (by omega) hbase fun v' w' hown hgrow hB hob => ?_
  refine h v' w' ⟨us ++ [x], ?_, by simp [h2], fun k z t' hz ht' => ?_⟩ hB hgrow
  · rw [List.zip_append h2.symm, List.flatMap_append, List.length_append]
    simpa using hown
  by_cases hkl : k < us.length
  · rw [List.getElem?_append_left hkl] at hz
    rw [List.getElem?_append_left (by omega)] at ht'
    exact h3 k z t' hz ht'
  · have hkk : k < (us ++ [x]).length := (List.getElem?_eq_some_iff.1 hz).1
    simp only [List.length_append, List.length_cons, List.length_nil] at hkk
    obtain rfl : k = us.length := by omega
    rw [List.getElem?_append_right (Nat.le_refl _), Nat.sub_self] at hz
    rw [List.getElem?_append_right (by omega), h2, Nat.sub_self] at ht'
    simp only [List.getElem?_cons_zero, Option.some.injEq] at hz ht'
    subst hz
    subst ht'
    exact hE
end Go.Proofs.Ytilelegcniefcaa
