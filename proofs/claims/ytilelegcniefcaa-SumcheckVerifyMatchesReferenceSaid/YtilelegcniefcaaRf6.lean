/-
  A row of slices of which the first may be written to.
-/
import Derived.Test.YtilelegcniefcaaLCo6
import Derived.Test.YtilelegcniefcaaRv6
namespace Go.Proofs.Ytilelegcniefcaa
open Go.RowKit

theorem OwnX.keep {t : List E} {lo hi : Nat} {v : Value} {w X : World} (h : OwnX t lo hi v w) (hb : Below w.heap.size w X) : OwnX t lo hi v X := by
  refine ⟨Rd.keep h.1 hb, fun h0 => ?_⟩
  obtain ⟨g, cap, rest, q1, q2, q3, q4, q5⟩ := h.2 h0
  exact ⟨g, cap, rest, q1, q2, q3, q4, q5.keep hb⟩
theorem OwnX.kept {t : List E} {lo hi : Nat} {v : Value} {w X : World} (h : OwnX t lo hi v w) (k : Kept lo hi w X) (hs : w.heap.size ≤ X.heap.size) : OwnX t lo hi v X := by
  refine ⟨rd_kept h.1 k hs, fun h0 => ?_⟩
  obtain ⟨g, cap, rest, q1, q2, q3, q4, q5⟩ := h.2 h0
  exact ⟨g, cap, rest, q1, q2, q3, q4, (k g q3 q4).trans q5⟩
/-- Each element of the row but the first lies from N1 on; the first lies from N0 on and below N1, in a block of its own. -/
def RowF (base N0 N1 : Nat) (w : World) (u : Value) (ts : List (List E)) : Prop := ∃ us : List Value, w.ownsRow base 22 1 u ts.length us ∧ us.length = ts.length ∧ base ≤ N0 ∧ N0 ≤ N1 ∧ N1 ≤ w.heap.size ∧ Outside N0 N1 u ∧
  ∀ (k : Nat) x t, us[k]? = some x → ts[k]? = some t → if k = 0 then OwnX t N0 N1 x w else ∃ lo hi, N1 ≤ lo ∧ hi ≤ w.heap.size ∧ Outside lo hi u ∧ ExtS lo hi w x t
theorem RowF.len {base N0 N1 : Nat} {w : World} {u : Value} {ts : List (List E)} (h : RowF base N0 N1 w u ts) : ∃ A cap, u = .slice A ts.length cap := by
  obtain ⟨us, h1, _⟩ := h
  exact own_len h1
theorem RowF.keep {base N0 N1 : Nat} {w X : World} {u : Value} {ts : List (List E)} (h : RowF base N0 N1 w u ts) (hb : Below w.heap.size w X) : RowF base N0 N1 X u ts := by
  obtain ⟨us, h1, h2, h3, h4, h5, h6, h7⟩ := h
  refine ⟨us, own_below h1 (Nat.le_refl _) hb, h2, h3, h4, Nat.le_trans h5 hb.size, h6, fun k x t hx ht => ?_⟩
  have := h7 k x t hx ht
  by_cases hk : k = 0
  · rw [if_pos hk] at this ⊢; exact this.keep hb
  · rw [if_neg hk] at this ⊢
    obtain ⟨lo, hi, q1, q2, q3, q4⟩ := this
    exact ⟨lo, hi, q1, Nat.le_trans q2 hb.size, q3, Rd.keep q4 hb⟩
theorem RowF.block {base N0 N1 g : Nat} {w : World} {u : Value} {ts : List (List E)} (h : RowF base N0 N1 w u ts) (hg : u.ownBlock = some g) : base ≤ g ∧ g < w.heap.size := by
  obtain ⟨us, h1, _⟩ := h
  exact own_block h1 hg
/-- As it reads. -/
theorem RowF.tabs {base N0 N1 : Nat} {w : World} {u : Value} {ts : List (List E)} (h : RowF base N0 N1 w u ts) (hl : ts.length ≤ 1000000) : TabS 0 w.heap.size w u ts := by
  obtain ⟨us, h1, h2, h3, h4, h5, h6, h7⟩ := h
  refine ⟨us, h2, (Rd.of_own h1 (by omega) (Nat.le_refl _)).wide (Nat.zero_le _) (Nat.le_refl _), fun k x t hx ht => ?_⟩
  have := h7 k x t hx ht
  by_cases hk : k = 0
  · rw [if_pos hk] at this; exact ext_base this.1
  · rw [if_neg hk] at this
    obtain ⟨lo, hi, q1, q2, q3, q4⟩ := this
    exact ext_base q4
/-- The first element, and the row after a store into its block. -/
theorem RowF.first {base N0 N1 : Nat} {w : World} {u : Value} {t : List E} {ts : List (List E)} (h : RowF base N0 N1 w u (t :: ts)) (h0 : 0 < t.length) (hl : ts.length + 1 ≤ 1000000) (ht : t.length ≤ 1000000) :
    ∃ gU oU cU g cap rest, u = .slice (some ⟨gU, oU, none⟩) (ts.length + 1) cU ∧ gU < w.heap.size ∧ w.cell? ⟨gU, oU, none⟩ = some (.slice (some ⟨g, 0, none⟩) t.length cap) ∧ N0 ≤ g ∧ g < w.heap.size ∧ Blk w g 43 (t.flatMap ec ++ rest).toArray ∧
      ∀ Y X t', Below w.heap.size w Y → Put Y X g → t'.length = t.length → Blk X g 43 (t'.flatMap ec ++ rest).toArray → TabS 0 X.heap.size X u (t' :: ts) := by
  obtain ⟨us, h1, h2, h3, h4, h5, h6, h7⟩ := h
  have hr := Rd.of_own h1 (by simp; omega) (Nat.le_refl _)
  obtain ⟨gU, oU, cU, rfl, q1, q2, q3, q4, q5⟩ := Rd.form hr (by simp)
  match us, h2 with
  | x :: us, h2 =>
  have hx := h7 0 x t rfl rfl
  rw [if_pos rfl] at hx
  obtain ⟨g, cap, rest, rfl, p1, p2, p3, p4⟩ := hx.2 h0
  refine ⟨gU, oU, cU, g, cap, rest, rfl, q4, q5 0 _ rfl, p2, by omega, p4, fun Y X t' hY hp htl hb => ?_⟩
  have hne : gU ≠ g := fun e => by
    rcases h1 with ⟨_, ⟨h, _⟩ | ⟨b, cap, cur, h, hbb, _⟩⟩
    · cases h
    · have hob : Value.ownBlock (.slice (some ⟨gU, oU, none⟩) (t :: ts).length cU) = some gU := by
        cases h; rfl
      rcases h6 gU hob with h | h <;> omega
  refine ⟨_ :: us, h2, ?_, fun k y s hy hs => ?_⟩
  · obtain ⟨r1, r2, A, c, r3, r4, r5⟩ := Rd.keep hr hY
    refine ⟨r1, r2, A, c, r3, r4, fun hpos => ?_⟩
    obtain ⟨g', off, s1, s2, s3, s4, s5⟩ := r5 hpos
    cases r3
    cases s1
    refine ⟨gU, oU, rfl, Nat.zero_le _, by rw [hp.size]; exact s4, by rw [hp.size]; exact s4, fun j v hj => ?_⟩
    have := s5 j v hj
    rw [← this]
    simp only [World.cell?]
    rw [hp.other gU hne]
  · by_cases hk : k = 0
    · subst hk
      simp only [List.getElem?_cons_zero, Option.some.injEq] at hy hs
      subst hy
      subst hs
      exact exts_pad hb htl ht (Nat.zero_le _) hb.lt p1
    · obtain ⟨j, rfl⟩ : ∃ j, k = j + 1 := ⟨k - 1, by omega⟩
      have := h7 (j + 1) y s hy (by simpa using hs)
      rw [if_neg (by omega)] at this
      obtain ⟨lo, hi, q1, q2, q3, q4⟩ := this
      exact ext_base (hp.rd (Rd.keep q4 hY) (.inl (by omega)))
/-- append to the empty row. -/
theorem wpList_appF1 {ops : Array Oper} {rest : List Oper} {o : Oper} {a : Act} {Q : Exit → Act → World → Prop} {X : World} {base n N0 N1 : Nat} {t : TypeId} {u x : Value} {y : List E} (hgd : o.guard = none) (s p : Operand)
    (ho : o.op = .call { callee := .builtin .append, args := #[s, p], argTypes := #[t, t] }) (ht : Try.prog.underlying t = some (.slice 22)) (hs : a.eval s = u) (hx : a.eval p = .slice (some ⟨n, 0, none⟩) 1 1) (hown : X.ownsRow base 22 1 u 0 []) (hsrc : Blk X n 22 #[x]) (hxc : x.oneCell' = true)
    (hE : OwnX y N0 N1 x X) (hlo : base ≤ N0) (h01 : N0 ≤ N1) (hhi : N1 ≤ X.heap.size) (hout : Outside N0 N1 u) (hbase : base ≤ X.heap.size)
    (h : ∀ v' w', RowF base N0 N1 w' v' [y] → Below base X w' → X.grownBy w' u.ownBlock → wpList Try.prog ops Q rest (a.put o.dst v') w') : wpList Try.prog ops Q (o :: rest) a X := by
  obtain ⟨i0, hi0, hz0, hz1, hz2⟩ := info_parts sl_info
  refine wpList_app3 hgd s p ho ht hi0 hz0 hz1 hz2 rfl (by decide) (cl := [x]) rfl (fun v hv => by rw [List.mem_singleton.1 hv]; exact hxc) hs hx hown hsrc (by unfold maxLen; omega) (by omega) hbase fun v' w' hown hgrow hB hob => ?_
  refine h v' w' ⟨[x], hown, rfl, hlo, h01, Nat.le_trans hhi hgrow.size, hout.next hob hhi, fun k z t' hz ht' => ?_⟩ hB hgrow
  have hk : k < [x].length := (List.getElem?_eq_some_iff.1 hz).1
  simp only [List.length_cons, List.length_nil] at hk
  obtain rfl : k = 0 := by omega
  simp only [List.getElem?_cons_zero, Option.some.injEq] at hz ht'
  subst hz
  subst ht'
  rw [if_pos rfl]
  exact hE.kept (Kept.of_grown hgrow hout hhi) hgrow.size
/-- append behind the first. -/
theorem wpList_appF {ops : Array Oper} {rest : List Oper} {o : Oper} {a : Act} {Q : Exit → Act → World → Prop} {X : World} {base n N0 N1 lo hi : Nat} {t : TypeId} {ts : List (List E)} {u x : Value} {y : List E} (hgd : o.guard = none) (s p : Operand)
    (ho : o.op = .call { callee := .builtin .append, args := #[s, p], argTypes := #[t, t] }) (ht : Try.prog.underlying t = some (.slice 22)) (hs : a.eval s = u) (hx : a.eval p = .slice (some ⟨n, 0, none⟩) 1 1) (hrow : RowF base N0 N1 X u ts) (h0 : 0 < ts.length) (hsrc : Blk X n 22 #[x]) (hxc : x.oneCell' = true)
    (hE : ExtS lo hi X x y) (hlo : N1 ≤ lo) (hhi : hi ≤ X.heap.size) (hout : Outside lo hi u) (hk : ts.length ≤ 100000) (hbase : base ≤ X.heap.size)
    (h : ∀ v' w', RowF base N0 N1 w' v' (ts ++ [y]) → Below base X w' → X.grownBy w' u.ownBlock → wpList Try.prog ops Q rest (a.put o.dst v') w') : wpList Try.prog ops Q (o :: rest) a X := by
  obtain ⟨i0, hi0, hz0, hz1, hz2⟩ := info_parts sl_info
  obtain ⟨us, h1, h2, h3, h4, h5, h6, h7⟩ := hrow
  refine wpList_app3 hgd s p ho ht hi0 hz0 hz1 hz2 rfl (by decide) (cl := [x]) rfl (fun v hv => by rw [List.mem_singleton.1 hv]; exact hxc) hs hx h1 hsrc (by unfold maxLen; omega) (by omega) hbase fun v' w' hown hgrow hB hob => ?_
  have hkept : ∀ lo hi, hi ≤ X.heap.size → Outside lo hi u → Kept lo hi X w' := fun lo hi hh ho => Kept.of_grown hgrow ho hh
  refine h v' w' ⟨us ++ [x], by simpa using hown, by simp [h2], h3, h4, Nat.le_trans h5 hgrow.size, h6.next hob h5, fun k z t' hz ht' => ?_⟩ hB hgrow
  by_cases hkl : k < us.length
  · rw [List.getElem?_append_left hkl] at hz
    rw [List.getElem?_append_left (by omega)] at ht'
    have := h7 k z t' hz ht'
    by_cases hk0 : k = 0
    · rw [if_pos hk0] at this ⊢
      exact this.kept (hkept _ _ h5 h6) hgrow.size
    · rw [if_neg hk0] at this ⊢
      obtain ⟨lo', hi', q1, q2, q3, q4⟩ := this
      exact ⟨lo', hi', q1, Nat.le_trans q2 hgrow.size, q3.next hob q2, rd_kept q4 (hkept _ _ q2 q3) hgrow.size⟩
  · have hkk : k < (us ++ [x]).length := (List.getElem?_eq_some_iff.1 hz).1
    simp only [List.length_append, List.length_cons, List.length_nil] at hkk
    obtain rfl : k = us.length := by omega
    rw [List.getElem?_append_right (Nat.le_refl _), Nat.sub_self] at hz
    rw [List.getElem?_append_right (by omega), h2, Nat.sub_self] at ht'
    simp only [List.getElem?_cons_zero, Option.some.injEq] at hz ht'
    subst hz
    subst ht'
    rw [if_neg (by omega)]
    exact ⟨lo, hi, hlo, Nat.le_trans hhi hgrow.size, hout.next hob hhi, rd_kept hE (hkept _ _ hhi hout) hgrow.size⟩
end Go.Proofs.Ytilelegcniefcaa
