/-
  MadeRounds once more: each round is a row of its own.
  The reference's Valid and SameRounds, and the law's own small, by contract.
  Two transcripts of the same value are equal.
-/
import Derived.Test.YtkgglhakimkkhaaGreatDoorMr21
import Derived.Test.YtkgglhakimkkhaaGreatDoorVb9
import Derived.Test.YtkgglhakimkkhaaGreatDoorVb5
import Derived.DeepKeys
import Derived.Laws.StructEq
import Derived.ChangeKeysEq
namespace Go.Proofs.YtkgglhakimkkhaaGreatDoor
open Go.RowKit

def RowO (N : Nat) (w : World) (u : Value) (ts : List (List E)) : Prop := ∃ us : List Value, w.ownsRow N 22 1 u ts.length us ∧ us.length = ts.length ∧ (∀ (k : Nat) x t, us[k]? = some x → ts[k]? = some t → w.ownsRow N 26 2 x t.length (t.flatMap ec) ∧ ∀ g, x.ownBlock = some g → u.ownBlock ≠ some g) ∧ ∀ (j k : Nat) x z, j < k → us[j]? = some x → us[k]? = some z → ∀ g, x.ownBlock = some g → z.ownBlock ≠ some g
theorem RowO.keep {N : Nat} {w X : World} {u : Value} {ts : List (List E)} (h : RowO N w u ts) (hb : Below w.heap.size w X) : RowO N X u ts := by
  obtain ⟨us, h1, h2, h3, h4⟩ := h
  exact ⟨us, own_below h1 (Nat.le_refl _) hb, h2, fun k x t hx ht => ⟨own_below (h3 k x t hx ht).1 (Nat.le_refl _) hb, (h3 k x t hx ht).2⟩, h4⟩
theorem RowO.small {N : Nat} {w : World} {u : Value} {ts : List (List E)} (h : RowO N w u ts) : (∀ g, u.ownBlock = some g → g < w.heap.size) ∧ True := by
  obtain ⟨us, h1, h2, h3, h4⟩ := h
  exact ⟨fun g hg => (own_block h1 hg).2, trivial⟩
theorem RowO.len {N : Nat} {w : World} {u : Value} {ts : List (List E)} (h : RowO N w u ts) : ∃ A cap, u = .slice A ts.length cap := by
  obtain ⟨us, h1, _⟩ := h
  exact own_len h1
theorem RowO.tabs {N : Nat} {w : World} {u : Value} {ts : List (List E)} (h : RowO N w u ts) (hl : ts.length ≤ 1000000) (hr : ∀ t ∈ ts, t.length ≤ 1000000) : TabS N w.heap.size w u ts := by
  obtain ⟨us, h1, h2, h3, h4⟩ := h
  refine ⟨us, h2, Rd.of_own h1 (by omega) (Nat.le_refl _), fun k x t hx ht => ?_⟩
  exact exts_of_own (h3 k x t hx ht).1 rfl (by have := hr t (List.mem_of_getElem? ht); omega) (Nat.le_refl _)
theorem own_lower {M N n size : Nat} {e : TypeId} {w : World} {v : Value} {xs : List Value} (h : w.ownsRow M e size v n xs) (hN : N ≤ M) : w.ownsRow N e size v n xs := by
  obtain ⟨h1, h2⟩ := h
  refine ⟨h1, h2.imp id ?_⟩
  rintro ⟨g, cap, cur, q1, q2, q3⟩
  exact ⟨g, cap, cur, q1, Nat.le_trans hN q2, q3⟩
theorem wpList_appO {ops : Array Oper} {rest : List Oper} {o : Oper} {a : Act} {Q : Exit → Act → World → Prop} {V X : World} {N n : Nat} {ts : List (List E)} {u x : Value} {y : List E} (hgd : o.guard = none) (s p : Operand)
    (ho : o.op = .call { callee := .builtin .append, args := #[s, p], argTypes := #[40, 40] }) (hs : a.eval s = u) (hx : a.eval p = .slice (some ⟨n, 0, none⟩) 1 1) (hrow : RowO N V u ts) (hX : Below V.heap.size V X) (hsrc : Blk X n 22 #[x]) (hE : X.ownsRow V.heap.size 26 2 x y.length (y.flatMap ec)) (hk : ts.length ≤ 100000) (hbase : N ≤ V.heap.size)
    (h : ∀ v' w', RowO N w' v' (ts ++ [y]) → Below N X w' → wpList Tryz.prog ops Q rest (a.put o.dst v') w') : wpList Tryz.prog ops Q (o :: rest) a X := by
  obtain ⟨i0, hi0, hz0, hz1, hz2⟩ := info_parts sl_info
  obtain ⟨us, h1, h2, h3, h4⟩ := hrow
  obtain ⟨A, c, rfl⟩ := own_len hE
  have hVX := hX.size
  refine wpList_app3 hgd s p ho Tryz.underlying40 hi0 hz0 hz1 hz2 rfl (by decide) (cl := [_]) rfl (fun v hv => by rw [List.mem_singleton.1 hv]; rfl) hs hx (own_below h1 (Nat.le_refl _) hX) hsrc (by unfold maxLen; omega) (by omega) (by omega) fun v' w' hown hgrow hB hob => ?_
  have hu : ∀ g, u.ownBlock = some g → g < V.heap.size := fun g hg => (own_block h1 hg).2
  have hv' : ∀ g, v'.ownBlock = some g → u.ownBlock = some g ∨ g = X.heap.size := fun g hg => by
    rcases hob with e | e
    · exact .inl (by rw [← e]; exact hg)
    · rw [e] at hg; cases hg; exact .inr rfl
  refine h v' w' ⟨us ++ [.slice A y.length c], by simpa using hown, by simp [h2], fun k z t hz ht => ?_, fun j k z z' hjk hz hz' g hg => ?_⟩ hB
  · by_cases hkl : k < us.length
    · rw [List.getElem?_append_left hkl] at hz
      rw [List.getElem?_append_left (by omega)] at ht
      obtain ⟨p1, p2⟩ := h3 k z t hz ht
      refine ⟨own_grown (own_below p1 (Nat.le_refl _) hX) hgrow p2, fun g hg e => ?_⟩
      rcases hv' g e with q | q
      · exact p2 g hg q
      · have := (own_block p1 hg).2
        omega
    · have hkk : k < (us ++ [Value.slice A y.length c]).length := (List.getElem?_eq_some_iff.1 hz).1
      simp only [List.length_append, List.length_cons, List.length_nil] at hkk
      obtain rfl : k = us.length := by omega
      rw [List.getElem?_append_right (Nat.le_refl _), Nat.sub_self] at hz
      rw [List.getElem?_append_right (by omega), h2, Nat.sub_self] at ht
      simp only [List.getElem?_cons_zero, Option.some.injEq] at hz ht
      subst hz
      subst ht
      refine ⟨own_lower (own_grown hE hgrow fun g hg e => ?_) hbase, fun g hg e => ?_⟩
      · have := (own_block hE hg).1
        have := hu g e
        omega
      · have h5 := own_block hE hg
        rcases hv' g e with q | q
        · have := hu g q
          omega
        · omega
  · have hkk : k < (us ++ [Value.slice A y.length c]).length := (List.getElem?_eq_some_iff.1 hz').1
    simp only [List.length_append, List.length_cons, List.length_nil] at hkk
    have hjl : j < us.length := by omega
    rw [List.getElem?_append_left hjl] at hz
    by_cases hkl : k < us.length
    · rw [List.getElem?_append_left hkl] at hz'
      exact h4 j k z z' hjk hz hz' g hg
    · obtain rfl : k = us.length := by omega
      rw [List.getElem?_append_right (Nat.le_refl _), Nat.sub_self] at hz'
      simp only [List.getElem?_cons_zero, Option.some.injEq] at hz'
      subst hz'
      intro e
      obtain ⟨t, ht⟩ : ∃ t, ts[j]? = some t := ⟨_, List.getElem?_eq_getElem (by omega)⟩
      have q1 := (own_block (h3 j z t hz ht).1 hg).2
      have q2 := (own_block hE e).1
      omega
set_option maxRecDepth 100000 in
set_option maxHeartbeats 2000000 in
theorem rMadeRoundsO (l : List (List Raw)) (n m : Nat) (hn : n ≤ 1000) (hm : m ≤ 1000) (vl : Value) (lo hi : Nat) (w : World) (h : RTabS lo hi w vl l) :
    Calls Tryz.prog 15 #[vl, .int .i64 (n : Int), .int .i64 (m : Int)] w (RetR (fun lo _ v w' => RowO lo w' v (mdR l n m)) w) := by
  obtain ⟨A, cap, rfl⟩ := h.len
  have hsm := h.small
  have HH := Lib.hid h
  clear h
  go_enter Tryz.func15, Tryz.ntmps15
  go_wp2
  go_loopw [7, 8] (fun v i wr => ∃ j : Nat, j ≤ n ∧ i = .int .i64 j ∧ RowO w.heap.size wr v (mdR l j m) ∧ Below w.heap.size w wr) (fun _ i _ => n - (intOf i).toNat)
  case atStart => exact ⟨0, Nat.zero_le _, rfl, ⟨[], ⟨rfl, .inr ⟨w.heap.size, 0, #[], rfl, Nat.le_refl _, World.alloc_heap_new w _, Nat.le_refl _, Nat.zero_le _, rfl, by simp⟩⟩, rfl, (fun k x t h => by simp at h), (fun j k x z _ h => by simp at h)⟩, (Below.refl _ _).alloc (Nat.le_refl _) _⟩
  case round =>
    obtain ⟨j, hj, rfl, hrow, hB⟩ := hrel
    by_cases hlt : j < n
    · go_upto_region 6 with (fail)
      refine wp_stk1 fun X hBX hz bX => ?_
      clear hz
      by_cases hjl : j < l.length
      · obtain ⟨g, off, cap', hv, lg, qg⟩ := rtabs_cells (HH.out.keep hB) (by omega)
        cases hv
        obtain ⟨R, hR⟩ : ∃ R, l[j]? = some R := ⟨_, List.getElem?_eq_getElem hjl⟩
        obtain ⟨A1, c1, d1, hraw⟩ := qg j R hR
        have hRl : l.getD j [] = R := by simp [List.getD, hR]
        have hrX : RawS lo hi X (.slice A1 R.length c1) R := ⟨Rd.keep hraw.1 hBX, hraw.2⟩
        have d2 := (hBX.cell (p := ⟨g, off + j, none⟩) lg).trans d1
        clear qg hR hraw bX d1
        go_wp2_with fail
        refine (xExactO R m (by omega) _ _ _ X hrX).mono ?_
        rintro e w2 ⟨v2, rfl, t2o, hb2⟩
        replace t2o : w2.ownsRow X.heap.size 26 2 v2 m ((madeAll R m).flatMap ec) := t2o
        have HO2 := Lib.hid t2o
        obtain ⟨A2, c2, rfl⟩ := own_len t2o
        clear t2o
        have hs2 := hb2.size
        have hrX := hrow.keep hBX
        have hBw := hB.trans (hBX.mono hB.size)
        have hsB := hB.size
        have hsX := hBX.size
        have halx : Below X.heap.size X (w2.alloc (.cells #[.slice A2 m c2] 22)) := hb2.trans (((Below.refl _ _).alloc (Nat.le_refl _) _).mono hs2)
        go_wp2_with (at_builtin; refine wpList_appO (x := .slice A2 m c2) (y := madeAll R m) (N := w.heap.size) (ts := mdR l j m) rfl _ _ rfl rfl rfl hrX ?hX ?hsrc ?hE ?hk ?hbase ?_)
        case hX => exact halx
        case hsrc => exact Blk.new_at _ _ _ rfl
        case hE => rw [madeAll_length]; exact own_below HO2.out (Nat.le_refl _) ((Below.refl _ _).alloc (Nat.le_refl _) _)
        case hk => rw [mdR_length]; omega
        case hbase => omega
        intro u' w3 hrow3 hB3
        have hal2 : Below w2.heap.size w2 (w2.alloc (.cells #[.slice A2 m c2] 22)) := (Below.refl _ _).alloc (Nat.le_refl _) _
        go_wp2_with fail
        exact ⟨⟨j + 1, by omega, by go_num, by rw [mdR_succ, hRl]; exact hrow3, ((hBw.trans (hb2.mono hBw.size)).trans (hal2.mono (hBw.trans (hb2.mono hBw.size)).size)).trans hB3⟩, by simp [intOf]; omega⟩
      · obtain ⟨R, hR⟩ : ∃ R : List Raw, R = [] := ⟨[], rfl⟩
        have hRl : l.getD j [] = R := by rw [hR]; simp [List.getD, hjl]
        have hrX : RawS 0 X.heap.size X (.slice (some ⟨wr.heap.size, 0, none⟩) 0 0) R := by rw [hR]; exact ⟨rd_nil _ _ _ _ _ _, fun x hx => by simp at hx⟩
        clear hR bX
        go_wp2_with fail
        refine (xExactO R m (by omega) _ _ _ X hrX).mono ?_
        rintro e w2 ⟨v2, rfl, t2o, hb2⟩
        replace t2o : w2.ownsRow X.heap.size 26 2 v2 m ((madeAll R m).flatMap ec) := t2o
        have HO2 := Lib.hid t2o
        obtain ⟨A2, c2, rfl⟩ := own_len t2o
        clear t2o
        have hs2 := hb2.size
        have hrX := hrow.keep hBX
        have hBw := hB.trans (hBX.mono hB.size)
        have hsB := hB.size
        have hsX := hBX.size
        have halx : Below X.heap.size X (w2.alloc (.cells #[.slice A2 m c2] 22)) := hb2.trans (((Below.refl _ _).alloc (Nat.le_refl _) _).mono hs2)
        go_wp2_with (at_builtin; refine wpList_appO (x := .slice A2 m c2) (y := madeAll R m) (N := w.heap.size) (ts := mdR l j m) rfl _ _ rfl rfl rfl hrX ?hX ?hsrc ?hE ?hk ?hbase ?_)
        case hX => exact halx
        case hsrc => exact Blk.new_at _ _ _ rfl
        case hE => rw [madeAll_length]; exact own_below HO2.out (Nat.le_refl _) ((Below.refl _ _).alloc (Nat.le_refl _) _)
        case hk => rw [mdR_length]; omega
        case hbase => omega
        intro u' w3 hrow3 hB3
        have hal2 : Below w2.heap.size w2 (w2.alloc (.cells #[.slice A2 m c2] 22)) := (Below.refl _ _).alloc (Nat.le_refl _) _
        go_wp2_with fail
        exact ⟨⟨j + 1, by omega, by go_num, by rw [mdR_succ, hRl]; exact hrow3, ((hBw.trans (hb2.mono hBw.size)).trans (hal2.mono (hBw.trans (hb2.mono hBw.size)).size)).trans hB3⟩, by simp [intOf]; omega⟩
    · obtain rfl : j = n := by omega
      go_wp2
      go_ret
      exact ⟨_, rfl, hrow, hB⟩
theorem own_putX {base n size g : Nat} {e : TypeId} {v : Value} {xs : List Value} {w w' : World} (h : w.ownsRow base e size v n xs) (hp : Put w w' g) (hg : v.ownBlock ≠ some g) : w'.ownsRow base e size v n xs := by
  obtain ⟨h1, h2⟩ := h
  refine ⟨h1, h2.imp id ?_⟩
  rintro ⟨g', cap, cur, rfl, q2, q3, q4⟩
  exact ⟨g', cap, cur, rfl, q2, (hp.other g' (fun e => hg (by rw [← e]; rfl))).trans q3, q4⟩
theorem RowO.first {N : Nat} {w : World} {u : Value} {x y z : E} {rest : List (List E)} (h : RowO N w u ([x, y, z] :: rest)) : ∃ gu cu g0 c0, u = .slice (some ⟨gu, 0, none⟩) (rest.length + 1) cu ∧ gu < w.heap.size ∧ g0 < w.heap.size ∧ N ≤ g0 ∧ w.cell? ⟨gu, 0, none⟩ = some (.slice (some ⟨g0, 0, none⟩) 3 c0) ∧
    w.cell? ⟨g0, 0, none⟩ = some (.int .u64 (fv x.a)) ∧ w.cell? ⟨g0, 1, none⟩ = some (.int .u64 (fv x.b)) ∧ w.cell? ⟨g0, 2, none⟩ = some (.int .u64 (fv y.a)) ∧ w.cell? ⟨g0, 3, none⟩ = some (.int .u64 (fv y.b)) ∧ (∀ i, w.frozen? ⟨g0, i, none⟩ = false) ∧
    ∀ e : E, RowO N ((w.setCell ⟨g0, 2, none⟩ (.int .u64 (fv e.a))).setCell ⟨g0, 3, none⟩ (.int .u64 (fv e.b))) u ([x, e, z] :: rest) := by
  obtain ⟨us, h1, h2, h3, h4⟩ := h
  obtain ⟨x0, us', rfl⟩ := List.exists_cons_of_length_pos (l := us) (by rw [h2]; exact Nat.zero_lt_succ _)
  obtain ⟨p1, p2⟩ := h3 0 x0 _ rfl rfl
  have p3 := p1
  obtain ⟨q1, ⟨-, q0⟩ | ⟨g0, c0, cur, rfl, r1, r2, r3, r4, r5, r6⟩⟩ := p1
  · cases q0
  obtain ⟨s1, ⟨-, s0⟩ | ⟨gu, cu, cur', rfl, t1, t2, t3, t4, t5, t6⟩⟩ := h1
  · cases s0
  have b : Blk w g0 26 cur := r2
  have bu : Blk w gu 22 cur' := t2
  have hl : cur.toList.take 6 = [.int .u64 (fv x.a), .int .u64 (fv x.b), .int .u64 (fv y.a), .int .u64 (fv y.b), .int .u64 (fv z.a), .int .u64 (fv z.b)] := r6
  have hc : ∀ (i : Nat) v, i < 6 → ([.int .u64 (fv x.a), .int .u64 (fv x.b), .int .u64 (fv y.a), .int .u64 (fv y.b), .int .u64 (fv z.a), .int .u64 (fv z.b)] : List Value)[i]? = some v → w.cell? ⟨g0, i, none⟩ = some v := fun i v hi hv => by
    rw [b.cell, ← hv, ← hl, List.getElem?_take_of_lt hi, Array.getElem?_toList]
  have hgu : gu ≠ g0 := fun e => p2 g0 rfl (by rw [← e]; rfl)
  refine ⟨gu, cu, g0, c0, rfl, bu.lt, b.lt, r1, ?_, hc 0 _ (by decide) rfl, hc 1 _ (by decide) rfl, hc 2 _ (by decide) rfl, hc 3 _ (by decide) rfl, b.frozen, fun e => ?_⟩
  · rw [bu.cell]
    have h0 : (cur'.toList.take ((rest.length + 1) * 1))[0]? = some (.slice (some ⟨g0, 0, none⟩) 3 c0) := by
      rw [show cur'.toList.take ((rest.length + 1) * 1) = _ from t6]
      rfl
    rwa [List.getElem?_take_of_lt (by omega), Array.getElem?_toList] at h0
  · have hp := (Put.set w g0 2 (.int .u64 (fv e.a))).trans (Put.set _ g0 3 (.int .u64 (fv e.b)))
    have bX := (b.set_ 2 (.int .u64 (fv e.a))).set_ 3 (.int .u64 (fv e.b))
    generalize (w.setCell ⟨g0, 2, none⟩ (.int .u64 (fv e.a))).setCell ⟨g0, 3, none⟩ (.int .u64 (fv e.b)) = X at *
    refine ⟨.slice (some ⟨g0, 0, none⟩) 3 c0 :: us', own_putX ⟨s1, .inr ⟨gu, cu, cur', rfl, t1, t2, t3, t4, t5, t6⟩⟩ hp (fun e' => hgu (by simpa [Value.ownBlock] using e')), h2, fun k v t hv ht => ?_, h4⟩
    cases k with
    | zero =>
      simp only [List.getElem?_cons_zero, Option.some.injEq] at hv ht
      subst hv
      subst ht
      refine ⟨⟨rfl, .inr ⟨g0, c0, _, rfl, r1, bX, r3, r4, by simpa using r5, ?_⟩⟩, p2⟩
      show List.take 6 _ = _
      rw [Array.toList_setIfInBounds, Array.toList_setIfInBounds, List.take_set, List.take_set, hl]
      rfl
    | succ k =>
      simp only [List.getElem?_cons_succ] at hv ht
      obtain ⟨m1, m2⟩ := h3 (k + 1) v t hv ht
      exact ⟨own_putX m1 hp (h4 0 (k + 1) _ v (Nat.succ_pos k) rfl hv g0 rfl), m2⟩
end Go.Proofs.YtkgglhakimkkhaaGreatDoor
namespace Go.Proofs.YtkgglhakimkkhaaGreatDoor
open Go.RowKit

set_option maxRecDepth 100000 in
set_option maxHeartbeats 2000000 in
theorem rSameR (gs : List (List E)) (v1 v2 : Value) (lo hi lo2 hi2 : Nat) (w : World) (h1 : TabS lo hi w v1 gs) (h2 : TabS lo2 hi2 w v2 gs) :
    Calls Tryz.prog 11 #[v1, v2] w (Ret (.bool true) w) := by
  obtain ⟨A1, c1, rfl⟩ := h1.len
  obtain ⟨A2, c2, rfl⟩ := h2.len
  have hsm := h1.small
  have H1 := Lib.hid h1
  have H2 := Lib.hid h2
  have hne : ((gs.length : Int) != (gs.length : Int)) = false := by simp
  clear h1 h2
  go_enter Tryz.func11, Tryz.ntmps11
  go_wp2_with fail
  go_loopw [5] (fun i wr => ∃ j : Nat, j ≤ gs.length ∧ i = .int .i64 j ∧ Below w.heap.size w wr) (fun i _ => gs.length - (intOf i).toNat)
  case atStart => exact ⟨0, Nat.zero_le _, rfl, Below.refl _ _⟩
  case round =>
    obtain ⟨j, hj, rfl, hB⟩ := hrel
    by_cases hlt : j < gs.length
    · obtain ⟨g1, o1, k1, hv, -, -, -, l1, q1⟩ := tabs_cells H1.out (by omega)
      cases hv
      obtain ⟨g2, o2, k2, hv, -, -, -, l2, q2⟩ := tabs_cells H2.out (by omega)
      cases hv
      obtain ⟨g, hg⟩ : ∃ g, gs[j]? = some g := ⟨_, List.getElem?_eq_getElem hlt⟩
      obtain ⟨B1, d1, r1, E1⟩ := q1 j g hg
      obtain ⟨B2, d2, r2, E2⟩ := q2 j g hg
      have f1 := gw_cell (W := wr) (Nat.lt_of_lt_of_le l1 hB.size) ((hB.cell (p := ⟨g1, o1 + j, none⟩) l1).trans r1)
      have f2 := gw_cell (W := wr) (Nat.lt_of_lt_of_le l2 hB.size) ((hB.cell (p := ⟨g2, o2 + j, none⟩) l2).trans r2)
      have HS := Lib.hid (show ∀ W1, Below wr.heap.size wr W1 → Calls Tryz.prog 10 #[.slice B1 g.length d1, .slice B2 g.length d2] W1 (Ret (.bool true) W1) from fun W1 hW => xSame3 g _ _ _ _ _ _ W1 (Rd.keep (Rd.keep E1 hB) hW) (Rd.keep (Rd.keep E2 hB) hW))
      clear q1 q2 hg r1 r2 E1 E2
      go_wp2_with fail
      refine wp_region_rg 10 [(8, Spec.val (.bool true))] (by kernel_rfl) (by kernel_rfl) (by kernel_rfl) trivial ?_
      iterate 8 (refine rg_det rfl rfl rfl (fun K hK => ?_); go_big_quiet_op; refine hK _ ?_; clear hK K)
      refine rg_val rfl rfl (fun W1 hW1 hF => step_callv en_attestor_attestorref03_Same (HS.out W1 (grw_below hW1)) rfl rfl) ?_
      intro a' ha
      simp only [Act.put, List.setIfInBounds_toArray, List.set_cons_succ, List.set_cons_zero] at ha
      subst ha
      refine rg_det rfl rfl rfl (fun K hK => ?_)
      go_big_quiet_op
      refine hK _ ?_; clear hK K
      refine rg_nil (fun w' hw' hF => ?_)
      obtain ⟨z, rfl⟩ := hw'
      simp only [List.drop_succ_cons, List.drop_zero]
      clear hF f1 f2
      go_wp2_with fail
      exact ⟨⟨j + 1, by omega, by go_num, hB.trans (z.h.mono hB.size)⟩, by simp [intOf]; omega⟩
    · obtain rfl : j = gs.length := by omega
      go_wp2_with fail
      go_ret
      exact ⟨rfl, hB⟩
end Go.Proofs.YtkgglhakimkkhaaGreatDoor
namespace Go.Proofs.YtkgglhakimkkhaaGreatDoor
open Go.RowKit

theorem tr_guard : Tryz.prog.eqGuardType Tryz.prog.depth 60 = false := by kernel_rfl
theorem tr_held : Tryz.prog.stoodInHeld 60 = false := by kernel_rfl
theorem tr_fields : (Tryz.prog.fieldsOf 60).toList.map (fun f => (f.type, f.offset, f.name == "_")) = [(58, 0, false), (24, 32, false)] := by kernel_rfl
theorem a32_under : Tryz.prog.underlying 58 = some (.array 32 5) := by kernel_rfl
theorem u8_key : Tryz.prog.plainKey 5 = true := by kernel_rfl
theorem u64_key : Tryz.prog.plainKey 24 = true := by kernel_rfl
theorem u8_cells : Tryz.prog.cellsOf 5 = 1 := by kernel_rfl
theorem tr_struct : Tryz.prog.underlying 60 = some (.struct (Tryz.prog.fieldsOf 60)) := by kernel_rfl
theorem eqItems_self {d : Nat} {xs : Array Value} {w : World} : ∀ is : List Nat, (∀ i ∈ is, ∃ x : Nat, xs[i]? = some (.int .u8 (x : Int))) → (Op.eqItems (d + 1) 5 (Tryz.prog.cellsOf 5) xs xs is).run Tryz.prog w = .ok true w
  | [], _ => by simp [Op.eqItems]
  | i :: is, h => by
    obtain ⟨x, hx⟩ := h i (List.mem_cons_self ..)
    have hp : (part 5 xs (i * 1)).run Tryz.prog w = .ok (.int .u8 (x : Int)) w := run_part_plain w u8_key (by rw [Nat.mul_one]; exact hx)
    have he : (Op.equalIn (d + 1) 5 (.int .u8 (x : Int)) (.int .u8 (x : Int))).run Tryz.prog w = .ok true w := by
      rw [run_equalIn_int w d 5 .u8 .u8 _ _ (by kernel_rfl)]
      simp
    have hr := eqItems_self (d := d) (xs := xs) (w := w) is (fun j hj => h j (List.mem_cons_of_mem _ hj))
    rw [u8_cells] at hr ⊢
    rw [Nat.mul_one] at hp
    simp [Op.eqItems, Sem.run_bind, hp, he, hr]
theorem dg_info : (Tryz.prog.info? 58).map (·.size) = some 32 := by kernel_rfl
theorem dg_cells : Tryz.prog.cellsOf 58 = 32 := by kernel_rfl
theorem run_eqT (st : List Nat) (hst : st.length = 32) (w : World) : (Op.equalIn 10000 60 (.agg (tsc st 1).toArray) (.agg (tsc st 1).toArray)).run Tryz.prog w = .ok true w := by
  obtain ⟨iu, hu⟩ : ∃ i, Tryz.prog.info? 5 = some i := by
    obtain ⟨i, h, -⟩ := info_parts u8_info
    exact ⟨i, h⟩
  obtain ⟨idg, hdg⟩ : ∃ i, Tryz.prog.info? 58 = some i := by
    cases h : Tryz.prog.info? 58 with
    | none => have := dg_info; rw [h] at this; cases this
    | some i => exact ⟨i, rfl⟩
  rw [run_equalIn_struct w 9999 _ _ _ tr_struct tr_held]
  have hf := tr_fields
  generalize (Tryz.prog.fieldsOf 60).toList = fs at *
  have hl : fs.length = 2 := by simpa using congrArg List.length hf
  match fs, hl, hf with
  | [f0, f1], _, hf =>
    simp only [List.map_cons, List.map_nil, List.cons.injEq, Prod.mk.injEq, and_true] at hf
    obtain ⟨⟨a0, a1, a2⟩, b0, b1, b2⟩ := hf
    have hp0 : (part f0.type (tsc st 1).toArray f0.offset).run Tryz.prog w = .ok (.agg ((tsc st 1).toArray.extract 0 32)) w := by
      rw [a0, a1]
      simp [part, isAgg, run_underlying a32_under, run_sizeOf w hdg, dg_cells]
    have hp1 : (part f1.type (tsc st 1).toArray f1.offset).run Tryz.prog w = .ok (.int .u64 1) w := by
      rw [b0, b1]
      refine run_part_plain w u64_key ?_
      unfold tsc
      rw [List.getElem?_toArray, List.getElem?_append_right (by rw [byc_length]; omega), byc_length, hst]
      rfl
    have he0 : (Op.equalIn 9999 f0.type (.agg ((tsc st 1).toArray.extract 0 32)) (.agg ((tsc st 1).toArray.extract 0 32))).run Tryz.prog w = .ok true w := by
      rw [a0, run_equalIn_array w 9998 _ _ a32_under hu]
      refine eqItems_self (d := 9997) _ fun i hi => ?_
      have hi := List.mem_range.1 hi
      obtain ⟨x, hx⟩ : ∃ x, st[i]? = some x := ⟨_, List.getElem?_eq_getElem (by omega)⟩
      refine ⟨x, ?_⟩
      unfold tsc
      obtain ⟨h9, hx'⟩ := List.getElem?_eq_some_iff.1 hx
      simp [hi, byc, hst, hx']
    have he1 : (Op.equalIn 9999 f1.type (.int .u64 1) (.int .u64 1)).run Tryz.prog w = .ok true w := by
      rw [b0, run_equalIn_int w 9998 24 .u64 .u64 _ _ (by kernel_rfl)]
      rfl
    generalize (tsc st 1).toArray.extract 0 32 = dg at *
    have n0 : f0.name ≠ "_" := by simpa using a2
    have n1 : f1.name ≠ "_" := by simpa using b2
    generalize (tsc st 1).toArray = xs at *
    simp [Op.eqFields, Sem.run_bind, n0, n1, hp0, hp1, he0, he1]
theorem step_eqT {o : Oper} {a : Act} {w : World} {x y : Operand} {r : TypeId} {st : List Nat} (ho : o.op = .binOp .eql 60 x y r) (hx : a.eval x = tsV st 1) (hy : a.eval y = tsV st 1) (hst : st.length = 32) : stepAt Tryz.prog o a w fun v w' => v = .bool true ∧ w' = w := by
  have h := run_eqT st hst w
  unfold stepAt execOp
  simp only [ho, hx, hy]
  unfold tsV
  simp only [Sem.run_bind, run_eqGuard_agg w .eql 60 x y _ _ tr_guard, run_eql_struct, h, Result.andThen_ok, Sem.run_pure]
  exact ⟨rfl, rfl⟩
end Go.Proofs.YtkgglhakimkkhaaGreatDoor
