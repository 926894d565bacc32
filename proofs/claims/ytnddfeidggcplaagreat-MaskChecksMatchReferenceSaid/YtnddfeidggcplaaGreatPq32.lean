/-
  The iterators of package mask: slices.Backward over rounds, and behind, by contract.
  Prove of package mask, by contract.
  A store of one cell in a tail that keeps the world's condition.
  Prove of package mask, by contract.
-/
import Derived.Test.YtnddfeidggcplaaGreatMp32
import Derived.Test.YtnddfeidggcplaaGreatPv
import Derived.Test.YtnddfeidggcplaaGreatGrow
import Derived.Test.YtnddfeidggcplaaGreatRgU
namespace Go.Proofs.YtnddfeidggcplaaGreat
open Go.RowKit
attribute [local go_sem] Oper.semAt_some

theorem rev_succ (j : Nat) : (List.range (j + 1)).reverse = j :: (List.range j).reverse := by rw [List.range_succ, List.reverse_append]; rfl
theorem put_putObj (W : World) (l : Nat) (o : Obj) : Put W (W.putObj l o) l := ⟨rfl, rfl, rfl, by simp, fun k hk => World.putObj_heap_other hk⟩
theorem roundIn_any {n n' : Nat} {P : Program} {l : Nat} {f : FuncId} {tmps : Array Value} {assign body : Code} {w : World} {R : Ending → World → Prop} (h : RoundIn .wide n P l f tmps assign body w R) : RoundIn .wide n' P l f tmps assign body w R :=
  ⟨h.1, fun c cs _ => h.2 c cs (room_wide _)⟩
def BkS (n0 Bs : Nat) (_ g : Nat) : Prop := g < n0 ∨ g = Bs
set_option maxRecDepth 100000 in
set_option maxHeartbeats 2000000 in
theorem wBack (us : List Value) (n0 Bs lo : Nat) (A : Option Addr) (cap : Nat) (hl : us.length ≤ 1000) (n : Nat) (hn : 1 ≤ n) (w : World) (h : Rd lo n0 1 w (.slice A us.length cap) us.length us) (b : Blk w Bs 37 #[.slice A us.length cap]) :
    SeqG n Tryz.prog 123 #[.pointer (some ⟨Bs, 0, none⟩)] (fun i : Nat => #[.int .i64 (i : Int), us.getD i undef]) (fun _ _ => False) (BkS n0 Bs) 0 (List.range us.length).reverse w := fun l J W hW hJ1 hJ2 hY h0 => by
  have hop := open_wide Tryz.prog
  have bW := b.keep hW
  have hRW := h.keep hW
  obtain ⟨N, hN⟩ : ∃ N, N = us.length := ⟨_, rfl⟩
  rw [← hN] at hRW bW hl hY ⊢
  have HY := Lib.hid hY
  have HR := Lib.hid hRW
  have HW := Lib.hid hW.size
  have HN := Lib.hid hN
  clear b h hW hJ1 hJ2 hY hRW hN
  refine callsIn_of_wp Tryz.func123 rfl trivial ?_ rfl
  simp only [Tryz.ntmps123, List.size_toArray, List.length_cons, List.length_nil, Nat.reduceAdd, Nat.reduceSub, Array.replicate_succ, Array.replicate_zero, List.push_toArray, List.append_toArray, List.nil_append, List.cons_append]
  have c0 := bW.cell
  gi_wp2
  clear c0
  gi_loopw [3] (fun i wr => ∃ (k : Nat) (pre : List Nat), k ≤ N ∧ i = .int .i64 ((k : Int) - 1) ∧ (List.range N).reverse = pre ++ (List.range k).reverse ∧ J pre wr ∧ Keeps (BkS n0 Bs 0) W wr) (fun i _ => (intOf i + 1).toNat)
  case atStart => exact ⟨N, [], Nat.le_refl _, rfl, rfl, h0, Keeps.refl _⟩
  case round =>
    obtain ⟨k, pre, hk, rfl, hpre, hJs, hnx⟩ := hrel
    by_cases hz : k = 0
    · subst hz
      gi_wp2
      rw [show (List.range 0).reverse = ([] : List Nat) from rfl, List.append_nil] at hpre
      go_end0
      exact ⟨⟨_, rfl⟩, by rw [hpre]; exact hJs⟩
    · obtain ⟨j, rfl⟩ : ∃ j, k = j + 1 := ⟨k - 1, by omega⟩
      rw [rev_succ] at hpre
      have hj1 : ((j + 1 : Nat) : Int) - 1 = (j : Int) := by omega
      rw [hj1]
      have hbl := bW.lt
      have d0 : wr.cell? ⟨Bs, 0, none⟩ = some (.slice A N cap) := hnx.cell (.inr rfl) (bW.cell 0)
      obtain ⟨g, off, cap', hv, -, -, q3, q4, q5⟩ := Rd.form HR.out (by omega)
      cases hv
      have hju : us[j]? = some (us.getD j undef) := by
        have : j < us.length := by rw [← HN.out]; omega
        simp [List.getD, this]
      have d1 := hnx.cell (show BkS n0 Bs 0 g from .inl q3) (q5 j _ hju)
      obtain ⟨fn, tmps, assign, body, hy, hR⟩ := HY.out pre j wr hJs hnx.size ⟨_, hpre⟩
      have HP := Lib.hid hpre
      have hlt : j < N := by omega
      clear q5 hju hpre
      generalize us.getD j undef = u at *
      gi_wp2
      refine hR.mono ?_
      rintro e W3 ⟨rfl, hJ3, hk3⟩
      clear hy hR d0 d1
      gi_wp2
      go_roundw
      case rel => exact ⟨j, pre ++ [j], by omega, by go_num, by rw [HP.out]; simp, hJ3, hnx.trans ⟨hk3.size, fun g hg hl => hk3.same g hg hl⟩⟩
      case measure => simp [intOf]
theorem gBackw (A : Option Addr) (n c : Nat) (w : World) : Calls Tryz.prog 93 #[.slice A n c] w fun e w' =>
    e = .returned (.func (.func 123) #[] #[.pointer (some ⟨w.heap.size, 0, none⟩)]) ∧ w' = w.alloc (.cells #[.slice A n c] 37) := by
  go_enter Tryz.func93, Tryz.ntmps93
  go_wp2
  go_ret
  exact ⟨rfl, rfl⟩
theorem gBehind (A : Option Addr) (n c : Nat) (w : World) : Calls Tryz.prog 53 #[.slice A n c] w fun e w' =>
    e = .returned (.func (.func 92) #[] #[.pointer (some ⟨w.heap.size, 0, none⟩)]) ∧ w' = w.alloc (.cells #[.slice A n c] 37) := by
  go_enter Tryz.func53, Tryz.ntmps53
  go_wp2
  go_ret
  exact ⟨rfl, rfl⟩
theorem rev_at {N i : Nat} {pre rest : List Nat} (h : (List.range N).reverse = pre ++ i :: rest) : i < N ∧ pre.length = N - 1 - i := by
  have hl : N = pre.length + (rest.length + 1) := by simpa using congrArg List.length h
  have h1 : (List.range N).reverse[pre.length]? = some i := by rw [h]; simp
  rw [List.getElem?_reverse (by rw [List.length_range]; omega), List.length_range, List.getElem?_range (by omega)] at h1
  have := Option.some.inj h1
  omega
def BhS (n0 Bm N g : Nat) : Prop := g < n0 ∨ g = Bm ∨ (N ≤ g ∧ g < N + 5)
set_option maxRecDepth 100000 in
set_option maxHeartbeats 4000000 in
theorem wBehind (m : List (List E)) (n0 Bm lo : Nat) (v1 : Value) (hl : m.length ≤ 1000) (hr : ∀ g ∈ m, 2 ≤ g.length) (w : World) (h : TabS lo n0 w v1 m) (b : Blk w Bm 37 #[v1]) (hn0 : n0 ≤ w.heap.size) :
    SeqG 2 Tryz.prog 92 #[.pointer (some ⟨Bm, 0, none⟩)] (fun i : Nat => #[.int .i64 (i : Int), ev (bsK m (m.length - 1 - i))]) (fun N g => N ≤ g ∧ g < N + 5) (BhS n0 Bm) 5 (List.range m.length).reverse w := fun l J W hW hJ1 hJ2 hY h0 => by
  obtain ⟨us, hul, hRd, hrow⟩ := h
  obtain ⟨A1, c1, rfl⟩ := Rd.len hRd
  have bW := b.keep hW
  have hbl := b.lt
  have hWs := hW.size
  have hRW := hRd.keep hW
  rw [← hul] at hRW bW hl hY ⊢
  have HRow := Lib.hid hrow
  have HW := Lib.hid hW
  have HR := Lib.hid hr
  have HY := Lib.hid hY
  have HJ1 := Lib.hid hJ1
  have HJ2 := Lib.hid hJ2
  have HL := Lib.hid hul
  obtain ⟨N, hN⟩ : ∃ N, N = us.length := ⟨_, rfl⟩
  have HN := Lib.hid hN
  clear hr hY hJ1 hJ2 hW hRd hrow b hul hN
  have hop := open_wide Tryz.prog
  refine callsIn_of_wp_marks Tryz.func92 rfl trivial ?_ rfl
  simp only [Tryz.ntmps92, List.size_toArray, List.length_cons, List.length_nil, Nat.reduceAdd, Nat.reduceSub, Array.replicate_succ, Array.replicate_zero, List.push_toArray, List.append_toArray, List.nil_append, List.cons_append]
  gi_upto_region 2 with (fail)
  refine stk2 (M := fun W => Code.wpIn _ _ _ _ _ _ W) fun V2 hB2 hz2 b1 b2 => ?_
  have hV2 : V2.heap.size = W.heap.size + 1 + 1 := hz2.out
  have bV2 := bW.keep hB2
  have cB := bV2.cell
  clear hz2
  gi_wp2_with fail
  refine ⟨trivial, ?_⟩
  refine (callsIn_wide.2 (gBackw A1 us.length c1 V2)).mono ?_
  rintro e w2 ⟨rfl, rfl⟩
  clear cB
  gi_wp2_with fail
  refine stk1 (M := fun W => Code.wpIn _ _ _ _ _ _ W) fun X hBX hzX cX => ?_
  have hXs : X.heap.size = V2.heap.size + 1 := hzX.out
  clear hzX
  have hWX := hB2.trans (hBX.mono hB2.size)
  have bX := bV2.keep hBX
  have b1X := b1.keep hBX
  have b2X := b2.keep hBX
  have hRX := hRW.keep hWX
  have hbW := bW.lt
  clear bW bV2 b1 b2 hRW
  rw [hV2] at cX hXs
  refine wpIn_seqP2 (n := 2) (wBack us n0 (W.heap.size + 1 + 1) lo A1 c1 hl 1 (by decide) X hRX cX) (Below.refl _ _) (by decide) rfl (enters_of Tryz.func123 (by kernel_rfl) rfl) (fun g hg => hg.elim) (fun g hg => by unfold BkS at hg; omega)
    (fun pre V => J pre V ∧ Blk V W.heap.size 126 #[.func (.yield l) #[] #[]] ∧ Blk V (W.heap.size + 1) 30 #[.int .u64 (fv (bsK m pre.length).a), .int .u64 (fv (bsK m pre.length).b)] ∧ Blk V Bm 37 #[.slice A1 us.length c1] ∧ Keeps (fun g => g < n0) w V ∧ X.heap.size ≤ V.heap.size)
    ?hI1 ?hI2 ?hI3 ?h0 4 5 ?assign ?body ?done
  case hI1 => exact fun s A B h hb => ⟨HJ1.out s A B h.1 hb, h.2.1.keep hb, h.2.2.1.keep hb, h.2.2.2.1.keep hb, h.2.2.2.2.1.trans (Keeps.of_below hb), Nat.le_trans h.2.2.2.2.2 hb.size⟩
  case hI2 => exact fun s A B g hg => hg.elim
  case hI3 => exact fun s V o h => ⟨HJ2.out s V _ (X.heap.size + 1) (by omega) h.1 (put_putObj _ _ _), blk_putObj h.2.1 (by omega), blk_putObj h.2.2.1 (by omega), blk_putObj h.2.2.2.1 (by omega), h.2.2.2.2.1.trans ⟨by simp, fun g hg _ => World.putObj_heap_other (by omega)⟩, by simpa using h.2.2.2.2.2⟩
  case h0 => exact ⟨HJ1.out _ _ _ h0 hWX, b1X, b2X, bX, (Keeps.of_below HW.out).trans (Keeps.of_below hWX), Nat.le_refl _⟩
  case assign =>
    intro l' x V K hK
    simp only [boxAct, List.setIfInBounds_toArray, List.set_cons_succ, List.set_cons_zero] at hK ⊢
    gi_wp2_with fail
    exact hK
  case body =>
    rintro l' pre i V ⟨q1, q2, q3, q4, q5, q6⟩ hsV ⟨rest, hrest⟩
    obtain ⟨hi, hpl⟩ := rev_at hrest
    simp only [boxAct, List.setIfInBounds_toArray, List.set_cons_succ, List.set_cons_zero]
    have hop := open_round (open_wide Tryz.prog) l'
    have hml : m.length = us.length := HL.out.symm
    obtain ⟨fn, tmps, assign, body, hy, hR⟩ := HY.out pre i V q1 (by omega) ⟨rest, hrest⟩
    rw [← hpl] at hy
    unfold ev at hy
    have hR2 : RoundIn (Fence.wide.inRound l') 0 Tryz.prog l fn tmps assign body V _ := roundIn_any hR
    obtain ⟨t, ht⟩ : ∃ t, m[i]? = some t := ⟨_, List.getElem?_eq_getElem (by omega)⟩
    have hju : us[i]? = some (us.getD i undef) := by simp [List.getD, hi]
    have hE := HRow.out i _ t hju ht
    obtain ⟨Ar, cr, hu⟩ := Rd.len hE
    rw [hu] at hE ⊢
    have hbs : bsK m (pre.length + 1) = bsK m pre.length + endsE t := by
      rw [bsK_succ, hml, show us.length - 1 - pre.length = i by omega]
      simp [List.getD, ht]
    have HBs := Lib.hid hbs
    have HEn := Lib.hid (fun W1 (hW1 : Keeps (fun g => g < n0) w W1) => gEnds t (HR.out t (List.mem_of_getElem? ht)) (.slice Ar t.length cr) lo n0 W1 (Keeps.rd hE hW1 (fun g _ hg => hg)))
    clear hR hju ht hE hu hbs hrest
    generalize bsK m pre.length = s at *
    generalize endsE t = y at *
    have e1 := q2.cell
    have e2 := q3.cell
    gi_wp2
    refine ⟨rfl, hR2.mono ?_⟩
    rintro e W3 ⟨rfl, hJ3, hk3⟩
    have hs3 := hk3.size
    have r2 : Blk W3 W.heap.size 126 #[.func (.yield l) #[] #[]] := (hk3.same _ (.inr (.inr ⟨Nat.le_refl _, by omega⟩)) q2.lt).trans q2
    have r3 : Blk W3 (W.heap.size + 1) 30 #[.int .u64 (fv s.a), .int .u64 (fv s.b)] := (hk3.same _ (.inr (.inr ⟨by omega, by omega⟩)) q3.lt).trans q3
    have r4 : Blk W3 Bm 37 #[.slice A1 us.length c1] := (hk3.same _ (.inr (.inl rfl)) q4.lt).trans q4
    have r5 : Keeps (fun g => g < n0) w W3 := q5.trans ⟨hk3.size, fun g hg hl => hk3.same g (.inl hg) hl⟩
    have hq3 := q3.lt
    clear e1 e2 hy hR2 q1 q2 q3 q4 q5
    gi_upto_region 6 with (fail)
    have y3 := gw_blk r3
    refine wpIn_region_rg hop 4 [(2, Spec.val (.agg #[.int .u64 (fv (y).a), .int .u64 (fv (y).b)])), (3, Spec.val (.agg #[.int .u64 (fv (s + y).a), .int .u64 (fv (s + y).b)]))] (by kernel_rfl) (by kernel_rfl) (by kernel_rfl) trivial ?_
    refine rg_det rfl rfl rfl (fun K hK => ?_)
    go_big_quiet_op
    refine hK _ ?_; clear hK K
    refine rg_det rfl rfl rfl (fun K hK => ?_)
    go_big_quiet_op
    refine hK _ ?_; clear hK K
    refine rg_val rfl rfl (fun W1 hW1 hF => step_callv en_attestor_mask_ends (HEn.out W1 (r5.trans (Keeps.of_below (grw_below hW1)))) rfl rfl) ?_
    intro a' ha
    simp only [Act.put, List.setIfInBounds_toArray, List.set_cons_succ, List.set_cons_zero] at ha
    subst ha
    refine rg_val rfl rfl (fun W1 hW1 hF => step_callv en_attestor_ext_Add (eAdd s y W1) rfl rfl) ?_
    intro a' ha
    simp only [Act.put, List.setIfInBounds_toArray, List.set_cons_succ, List.set_cons_zero] at ha
    subst ha
    refine rg_nil (fun w' hw' hF => ?_)
    obtain ⟨z, rfl⟩ := hw'
    simp only [List.drop_succ_cons, List.drop_zero]
    have r3z := r3.gw z
    have e1 := r3z.frozen
    have e2 := r3z.cell
    have hzs := z.h.size
    clear hF y3
    gi_wp2_with fail
    have hp : Put z.w ((z.w.setCell ⟨W.heap.size + 1, 0, none⟩ (.int .u64 (fv (s + y).a))).setCell ⟨W.heap.size + 1, 1, none⟩ (.int .u64 (fv (s + y).b))) (W.heap.size + 1) := (Put.set _ _ _ _).trans (Put.set _ _ _ _)
    have hKz : Keeps (fun g => g ≠ W.heap.size + 1) W3 ((z.w.setCell ⟨W.heap.size + 1, 0, none⟩ (.int .u64 (fv (s + y).a))).setCell ⟨W.heap.size + 1, 1, none⟩ (.int .u64 (fv (s + y).b))) := (Keeps.of_below z.h).trans ⟨by rw [hp.size]; exact Nat.le_refl _, fun g hg _ => hp.other g hg⟩
    refine ⟨⟨Nat.le_trans hs3 hKz.size, fun g hg hl => (hKz.same g (by unfold BkS at hg; omega) (Nat.lt_of_lt_of_le hl hs3)).trans (hk3.same g (by unfold BkS at hg; unfold BhS; omega) hl)⟩, HJ2.out _ _ _ _ (by omega) (HJ1.out _ _ _ hJ3 z.h) hp, hp.blk (r2.gw z) (by omega), ?_, hp.blk (r4.gw z) (by omega), r5.trans ⟨hKz.size, fun g hg hl => hKz.same g (by omega) hl⟩, by have := hKz.size; omega⟩
    rw [show us.length - 1 - i = pre.length from hpl.symm, HBs.out]
    exact blk_set2 r3z
  case done =>
    intro D V hDh ⟨q1, q2, q3, q4, q5, q6⟩ hK
    gi_wp2_with fail
    have hD := hDh.out
    refine ⟨by simp, .inl ⟨_, _, rfl, run_takeDeferred hK, ?_⟩⟩
    exact ⟨_, results_none rfl _ _ _, ⟨_, rfl⟩, HJ2.out _ V _ D (by omega) q1 (put_putObj _ _ _)⟩
end Go.Proofs.YtnddfeidggcplaaGreat
namespace Go.Proofs.YtnddfeidggcplaaGreat
open Go.RowKit
attribute [local go_sem] Oper.semAt_some

theorem rds_info : (Tryz.prog.info? 37).map (fun i => (i.zero, i.size, i.bytes)) = some (some (.slice none 0 0), 1, 24) := by kernel_rfl
theorem int_info32 : (Tryz.prog.info? 3).map (fun i => (i.zero, i.size, i.bytes)) = some (some (.int .i64 0), 1, 8) := by kernel_rfl
set_option maxRecDepth 100000 in
theorem mk_rds (n : Nat) (hn : n ≤ 1000000) (w : World) : (Instr.makeSlice 37 (.int .i64 (n : Int)) (.int .i64 (n : Int))).run Tryz.prog w = .ok (.slice (some ⟨w.heap.size, 0, none⟩) n n) (w.alloc (.cells (List.replicate n nilV).toArray 22)) := by
  obtain ⟨i0, hi0, hz0, hz1, hz2⟩ := info_parts sl_info
  have h := run_make (P := Tryz.prog) w _ _ i0 _ Tryz.underlying37 hi0 hz0 .i64 .i64 (n : Int) (n : Int) (by omega) (Int.le_refl _) (by rw [hz2]; omega) (by omega)
  rw [h, Int.toNat_natCast, hz1]
  congr 4
  apply Array.ext_getElem?
  intro k
  unfold madeCells
  by_cases hk : k < n
  · simp [hk, Value.cells, nilV, Nat.mod_one]
  · rw [Array.getElem?_eq_none (by simp; omega), Array.getElem?_eq_none (by simp; omega)]
theorem step_mkR {o : Oper} {a : Act} {w : World} {x y : Operand} (n : Nat) (hn : n ≤ 1000000) (ho : o.op = .makeSlice 37 x y) (hx : a.eval x = .int .i64 (n : Int)) (hy : a.eval y = .int .i64 (n : Int)) :
    stepAt Tryz.prog o a w (fun v w' => Lit 22 n (List.replicate n nilV).toArray w.heap.size w'.heap.size v w' ∧ Below w.heap.size w w') := by
  unfold stepAt execOp
  simp only [ho, hx, hy, Sem.run_bind, mk_rds n hn w, Result.andThen_ok]
  exact ⟨⟨rfl, by simp only [World.size_alloc]; omega, Blk.new _ _ _⟩, (Below.refl _ _).alloc (Nat.le_refl _) _⟩
theorem tabs_take {lo hi n k cap : Nat} {A : Option Addr} {w : World} {m : List (List E)} (h : TabS lo hi w (.slice A n cap) m) (hk : k ≤ m.length) : TabS lo hi w (.slice A k cap) (m.take k) := by
  obtain ⟨us, hl, ⟨h1, h2, A', cap', h3, h4, h5⟩, h6⟩ := h
  cases h3
  have hlk : (m.take k).length = k := by rw [List.length_take]; omega
  refine ⟨us.take k, by rw [List.length_take, hlk]; omega, ⟨by rw [List.length_take, hlk]; omega, by omega, A, cap, by rw [hlk], by omega, fun h0 => ?_⟩, fun j u t hu ht => ?_⟩
  · obtain ⟨g, off, q1, q2, q3, q4, q5⟩ := h5 (by omega)
    refine ⟨g, off, q1, q2, q3, q4, fun j u hj => q5 j u ?_⟩
    rw [List.getElem?_take] at hj
    split at hj
    · exact hj
    · cases hj
  · rw [List.getElem?_take] at hu ht
    split at hu
    · rename_i hjk
      rw [if_pos hjk] at ht
      exact h6 j u t hu ht
    · cases hu
/-- Rows that are made from the last to the first. -/
def backL (n : Nat) (f : Nat → Value) (j : Nat) : List Value := (List.range n).map fun i => if i < j then nilV else f i
theorem backL_len (n : Nat) (f : Nat → Value) (j : Nat) : (backL n f j).length = n := by simp [backL]
theorem backL_all (n : Nat) (f : Nat → Value) : backL n f n = List.replicate n nilV := by
  apply List.ext_getElem
  · simp [backL]
  · intro i h1 h2
    simp [backL] at h1
    simp [backL, h1]
theorem backL_get (n : Nat) (f : Nat → Value) (j k : Nat) (hk : k < n) (hj : j ≤ k) : (backL n f j)[k]? = some (f k) := by simp [backL, hk, show ¬ k < j by omega]
theorem backL_set (n : Nat) (f : Nat → Value) (j : Nat) (u : Value) (_hj : j < n) : (backL n f (j + 1)).set j u = backL n (fun i => if i = j then u else f i) j := by
  apply List.ext_getElem?
  intro i
  rw [List.getElem?_set]
  unfold backL
  by_cases h : j = i
  · subst h
    by_cases hn : j < n <;> simp [hn]
  · rw [if_neg h]
    by_cases hn : i < n
    · simp only [List.getElem?_map, List.getElem?_range hn, Option.map_some]
      by_cases h2 : i < j
      · rw [if_pos (by omega), if_pos h2]
      · rw [if_neg (by omega), if_neg h2, if_neg (by omega)]
    · simp [hn]
def OutB (R : List (List E)) (go L j : Nat) (V : World) : Prop := ∃ f : Nat → Value, Blk V go 22 (backL R.length f j).toArray ∧ ∀ k t, j ≤ k → R[k]? = some t → ExtS L V.heap.size V (f k) t
theorem OutB.keep {R : List (List E)} {go L j : Nat} {V W : World} (h : OutB R go L j V) (hb : Below V.heap.size V W) : OutB R go L j W := by
  obtain ⟨f, h1, h2⟩ := h
  exact ⟨f, h1.keep hb, fun k t hk ht => (Rd.keep (h2 k t hk ht) hb).wide (Nat.le_refl _) hb.size⟩
theorem OutB.put {R : List (List E)} {go L j g : Nat} {V W : World} (h : OutB R go L j V) (hp : Put V W g) (hg : g < L) (hne : go ≠ g) : OutB R go L j W := by
  obtain ⟨f, h1, h2⟩ := h
  exact ⟨f, hp.blk h1 hne, fun k t hk ht => by rw [hp.size]; exact hp.rd (h2 k t hk ht) (.inl hg)⟩
theorem OutB.tabs {R : List (List E)} {go L : Nat} {V : World} (h : OutB R go L 0 V) (hl : R.length ≤ 1000000) {lo : Nat} (hgo : lo ≤ go) (hL : lo ≤ L) : TabS lo V.heap.size V (.slice (some ⟨go, 0, none⟩) R.length R.length) R := by
  obtain ⟨f, h1, h2⟩ := h
  refine ⟨backL R.length f 0, backL_len _ _ _, ⟨by rw [backL_len]; omega, by omega, _, _, rfl, Nat.le_refl _, fun _ => ⟨go, 0, rfl, hgo, h1.lt, h1.lt, fun j u hu => ?_⟩⟩, fun k u t hu ht => ?_⟩
  · rw [Nat.zero_add, h1.cell]
    simpa using hu
  · have hk : k < R.length := (List.getElem?_eq_some_iff.1 ht).1
    rw [backL_get _ _ _ _ hk (Nat.zero_le _)] at hu
    cases hu
    exact Rd.wide (h2 k t (Nat.zero_le _) ht) hL (Nat.le_refl _)
end Go.Proofs.YtnddfeidggcplaaGreat
namespace Go.Proofs.YtnddfeidggcplaaGreat
open Go.RowKit

theorem run_storeVar1 {P : Program} (w : World) (b o : Nat) (ty : TypeId) (v c : Value) (hc : w.cell? ⟨b, o, none⟩ = some c) (hf : w.frozen? ⟨b, o, none⟩ = false) (hi : (P.info? ty).map (·.size) = some 1) (hv : v.cells = #[v]) (h1 : v.oneCell' = true) :
    (storeVar ty ⟨b, o, none⟩ v).run P w = .ok () (w.setCell ⟨b, o, none⟩ v) := by
  have := run_storeCells_cells (P := P) b o [v] 0 w (fun j hj => by
    simp only [List.length_singleton] at hj
    obtain rfl : j = 0 := by omega
    simp [hc]) (fun j hj => by
    simp only [List.length_singleton] at hj
    obtain rfl : j = 0 := by omega
    simpa using hf) (fun u hu => by rw [List.mem_singleton.1 hu]; exact h1)
  cases hq : P.info? ty with
  | none => simp [hq] at hi
  | some i =>
    have hs : i.size = 1 := by simpa [hq] using hi
    simp only [Nat.add_zero] at this
    simp [storeVar, sizeOf, typeInfo, hq, hv, hs, this, World.setCells]
theorem wpListC_put1 {P : Program} {ops : Array Oper} {rest : List Oper} {op : Oper} {a : Act} {W0 w : World} {Q : Exit → Act → World → Prop} {g i : Nat} {t : TypeId} {cs : Array Value} {v : Value} (hgd : op.guard = none) (ty : TypeId) (x y : Operand) (ho : op.op = .store ty x y)
    (hx : a.eval x = .pointer (some ⟨g, i, none⟩)) (hy : a.eval y = v) (hv : v.cells = #[v]) (h1 : v.oneCell' = true) (hz : (P.info? ty).map (·.size) = some 1) (hb : Blk w g t cs) (hi : i < cs.size)
    (hw : Grw W0 w) (hg : W0.heap.size ≤ g)
    (h : ∀ X, Put w X g → Blk X g t (cs.setIfInBounds i v) → Grw W0 X → wpListC P ops Q (Grw W0) rest (a.put op.dst undef) X) : wpListC P ops Q (Grw W0) (op :: rest) a w := by
  have hp := Put.set w g i v
  have hX := hb.set_ i v
  have hc : w.cell? ⟨g, i, none⟩ = some cs[i] := by rw [hb.cell]; simp [hi]
  have hf : w.frozen? ⟨g, i, none⟩ = false := hb.frozen i
  refine ⟨hgd, ?_⟩
  have hK := And.intro (hp.grw hw hg) (h _ hp hX (hp.grw hw hg))
  unfold Oper.wp execOp
  simp only [ho, hx, hy, Instr.storeAt, Instr.sureAddr, Sem.run_bind, Sem.run_pure, Result.andThen_ok, run_storeVar1 w g i ty v _ hc hf hz hv h1]
  exact hK
end Go.Proofs.YtnddfeidggcplaaGreat
namespace Go.Proofs.YtnddfeidggcplaaGreat
open Go.RowKit
attribute [local go_sem] Oper.semAt_some

theorem join3 {A : Prop} {M : Nat → Nat → Nat → World → Prop} (Q : Nat → Nat → Nat → World → Prop) (h : (∀ a b c X, Q a b c X → M a b c X) → A) (k : ∀ a b c X, Q a b c X → M a b c X) : A := h k
theorem wpListC_putA {P : Program} {ops : Array Oper} {l : List Oper} {Q : Exit → Act → World → Prop} {C : World → Prop} {a : Act} {d : Option Tmp} {u : Value} {w : World} (h : ∀ a', a' = a.put d u → wpListC P ops Q C l a' w) : wpListC P ops Q C l (a.put d u) w := h _ rfl
/-- What Prove of package mask hands back. -/
def PrvM (w : World) (rs : List (List E)) (vs : List E) (e : Ending) (w' : World) : Prop := ∃ v1 v2, e = .returned (.tuple #[v1, v2]) ∧ TabS w.heap.size w'.heap.size w' v1 rs ∧ ExtS w.heap.size w'.heap.size w' v2 vs ∧ Below w.heap.size w w'
theorem en_attestor_sumcheck_Prove32 : ∀ args w, (callFunc 36 args).run Tryz.prog w = .ok (.enter 36 args) w := enters_of Tryz.func36 (by kernel_rfl) rfl
set_option maxRecDepth 100000 in
set_option maxHeartbeats 8000000 in
theorem gProveM (tabs : List (List E)) (ps : List Trm) (m : List (List E)) (rho : E) (co : List E) (n : Nat) (hc : co.length = n) (hn : n ≤ 16) (hall : AllLen tabs (2 ^ n)) (h0 : 0 < tabs.length) (hl : tabs.length ≤ 1000) (hm : m.length = n) (hr : ∀ g ∈ m, g.length = degE ps + 1) (hd : degE ps ≤ 900)
    (AC : Option Addr) (capC : Nat) (vt vp vm : Value) (lo hi lo2 hi2 lo3 hi3 : Nat) (w : World) (h : SumS lo hi w vt vp tabs ps) (hmm : TabS lo2 hi2 w vm m) (hcs : ExtS lo3 hi3 w (.slice AC co.length capC) co) :
    Calls Tryz.prog 14 #[sv vt vp, vm, .agg #[.int .u64 (fv rho.a), .int .u64 (fv rho.b), .slice AC co.length capC]] w (PrvM w (prvM (prvR tabs ps co) m rho co) (prvV tabs co) · ·) := by
  obtain ⟨AT, cT, rfl⟩ := h.ht.len
  obtain ⟨AP, cP, rfl⟩ := h.hp.len
  obtain ⟨AM, cM, rfl⟩ := hmm.len
  rw [hm] at hmm ⊢
  have HPr := Lib.hid (fun W (hW : Below w.heap.size w W) => gProve tabs ps co n hc hn hall h0 hl (.slice AT tabs.length cT) (.slice AP ps.length cP) (.slice AC co.length capC) lo hi lo3 hi3 W (h.keep hW) (Rd.keep hcs hW))
  have HPL := Lib.hid (show (prvR tabs ps co).length = n by rw [prvR_length, hc])
  have HM := Lib.hid hmm.base
  have HC := Lib.hid hcs
  have HR := Lib.hid hr
  have HLm := Lib.hid hm
  have HLc := Lib.hid hc
  have hDp := degE_pos ps
  have HRow := Lib.hid (show ∀ i, i < n → ∃ gp, (prvR tabs ps co)[i]? = some gp ∧ gp.length = degE ps + 1 from fun i hi => by
    have hi' : i < (prvR tabs ps co).length := by rw [prvR_length, hc]; exact hi
    refine ⟨_, List.getElem?_eq_getElem hi', ?_⟩
    have key : ∀ (coins : List E) (tabs : List (List E)), ∀ h ∈ prvR tabs ps coins, h.length = degE ps + 1 := fun coins => by
      induction coins with
      | nil => intro tabs h hh; simp [prvR] at hh
      | cons c cs ih =>
        intro tabs h hh
        simp only [prvR, List.mem_cons] at hh
        rcases hh with rfl | hh
        · exact rndE_length _ _
        · exact ih _ h hh
    exact key co tabs _ (List.getElem_mem hi'))
  clear h hmm hcs hr hm hc hall h0 hl
  obtain ⟨R, hRR⟩ : ∃ R, R = prvM (prvR tabs ps co) m rho co := ⟨_, rfl⟩
  rw [← hRR]
  have HRR := Lib.hid hRR
  clear hRR
  generalize prvR tabs ps co = pl at *
  generalize prvV tabs co = vs at *
  generalize degE ps = D at *
  refine (callsIn_wide (n := 3)).1 ?_
  refine callsIn_of_wp_marks Tryz.func14 rfl trivial ?_ rfl
  unfold sv at *
  simp only [Tryz.ntmps14, List.size_toArray, List.length_cons, List.length_nil, Nat.reduceAdd, Nat.reduceSub, Array.replicate_succ, Array.replicate_zero, List.push_toArray, List.append_toArray, List.nil_append, List.cons_append]
  have hop := open_wide Tryz.prog
  gi_upto_region 1 with (fail)
  refine stk3 (M := fun W => Code.wpIn _ _ _ _ _ _ W) fun W hB hz b3 b4 b5 => ?_
  have hWs : W.heap.size = w.heap.size + 1 + 1 + 1 := hz.out
  clear hz
  have e3 := b3.cell
  have e5 := b5.cell
  gi_wp2_with fail
  refine ⟨trivial, ?_⟩
  refine (callsIn_wide.2 (HPr.out W hB)).mono ?_
  rintro e w1 ⟨v1, v2, rfl, R1, V1, hb1⟩
  obtain ⟨A1, c1, rfl⟩ := R1.len
  obtain ⟨A2, c2, rfl⟩ := Rd.len V1
  clear e3 e5 HPr
  have hB1 := hB.trans (hb1.mono hB.size)
  have b4a := b4.keep hb1
  have b5a := b5.keep hb1
  rw [HPL.out] at R1 ⊢
  gi_upto_region 2 with (fail)
  refine stk1 (M := fun W => Code.wpIn _ _ _ _ _ _ W) fun X hBX hzX b8 => ?_
  have hXs : X.heap.size = w1.heap.size + 1 := hzX.out
  have hBx := hB1.trans (hBX.mono hB1.size)
  have b4X := b4a.keep hBX
  have b5X := b5a.keep hBX
  have R1X := R1.keep hBX
  have V1X := Rd.keep V1 hBX
  clear hzX b3 b4 b5 b4a b5a R1 V1
  obtain ⟨i1, hi1, jz0, jz1, jz2⟩ := info_parts int_info32
  obtain ⟨i2, hi2', kz0, kz1, kz2⟩ := info_parts rds_info
  rename_i K hK
  refine wpIn_mono (Q := Exit.then K (fun _ _ _ => False)) ?hw (fun e a' w' h => by cases e <;> first | exact h | exact h.elim)
  refine (wpIn_wide (n := 3)).2 ?_
  apply join3 (Q := fun a b c V => Below X.heap.size X V ∧ (X.heap.size ≤ a ∧ X.heap.size ≤ b ∧ X.heap.size ≤ c ∧ a ≠ b ∧ a ≠ c ∧ b ≠ c) ∧ Blk V a 22 (List.replicate n nilV).toArray ∧ Blk V b 3 #[.int .i64 (n : Int)] ∧ Blk V c 37 #[.slice (some ⟨a, 0, none⟩) n n])
  case h =>
    intro kk
    have KK := Lib.hid kk
    clear kk
    have y4 := gw_blk b4X
    refine wp_region_lateS 7 4 [2, 3] undef [(4, Spec.rel (Lit 22 n (List.replicate n nilV).toArray) (LitF n)), (5, Spec.rel (New 3 #[.int .i64 0]) (NewF)), (6, Spec.rel (New 37 #[.slice none 0 0]) (NewF))] (by kernel_rfl) (by kernel_rfl) (by kernel_rfl) rfl rfl rfl rfl (by kernel_rfl) (by intro _ _ d _ _ h; cases d <;> exact h) ⟨fit_lit, fit_new, fit_new, trivial⟩ ?_ ?_
    refine rg_det rfl rfl rfl (fun K hK => ?_)
    go_big_quiet_op
    refine hK _ ?_; clear hK K
    refine rg_det rfl rfl rfl (fun K hK => ?_)
    go_big_quiet_op
    refine hK _ ?_; clear hK K
    refine rg_det rfl rfl rfl (fun K hK => ?_)
    go_big_quiet_op
    refine hK _ ?_; clear hK K
    refine rg_det rfl rfl rfl (fun K hK => ?_)
    go_big_quiet_op
    refine hK _ ?_; clear hK K
    refine rg_rel rfl rfl (fun W1 hW1 hF => step_mkR n (by omega) rfl rfl rfl) ?_
    intro n4 m4 v4 hn4 hm4 hd4 hf4 a' ha
    simp only [Act.put, List.setIfInBounds_toArray, List.set_cons_succ, List.set_cons_zero] at ha
    subst ha
    obtain rfl := hf4
    refine rg_rel rfl rfl (fun W1 hW1 hF => step_new hi1 jz0 rfl) ?_
    intro n5 m5 v5 hn5 hm5 hd5 hf5 a' ha
    simp only [Act.put, List.setIfInBounds_toArray, List.set_cons_succ, List.set_cons_zero] at ha
    subst ha
    obtain rfl := hf5
    refine rg_rel rfl rfl (fun W1 hW1 hF => step_new hi2' kz0 rfl) ?_
    intro n6 m6 v6 hn6 hm6 hd6 hf6 a' ha
    simp only [Act.put, List.setIfInBounds_toArray, List.set_cons_succ, List.set_cons_zero] at ha
    subst ha
    obtain rfl := hf6
    refine rg_nil (fun w' hw' hF => ?_)
    obtain ⟨z, rfl⟩ := hw'
    simp only [List.drop_succ_cons, List.drop_zero]
    rotate_left 1
    refine rg_det rfl rfl rfl (fun K hK => ?_)
    go_big_quiet_op
    refine hK _ ?_; clear hK K
    refine rg_det rfl rfl rfl (fun K hK => ?_)
    go_big_quiet_op
    refine hK _ ?_; clear hK K
    refine rg_det rfl rfl rfl (fun K hK => ?_)
    go_big_quiet_op
    refine hK _ ?_; clear hK K
    refine rg_det rfl rfl rfl (fun K hK => ?_)
    go_big_quiet_op
    refine hK _ ?_; clear hK K
    refine rg_pass rfl rfl ?_
    intro a' ha
    simp only [Act.put, List.setIfInBounds_toArray, List.set_cons_succ, List.set_cons_zero] at ha
    subst ha
    refine rg_rel rfl rfl (fun W1 hW1 hF => step_new hi1 jz0 rfl) ?_
    intro n5 m5 v5 hn5 hm5 hd5 hf5 a' ha
    simp only [Act.put, List.setIfInBounds_toArray, List.set_cons_succ, List.set_cons_zero] at ha
    subst ha
    obtain rfl := hf5
    refine rg_rel rfl rfl (fun W1 hW1 hF => step_new hi2' kz0 rfl) ?_
    intro n6 m6 v6 hn6 hm6 hd6 hf6 a' ha
    simp only [Act.put, List.setIfInBounds_toArray, List.set_cons_succ, List.set_cons_zero] at ha
    subst ha
    obtain rfl := hf6
    refine rg_nil (fun w' hw' hF => ?_)
    obtain ⟨z, rfl⟩ := hw'
    simp only [List.drop_succ_cons, List.drop_zero]
    refine wpListC_putA ?_
    intro a' ha
    simp only [Act.put, List.setIfInBounds_toArray, List.set_cons_succ, List.set_cons_zero] at ha
    subst ha
    rotate_right 1
    · obtain ⟨-, -, l6, f6⟩ := end_last hF
      obtain ⟨-, -, l5, f5⟩ := end_last (end_init hF)
      obtain ⟨-, -, l4, f4⟩ := end_last (end_init (end_init hF))
      have d54 := hd5 (n4, m4) (by simp)
      have d64 := hd6 (n4, m4) (by simp)
      have d65 := hd6 (n5, m5) (by simp)
      simp only at d54 d64 d65
      clear hF y4 hd4 hd5 hd6
      refine wpListC_put1 (v := .int .i64 (n : Int)) rfl _ _ _ rfl rfl rfl rfl rfl (by kernel_rfl) f5 (by decide) ⟨z, rfl⟩ hn5 fun X1 p1 u1 g1 => ?_
      refine wpListC_put1 (v := .slice (some ⟨n4, 0, none⟩) n n) rfl _ _ _ rfl rfl rfl rfl rfl (by kernel_rfl) (p1.blk f6 (by omega)) (by decide) g1 hn6 fun X2 p2 u2 g2 => ?_
      refine wpListC_nil ?_
      simp only [Act.put, List.setIfInBounds_toArray, List.set_cons_succ, List.set_cons_zero]
      exact KK.out n4 n5 n6 X2 ⟨grw_below g2, ⟨hn4, hn5, hn6, by omega, by omega, by omega⟩, p2.blk (p1.blk f4 (by omega)) (by omega), p2.blk u1 (by omega), u2⟩
    · obtain ⟨-, -, l6, f6⟩ := end_last hF
      obtain ⟨-, -, l5, f5⟩ := end_last (end_init hF)
      have d65 := hd6 (n5, m5) (by simp)
      simp only at d65
      clear hF y4 hd5 hd6
      refine wpListC_put1 (v := .int .i64 (n : Int)) rfl _ _ _ rfl rfl rfl rfl rfl (by kernel_rfl) f5 (by decide) ⟨z, rfl⟩ hn5 fun X1 p1 u1 g1 => ?_
      refine ⟨rfl, wp_of_step (stepAt_mono (fun v w' h => ?_) (step_mkR n (by omega) rfl rfl rfl))⟩
      obtain ⟨⟨rfl, l4, f4⟩, hb4⟩ := h
      have hX1 := (grw_below g1).size
      have q5 := u1.lt
      have q6 := (p1.blk f6 (by omega)).lt
      refine ⟨grw_next g1 hb4, ?_⟩
      refine wpListC_put1 (v := .slice (some ⟨X1.heap.size, 0, none⟩) n n) rfl _ _ _ rfl rfl rfl rfl rfl (by kernel_rfl) ((p1.blk f6 (by omega)).keep hb4) (by decide) (grw_next g1 hb4) hn6 fun X2 p2 u2 g2 => ?_
      refine wpListC_nil ?_
      simp only [Act.put, List.setIfInBounds_toArray, List.set_cons_succ, List.set_cons_zero]
      exact KK.out X1.heap.size n5 n6 X2 ⟨grw_below g2, ⟨hX1, hn5, hn6, by omega, by omega, by omega⟩, p2.blk f4 (by omega), p2.blk (u1.keep hb4) (by omega), u2⟩
  intro go g10 g11 V ⟨BV, ⟨ha, hb, hcc, hab, hac, hbc⟩, bo, b10, b11⟩
  refine hK _ _ ?_
  clear hK K
  have b4V := b4X.keep BV
  have e4 := b4V.cell
  gi_wp2_with fail
  refine ⟨trivial, ?_⟩
  refine (callsIn_wide.2 (gBehind AM n cM V)).mono ?_
  rintro e w2 ⟨rfl, rfl⟩
  clear e4
  gi_wp2_with fail
  refine stk1 (M := fun W => Code.wpIn _ _ _ _ _ _ W) fun Y hBY hzY cB => ?_
  have hYs : Y.heap.size = V.heap.size + 1 := hzY.out
  have BXY := BV.trans (hBY.mono BV.size)
  have hwY := hBx.trans (BXY.mono hBx.size)
  have b10Y := b10.keep hBY
  have b11Y := b11.keep hBY
  have boY := bo.keep hBY
  have hgo := bo.lt
  have hg10 := b10.lt
  have hg11 := b11.lt
  have hsx := hBx.size
  have hsV := BV.size
  have hRl : R.length = n := by rw [HRR.out, prvM_length, HLm.out]
  have hsW := hB.size
  have hs1 := hb1.size
  have hsX1 := hBX.size
  clear hzY b4V b10 b11 bo hBY BV
  have hbeh := wBehind m w.heap.size V.heap.size 0 (.slice AM n cM) (by rw [HLm.out]; omega) (fun g hg => by rw [HR.out g hg]; omega) Y (HM.out.keep hwY) cB hwY.size
  rw [HLm.out] at hbeh
  refine wpIn_seqB2 (n := 3) hbeh (Below.refl _ _) (by decide) rfl (enters_of Tryz.func92 (by kernel_rfl) rfl) (fun g hg => by omega) (fun g hg => by unfold BhS at hg; omega)
    (fun pre U => Below X.heap.size X U ∧ Blk U g10 3 #[.int .i64 (n : Int)] ∧ Blk U g11 37 #[.slice (some ⟨go, 0, none⟩) n n] ∧ OutB R go (Y.heap.size + 7) (n - pre.length) U ∧ Y.heap.size ≤ U.heap.size)
    ?hI1 ?hI2 ?hI3 ?h0 12 13 30 (fun i => #[.int .u64 (fv (bsK m (n - 1 - i)).a), .int .u64 (fv (bsK m (n - 1 - i)).b)]) ?assign ?body ?done
  case hI1 => exact fun s A B h hb => ⟨h.1.trans (hb.mono h.1.size), h.2.1.keep hb, h.2.2.1.keep hb, h.2.2.2.1.keep hb, Nat.le_trans h.2.2.2.2 hb.size⟩
  case hI2 => exact fun s A B g hg h hp => ⟨below_put h.1 hp (by omega), hp.blk h.2.1 (by omega), hp.blk h.2.2.1 (by omega), h.2.2.2.1.put hp (by omega) (by omega), by rw [hp.size]; exact h.2.2.2.2⟩
  case hI3 => exact fun s U o h => ⟨below_putObj h.1 _ o (by omega), blk_putObj h.2.1 (by omega), blk_putObj h.2.2.1 (by omega), h.2.2.2.1.put (put_putObj _ _ _) (by omega) (by omega), by simpa using h.2.2.2.2⟩
  case h0 =>
    refine ⟨BXY, b10Y, b11Y, ⟨fun _ => nilV, ?_, fun k t hk ht => ?_⟩, Nat.le_refl _⟩
    · rw [hRl, List.length_nil, Nat.sub_zero, backL_all]
      exact boY
    · have := (List.getElem?_eq_some_iff.1 ht).1
      simp only [List.length_nil, Nat.sub_zero] at hk
      omega
  case assign =>
    intro l' x U K hK
    simp only [boxAct, ev, List.setIfInBounds_toArray, List.set_cons_succ, List.set_cons_zero] at hK ⊢
    gi_wp2_with fail
    exact hK
  case body =>
    rintro l' pre i Bx U ⟨q1, q2, q3, q4, q5⟩ hsU hBx' bB ⟨rest, hrest⟩
    obtain ⟨hi, hple⟩ := rev_at hrest
    have hpl := Nat.le_of_eq hple
    have hpl2 := Nat.le_of_eq hple.symm
    have hXs1 := Nat.le_of_eq hXs
    have hXs2 := Nat.le_of_eq hXs.symm
    have hYs1 := Nat.le_of_eq hYs
    have hYs2 := Nat.le_of_eq hYs.symm
    clear hple hXs hYs
    simp only [boxAct, ev, List.setIfInBounds_toArray, List.set_cons_succ, List.set_cons_zero]
    have hop := open_round (open_wide Tryz.prog) l'
    have hU : Below w.heap.size w U := hBx.trans (q1.mono hBx.size)
    have hUs := hU.size
    have c4 := b4X.keep q1
    obtain ⟨t, ht⟩ : ∃ t, m[i]? = some t := ⟨_, List.getElem?_eq_getElem (by rw [HLm.out]; exact hi)⟩
    have htl : t.length = D + 1 := HR.out t (List.mem_of_getElem? ht)
    obtain ⟨gm, om, capm, hv, hcm, -, hgm, lM, qM⟩ := tabs_cells (HM.out.keep hU) (by rw [HLm.out]; omega)
    rw [HLm.out] at hv
    cases hv
    obtain ⟨At, ct, d0, hEt⟩ := qM i t ht
    rw [htl] at d0
    obtain ⟨gp, hgp, hgpl⟩ := HRow.out i hi
    obtain ⟨g8, o8, cap8, hv8, hc8, -, -, l8, q8⟩ := tabs_cells R1X (by rw [HPL.out]; omega)
    rw [HPL.out] at hv8
    cases hv8
    obtain ⟨Ap, cp, d8, hEp⟩ := q8 i gp hgp
    rw [hgpl] at d8
    obtain ⟨f, bo, hrows⟩ := q4
    have hni : n - pre.length = i + 1 := by omega
    rw [hni] at bo hrows
    clear hni
    have eg0 : U.cell? ⟨go, i, none⟩ = some nilV := by
      rw [bo.cell]
      simp [backL, hRl, hi]
    have y4 := gw_blk c4
    have y11 := gw_blk q3
    have yd := gw_cell lM d0
    gi_upto_region 6 with (fail)
    refine wpIn_region_rg hop 9 [(7, Spec.rel (Lit 30 (D + 1) ((List.replicate (D + 1) (0 : E)).flatMap ec).toArray) (LitF (D + 1)))] (by kernel_rfl) (by kernel_rfl) (by kernel_rfl) ⟨fit_lit, trivial⟩ ?_
    refine rg_det rfl rfl rfl (fun K hK => ?_)
    go_big_quiet_op
    refine hK _ ?_; clear hK K
    refine rg_det rfl rfl rfl (fun K hK => ?_)
    go_big_quiet_op
    refine hK _ ?_; clear hK K
    refine rg_det rfl rfl rfl (fun K hK => ?_)
    go_big_quiet_op
    refine hK _ ?_; clear hK K
    refine rg_det rfl rfl rfl (fun K hK => ?_)
    go_big_quiet_op
    refine hK _ ?_; clear hK K
    refine rg_det rfl rfl rfl (fun K hK => ?_)
    go_big_quiet_op
    refine hK _ ?_; clear hK K
    refine rg_det rfl rfl rfl (fun K hK => ?_)
    go_big_quiet_op
    refine hK _ ?_; clear hK K
    refine rg_det rfl rfl rfl (fun K hK => ?_)
    go_big_quiet_op
    refine hK _ ?_; clear hK K
    refine rg_rel rfl rfl (fun W1 hW1 hF => step_mkE (D + 1) (by omega) rfl rfl rfl) ?_
    intro nr7 mr7 vr7 hnr7 hmr7 hdr7 hfr7 a' ha
    simp only [Act.put, List.setIfInBounds_toArray, List.set_cons_succ, List.set_cons_zero] at ha
    subst ha
    obtain rfl := hfr7
    refine rg_det rfl rfl rfl (fun K hK => ?_)
    go_big_quiet_op
    refine hK _ ?_; clear hK K
    refine rg_nil (fun w' hw' hF => ?_)
    obtain ⟨z, rfl⟩ := hw'
    simp only [List.drop_succ_cons, List.drop_zero]
    obtain ⟨hmr, -, hlr, br⟩ := end_last hF
    have boz := bo.gw z
    have e1 : z.w.cell? ⟨go, i, none⟩ = some nilV := (z.h.cell (p := ⟨go, i, none⟩) bo.lt).trans eg0
    have e2 := boz.frozen
    have hzs := z.h.size
    clear hF y4 y11 yd eg0
    gi_upto_region 7 with (fail)
    refine set1 (M := fun W => Code.wpIn _ _ _ _ _ _ W) boz fun U1 hU1 bU1 => ?_
    have bo1 : Blk U1 go 22 (backL R.length (fun k => if k = i then .slice (some ⟨nr7, 0, none⟩) (D + 1) (D + 1) else f k) i).toArray := by
      rw [← backL_set _ _ _ _ (by rw [hRl]; exact hi)]
      simpa using bU1
    have br1 := hU1.blk br (by omega)
    have hz1 := hU1.size
    have hX1 : Below X.heap.size X U1 := below_put (q1.trans (z.h.mono q1.size)) hU1 (by omega)
    have q2a := hU1.blk (q2.gw z) (by omega)
    have q3a := hU1.blk (q3.gw z) (by omega)
    have bBa := hU1.blk (bB.gw z) (by omega)
    have hrows1 : ∀ k t, i + 1 ≤ k → R[k]? = some t → ExtS (Y.heap.size + 7) U.heap.size U1 (f k) t := fun k t hk ht => hU1.rd (Rd.keep (hrows k t hk ht) z.h) (.inl (by omega))
    have hEt1 := hU1.rd (Rd.keep hEt z.h) (.inr (by omega))
    have hbo1 : U1.cell? ⟨go, i, none⟩ = some (.slice (some ⟨nr7, 0, none⟩) (D + 1) (D + 1)) := by
      rw [bo1.cell]
      simp [backL, hRl, hi]
    have hRi : R[i]? = some (linR gp rho (mrow m co i)) := by
      rw [HRR.out]
      unfold prvM
      rw [List.getElem?_map, List.getElem?_range (by rw [HLm.out]; exact hi)]
      simp [List.getD, hgp]
    have hrl : (linR gp rho (mrow m co i)).length = D + 1 := by
      rw [linR_length, mrow_length, show m.getD i [] = t by simp [List.getD, ht], htl]
    have HFin := Lib.hid (show ∀ k v, t[k]? = some v → (linR gp rho (mrow m co i)).getD k 0 = gp.getD k 0 + rho * ((evK m co i + bsK m (n - 1 - i) * pwZ (-1) + v) * pwZ ((n : Int) - (i : Int) - 1)) from fun k v hv => by
      have hkl : k < (mrow m co i).length := by
        rw [mrow_length, show m.getD i [] = t by simp [List.getD, ht]]
        exact (List.getElem?_eq_some_iff.1 hv).1
      have hmv : (mrow m co i).getD k 0 = mskE m co i v := by
        unfold mrow
        rw [show m.getD i [] = t by simp [List.getD, ht]]
        simp [List.getD, hv]
      rw [linR_getD _ _ _ _ hkl, hmv]
      unfold mskE
      rw [HLm.out])
    have HRi := Lib.hid hRi
    have HRl2 := Lib.hid hrl
    have HEv := Lib.hid (show ∀ W1, Below U1.heap.size U1 W1 → Calls Tryz.prog 22 #[.slice (some ⟨gm, om, none⟩) i cM, .slice AC co.length capC] W1 (Ret (ev (evK m co i)) W1) from fun W1 hW => by
      have hw1 : Below w.heap.size w W1 := (hBx.trans (hX1.mono hBx.size)).trans (hW.mono (hBx.trans (hX1.mono hBx.size)).size)
      have hil : i ≤ m.length := by rw [HLm.out]; omega
      have := gEvM (m.take i) co (by rw [List.length_take, HLc.out]; omega) (by rw [List.length_take]; omega) (fun g hg => by rw [HR.out g (List.mem_of_mem_take hg)]; omega) _ _ _ _ _ _ W1 (tabs_take (HM.out.keep hw1) hil) (Rd.keep HC.out hw1)
      rwa [evM_take m co i hil] at this)
    generalize linR gp rho (mrow m co i) = row at *
    generalize evK m co i = ek at *
    generalize bsK m (n - 1 - i) = s at *
    have HPw := Lib.hid (gPower ((n : Int) - (i : Int) - 1) (by omega) (by omega))
    have HPm := Lib.hid (gPower (-1) (by decide) (by decide))
    generalize pwZ ((n : Int) - (i : Int) - 1) = pq at *
    generalize pwZ (-1) = hf at *
    clear e1 e2 boz bU1 br q2 q3 bB hrows q8 qM hEt hRi hrl bo
    obtain ⟨i1, hi1, jz0, jz1, jz2⟩ := info_parts ext_info
    have hic : i ≤ cM := by have := HLm.out; omega
    have y4 := gw_blk (b4X.keep hX1)
    have y5 := gw_blk (b5X.keep hX1)
    have yB := gw_blk bBa
    refine wpIn_region_rg hop 11 [(5, Spec.val (.agg #[.int .u64 (fv (ek).a), .int .u64 (fv (ek).b)])), (7, Spec.val (.agg #[.int .u64 (fv (hf).a), .int .u64 (fv (hf).b)])), (8, Spec.val (.agg #[.int .u64 (fv (s * hf).a), .int .u64 (fv (s * hf).b)])), (9, Spec.val (.agg #[.int .u64 (fv (ek + s * hf).a), .int .u64 (fv (ek + s * hf).b)])), (10, Spec.rel (New 30 #[.int .u64 0, .int .u64 0]) (NewF))] (by kernel_rfl) (by kernel_rfl) (by kernel_rfl) ⟨fit_new, trivial⟩ ?_
    refine rg_det rfl rfl rfl (fun K hK => ?_)
    go_big_quiet_op
    refine hK _ ?_; clear hK K
    refine rg_det rfl rfl rfl (fun K hK => ?_)
    go_big_quiet_op
    refine hK _ ?_; clear hK K
    refine rg_det rfl rfl rfl (fun K hK => ?_)
    go_big_quiet_op
    refine hK _ ?_; clear hK K
    refine rg_det rfl rfl rfl (fun K hK => ?_)
    go_big_quiet_op
    refine hK _ ?_; clear hK K
    refine rg_det rfl rfl rfl (fun K hK => ?_)
    go_big_quiet_op
    refine hK _ ?_; clear hK K
    refine rg_val rfl rfl (fun W1 hW1 hF => step_callv en_attestor_mask_Eval (HEv.out W1 (grw_below hW1)) rfl rfl) ?_
    intro a' ha
    simp only [Act.put, List.setIfInBounds_toArray, List.set_cons_succ, List.set_cons_zero] at ha
    subst ha
    refine rg_det rfl rfl rfl (fun K hK => ?_)
    go_big_quiet_op
    refine hK _ ?_; clear hK K
    refine rg_val rfl rfl (fun W1 hW1 hF => step_callv en_attestor_mask_power (HPm.out W1) rfl rfl) ?_
    intro a' ha
    simp only [Act.put, List.setIfInBounds_toArray, List.set_cons_succ, List.set_cons_zero] at ha
    subst ha
    refine rg_val rfl rfl (fun W1 hW1 hF => step_callv en_attestor_ext_Mul (eMul s hf W1) rfl rfl) ?_
    intro a' ha
    simp only [Act.put, List.setIfInBounds_toArray, List.set_cons_succ, List.set_cons_zero] at ha
    subst ha
    refine rg_val rfl rfl (fun W1 hW1 hF => step_callv en_attestor_ext_Add (eAdd ek (s * hf) W1) rfl rfl) ?_
    intro a' ha
    simp only [Act.put, List.setIfInBounds_toArray, List.set_cons_succ, List.set_cons_zero] at ha
    subst ha
    refine rg_rel rfl rfl (fun W1 hW1 hF => step_new hi1 jz0 rfl) ?_
    intro ns10 ms10 vs10 hns10 hms10 hds10 hfs10 a' ha
    simp only [Act.put, List.setIfInBounds_toArray, List.set_cons_succ, List.set_cons_zero] at ha
    subst ha
    obtain rfl := hfs10
    refine rg_nil (fun w' hw' hF => ?_)
    obtain ⟨z2, rfl⟩ := hw'
    simp only [List.drop_succ_cons, List.drop_zero]
    obtain ⟨hms, -, hls, b14⟩ := end_last hF
    have e1 := b14.cell
    have e2 := b14.frozen
    have hz2 := z2.h.size
    have hbo1l := bo1.lt
    have hbr1l := br1.lt
    have c4z := (b4X.keep hX1).gw z2
    clear hF y4 y5 yB
    gi_upto_region 8 with (fail)
    refine set2 (M := fun W => Code.wpIn _ _ _ _ _ _ W) b14 fun U2 hU2 bU2 => ?_
    have b14' : Blk U2 ns10 30 #[.int .u64 (fv (ek + s * hf).a), .int .u64 (fv (ek + s * hf).b)] := bU2
    generalize ek + s * hf = cc at *
    have hs2 := hU2.size
    have hX2 : Below X.heap.size X U2 := below_put (hX1.trans (z2.h.mono hX1.size)) hU2 (by omega)
    have q2b := hU2.blk (q2a.gw z2) (by omega)
    have q3b := hU2.blk (q3a.gw z2) (by omega)
    have bo2 := hU2.blk (bo1.gw z2) (by omega)
    have br2 := hU2.blk (br1.gw z2) (by omega)
    have hrows2 : ∀ k t, i + 1 ≤ k → R[k]? = some t → ExtS (Y.heap.size + 7) U.heap.size U2 (f k) t := fun k t hk ht => hU2.rd (Rd.keep (hrows1 k t hk ht) z2.h) (.inr (by omega))
    have hEt2 := hU2.rd (Rd.keep hEt1 z2.h) (.inr (by omega))
    have hKU2 : Keeps (fun g => g < U.heap.size ∧ g ≠ go) U U2 := by
      refine ⟨by omega, fun g hg hl => ?_⟩
      exact (hU2.other g (by omega)).trans ((z2.h.block g (by omega)).trans ((hU1.other g hg.2).trans (z.h.block g hl)))
    have d0' : U2.cell? ⟨gm, om + i, none⟩ = some (.slice At (D + 1) ct) := hKU2.cell (show gm < U.heap.size ∧ gm ≠ go by omega) d0
    clear e1 e2 b14 bU2 q2a q3a bo1 br1 hrows1 hEt1 hbo1 d0
    obtain ⟨gt, ot, capt, hvt, -, -, hgt, lt2, qt⟩ := exts_cells hEt2 (by rw [htl]; omega)
    rw [htl] at hvt
    cases hvt
    obtain ⟨gq, oq, capq, hvq, -, -, -, lq, qq⟩ := exts_cells hEp (by rw [hgpl]; omega)
    rw [hgpl] at hvq
    cases hvq
    have HT := Lib.hid qt
    have HQ := Lib.hid qq
    clear qt qq hEt2 hEp
    have hgo2 := bo2.lt
    have hr2l := br2.lt
    have h14l := b14'.lt
    have c4' := b4X.keep hX2
    have e4 := c4'.cell
    obtain ⟨fin, hfin⟩ : ∃ fin : Nat → E, fin = fun k => row.getD k 0 := ⟨_, rfl⟩
    have HF2 := Lib.hid hfin
    have br0 : Blk U2 nr7 30 ((mixL (D + 1) fin (fun _ => 0) 0).flatMap ec).toArray := by
      rw [mixL_zero, List.map_const', List.length_range]
      exact br2
    clear hfin br2
    gi_wp2_with fail
    clear e4
    gi_loopw [58] (fun ix wr => ∃ k : Nat, k ≤ D + 1 ∧ ix = .int .i64 k ∧ Blk wr nr7 30 ((mixL (D + 1) fin (fun _ => 0) k).flatMap ec).toArray ∧ Keeps (fun g => g ≠ nr7) U2 wr ∧ Below X.heap.size X wr) (fun ix _ => D + 1 - (intOf ix).toNat)
    case atStart => exact ⟨0, Nat.zero_le _, rfl, br0, Keeps.refl _, hX2⟩
    case round =>
      obtain ⟨k, hk, rfl, brk, hKk, hXk⟩ := hrel
      by_cases hlt : k < D + 1
      · obtain ⟨v, hv⟩ : ∃ v, t[k]? = some v := ⟨_, List.getElem?_eq_getElem (by rw [htl]; exact hlt)⟩
        obtain ⟨x, hx⟩ : ∃ x, gp[k]? = some x := ⟨_, List.getElem?_eq_getElem (by rw [hgpl]; exact hlt)⟩
        obtain ⟨d1, d2⟩ := HT.out k v hv
        obtain ⟨d3, d4⟩ := HQ.out k x hx
        have hfk : fin k = x + rho * ((cc + v) * pq) := by
          rw [HF2.out]
          show row.getD k 0 = _
          rw [HFin.out k v hv]
          simp [List.getD, hx]
        have HFk := Lib.hid hfk
        have hsk := hKk.size
        have e1 := hKk.cell (show gt ≠ nr7 by omega) d1
        have e2 := hKk.cell (show gt ≠ nr7 by omega) d2
        have kb : ∀ {g t cs}, Blk U2 g t cs → g ≠ nr7 → Blk wr g t cs := fun {g t cs} h hne => (hKk.same _ hne h.lt).trans h
        have k14 := kb b14' (by omega)
        have k10 := kb q2b (by omega)
        have k11 := kb q3b (by omega)
        have ko := kb bo2 (by omega)
        have cgo : wr.cell? ⟨go, i, none⟩ = some (.slice (some ⟨nr7, 0, none⟩) (D + 1) (D + 1)) := by
          rw [ko.cell]
          simp [backL, hRl, hi]
        have hkol := ko.lt
        clear d1 d2 hfk hv hx kb
        gi_upto_region 11 with (fail)
        refine stk1 (M := fun W => Code.wpIn _ _ _ _ _ _ W) fun Y2 hY2 hzY2 bV => ?_
        have hXY := hXk.trans (hY2.mono hXk.size)
        have hsY2 : Y2.heap.size = wr.heap.size + 1 := hzY2.out
        have y14 := gw_blk (k14.keep hY2)
        have yV := gw_blk bV
        have y10 := gw_blk (k10.keep hY2)
        clear e1 e2 hzY2
        refine wpIn_region_rg hop 10 [(2, Spec.val (.agg #[.int .u64 (fv (cc + v).a), .int .u64 (fv (cc + v).b)])), (7, Spec.val (.agg #[.int .u64 (fv (pq).a), .int .u64 (fv (pq).b)])), (8, Spec.val (.agg #[.int .u64 (fv ((cc + v) * pq).a), .int .u64 (fv ((cc + v) * pq).b)])), (9, Spec.rel (New 30 #[.int .u64 0, .int .u64 0]) (NewF))] (by kernel_rfl) (by kernel_rfl) (by kernel_rfl) ⟨fit_new, trivial⟩ ?_
        refine rg_det rfl rfl rfl (fun K hK => ?_)
        go_big_quiet_op
        refine hK _ ?_; clear hK K
        refine rg_det rfl rfl rfl (fun K hK => ?_)
        go_big_quiet_op
        refine hK _ ?_; clear hK K
        refine rg_val rfl rfl (fun W1 hW1 hF => step_callv en_attestor_ext_Add (eAdd cc v W1) rfl rfl) ?_
        intro a' ha
        simp only [Act.put, List.setIfInBounds_toArray, List.set_cons_succ, List.set_cons_zero] at ha
        subst ha
        refine rg_det rfl rfl rfl (fun K hK => ?_)
        go_big_quiet_op
        refine hK _ ?_; clear hK K
        refine rg_det rfl rfl rfl (fun K hK => ?_)
        go_big_quiet_op
        refine hK _ ?_; clear hK K
        refine rg_det rfl rfl rfl (fun K hK => ?_)
        go_big_quiet_op
        refine hK _ ?_; clear hK K
        refine rg_det rfl rfl rfl (fun K hK => ?_)
        go_big_quiet_op
        refine hK _ ?_; clear hK K
        refine rg_val rfl rfl (fun W1 hW1 hF => step_callv en_attestor_mask_power (HPw.out W1) rfl rfl) ?_
        intro a' ha
        simp only [Act.put, List.setIfInBounds_toArray, List.set_cons_succ, List.set_cons_zero] at ha
        subst ha
        refine rg_val rfl rfl (fun W1 hW1 hF => step_callv en_attestor_ext_Mul (eMul (cc + v) pq W1) rfl rfl) ?_
        intro a' ha
        simp only [Act.put, List.setIfInBounds_toArray, List.set_cons_succ, List.set_cons_zero] at ha
        subst ha
        refine rg_rel rfl rfl (fun W1 hW1 hF => step_new hi1 jz0 rfl) ?_
        intro nu9 mu9 vu9 hnu9 hmu9 hdu9 hfu9 a' ha
        simp only [Act.put, List.setIfInBounds_toArray, List.set_cons_succ, List.set_cons_zero] at ha
        subst ha
        obtain rfl := hfu9
        refine rg_nil (fun w' hw' hF => ?_)
        obtain ⟨z3, rfl⟩ := hw'
        simp only [List.drop_succ_cons, List.drop_zero]
        obtain ⟨-, -, hlu, b17⟩ := end_last hF
        have hz3 := z3.h.size
        have e1 := b17.cell
        have e2 := b17.frozen
        clear hF y14 yV y10
        generalize hmk : (cc + v) * pq = mk at *
        gi_upto_region 12 with (fail)
        refine set2 (M := fun W => Code.wpIn _ _ _ _ _ _ W) b17 fun U3 hU3 bU3 => ?_
        have b17' : Blk U3 nu9 30 #[.int .u64 (fv mk.a), .int .u64 (fv mk.b)] := bU3
        have hs3 := hU3.size
        have hX3 : Below X.heap.size X U3 := below_put (hXY.trans (z3.h.mono hXY.size)) hU3 (by omega)
        have brk3 := hU3.blk ((brk.keep hY2).gw z3) (by omega)
        have ko3 := hU3.blk ((ko.keep hY2).gw z3) (by omega)
        have k113 := hU3.blk ((k11.keep hY2).gw z3) (by omega)
        have cgo3 : U3.cell? ⟨go, i, none⟩ = some (.slice (some ⟨nr7, 0, none⟩) (D + 1) (D + 1)) := by
          rw [ko3.cell]
          simp [backL, hRl, hi]
        have d83 := (hX3.cell (p := ⟨g8, o8 + i, none⟩) l8).trans d8
        have d33 := (hX3.cell (p := ⟨gq, oq + k * 2, none⟩) lq).trans d3
        have d43 := (hX3.cell (p := ⟨gq, oq + k * 2 + 1, none⟩) lq).trans d4
        have y11 := gw_blk k113
        have ygo := gw_cell ko3.lt cgo3
        have y8 := gw_blk (b8.keep hX3)
        have y8r := gw_cell (Nat.lt_of_lt_of_le l8 hX3.size) d83
        have yp1 := gw_cell (Nat.lt_of_lt_of_le lq hX3.size) d33
        have yp2 := gw_cell (Nat.lt_of_lt_of_le lq hX3.size) d43
        have y5 := gw_blk (b5X.keep hX3)
        have y17 := gw_blk b17'
        clear e1 e2 b17 bU3 d33 d43 d83 cgo cgo3
        refine wpIn_region_rg hop 18 [(15, Spec.val (.agg #[.int .u64 (fv (rho * mk).a), .int .u64 (fv (rho * mk).b)])), (16, Spec.val (.agg #[.int .u64 (fv (x + rho * mk).a), .int .u64 (fv (x + rho * mk).b)]))] (by kernel_rfl) (by kernel_rfl) (by kernel_rfl) trivial ?_
        refine rg_det rfl rfl rfl (fun K hK => ?_)
        go_big_quiet_op
        refine hK _ ?_; clear hK K
        refine rg_det rfl rfl rfl (fun K hK => ?_)
        go_big_quiet_op
        refine hK _ ?_; clear hK K
        refine rg_det rfl rfl rfl (fun K hK => ?_)
        go_big_quiet_op
        refine hK _ ?_; clear hK K
        refine rg_det rfl rfl rfl (fun K hK => ?_)
        go_big_quiet_op
        refine hK _ ?_; clear hK K
        refine rg_det rfl rfl rfl (fun K hK => ?_)
        go_big_quiet_op
        refine hK _ ?_; clear hK K
        refine rg_det rfl rfl rfl (fun K hK => ?_)
        go_big_quiet_op
        refine hK _ ?_; clear hK K
        refine rg_det rfl rfl rfl (fun K hK => ?_)
        go_big_quiet_op
        refine hK _ ?_; clear hK K
        refine rg_det rfl rfl rfl (fun K hK => ?_)
        go_big_quiet_op
        refine hK _ ?_; clear hK K
        refine rg_det rfl rfl rfl (fun K hK => ?_)
        go_big_quiet_op
        refine hK _ ?_; clear hK K
        refine rg_det rfl rfl rfl (fun K hK => ?_)
        go_big_quiet_op
        refine hK _ ?_; clear hK K
        refine rg_det rfl rfl rfl (fun K hK => ?_)
        go_big_quiet_op
        refine hK _ ?_; clear hK K
        refine rg_det rfl rfl rfl (fun K hK => ?_)
        go_big_quiet_op
        refine hK _ ?_; clear hK K
        refine rg_det rfl rfl rfl (fun K hK => ?_)
        go_big_quiet_op
        refine hK _ ?_; clear hK K
        refine rg_det rfl rfl rfl (fun K hK => ?_)
        go_big_quiet_op
        refine hK _ ?_; clear hK K
        refine rg_det rfl rfl rfl (fun K hK => ?_)
        go_big_quiet_op
        refine hK _ ?_; clear hK K
        refine rg_val rfl rfl (fun W1 hW1 hF => step_callv en_attestor_ext_Mul (eMul rho mk W1) rfl rfl) ?_
        intro a' ha
        simp only [Act.put, List.setIfInBounds_toArray, List.set_cons_succ, List.set_cons_zero] at ha
        subst ha
        refine rg_val rfl rfl (fun W1 hW1 hF => step_callv en_attestor_ext_Add (eAdd x (rho * mk) W1) rfl rfl) ?_
        intro a' ha
        simp only [Act.put, List.setIfInBounds_toArray, List.set_cons_succ, List.set_cons_zero] at ha
        subst ha
        refine rg_det rfl rfl rfl (fun K hK => ?_)
        go_big_quiet_op
        refine hK _ ?_; clear hK K
        refine rg_nil (fun w' hw' hF => ?_)
        obtain ⟨z4, rfl⟩ := hw'
        simp only [List.drop_succ_cons, List.drop_zero]
        have brk4 := brk3.gw z4
        obtain ⟨m1, m2⟩ := blk_cellE brk4 (mixL_get (D + 1) fin (fun _ => 0) k hlt)
        have e6 := brk4.frozen
        have hz4 := z4.h.size
        clear hF y11 ygo y8 y8r yp1 yp2 y5 y17
        have HXz := Lib.hid (hX3.trans (z4.h.mono hX3.size))
        gi_wp2_with fail
        have hp : Put z4.w ((z4.w.setCell ⟨nr7, k * 2, none⟩ (.int .u64 (fv (x + rho * mk).a))).setCell ⟨nr7, k * 2 + 1, none⟩ (.int .u64 (fv (x + rho * mk).b))) nr7 := (Put.set _ _ _ _).trans (Put.set _ _ _ _)
        have hS2 : (mixL (D + 1) fin (fun _ => 0) k).set k (x + rho * mk) = mixL (D + 1) fin (fun _ => 0) (k + 1) := by
          rw [← HFk.out]
          exact mixL_set _ _ _ _
        have hKend : Keeps (fun g => g ≠ nr7) wr ((z4.w.setCell ⟨nr7, k * 2, none⟩ (.int .u64 (fv (x + rho * mk).a))).setCell ⟨nr7, k * 2 + 1, none⟩ (.int .u64 (fv (x + rho * mk).b))) := ⟨by rw [hp.size]; omega, fun g hg hl => (hp.other g hg).trans ((z4.h.block g (by omega)).trans ((hU3.other g (by omega)).trans ((z3.h.block g (by omega)).trans (hY2.block g hl))))⟩
        go_roundw
        case rel => exact ⟨k + 1, by omega, by go_num, by rw [← hS2]; exact blk_setE brk4 k _ (by rw [mixL_len]; exact hlt), hKk.trans hKend, below_put HXz.out hp (by omega)⟩
        case measure => simp [intOf]; omega
      · obtain rfl : k = D + 1 := by omega
        have hsk := hKk.size
        have kb : ∀ {g t cs}, Blk U2 g t cs → g ≠ nr7 → Blk wr g t cs := fun {g t cs} h hne => (hKk.same _ hne h.lt).trans h
        have k10 := kb q2b (by omega)
        have k11 := kb q3b (by omega)
        have ko := kb bo2 (by omega)
        have hrow : (List.range (D + 1)).map fin = row := by
          apply List.ext_getElem
          · rw [List.length_map, List.length_range, HRl2.out]
          · intro a h1 h2
            rw [List.getElem_map, List.getElem_range, HF2.out]
            simp [List.getD, h2]
        rw [mixL_all, hrow] at brk
        have K10 := Lib.hid k10
        have K11 := Lib.hid k11
        have KO := Lib.hid ko
        have HXk := Lib.hid hXk
        clear k10 k11 ko hXk
        gi_wp2_with fail
        refine ⟨⟨by omega, fun g hg hl => ?_⟩, HXk.out, K10.out, K11.out, ⟨fun k => if k = i then .slice (some ⟨nr7, 0, none⟩) (D + 1) (D + 1) else f k, ?_, fun a t' ha ht' => ?_⟩, by omega⟩
        · unfold BhS at hg
          exact (hKk.same g (by omega) (by omega)).trans (hKU2.same g ⟨hl, by omega⟩ hl)
        · rw [show n - (pre.length + 1) = i by omega]
          exact KO.out
        · by_cases hai : a = i
          · subst hai
            rw [HRi.out] at ht'
            cases ht'
            simp only [if_true]
            exact exts_of_blk brk HRl2.out (by omega) (by omega) (by have := brk.lt; omega)
          · simp only [if_neg hai]
            exact Rd.wide (Keeps.rd (hrows2 a t' (by omega) ht') hKk (fun g _ hg => by omega)) (Nat.le_refl _) (by omega)
  case done =>
    intro D U hDh ⟨q1, q2, q3, q4, q5⟩ hK
    have e1 := q3.cell
    gi_wp2_with fail
    have hD := hDh.out
    have hqq := q4.put (put_putObj U D (.deferred none)) (by omega) (by omega)
    rw [List.length_reverse, List.length_range, Nat.sub_self] at hqq
    have hBU := below_putObj q1 D (.deferred none) (by omega)
    refine ⟨by simp, .inl ⟨_, _, rfl, run_takeDeferred hK, ?_⟩⟩
    refine ⟨.tuple #[.slice (some ⟨go, 0, none⟩) n n, .slice A2 vs.length c2], by simp [results, Tryz.results14, go_sem], ?_⟩
    refine ⟨_, _, rfl, ?_, ?_, hBx.trans (hBU.mono hBx.size)⟩
    · have := hqq.tabs (lo := w.heap.size) (by omega) (by omega) (by omega)
      rw [hRl] at this
      exact this
    · exact Rd.wide (Rd.keep V1X hBU) (by omega) (by have := hBU.size; omega)
end Go.Proofs.YtnddfeidggcplaaGreat
