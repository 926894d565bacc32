/-
  Verify of package sumcheck, by contract.
-/
import Derived.Test.YtilelegcniefcaaVf
namespace Go.Proofs.Ytilelegcniefcaa
open Go.RowKit
attribute [local go_sem] Oper.semAt_some

def lastS (v : E) (xs : List (E × Int)) : E × Int := xs.foldl (fun _ x => x) (v, 0)
theorem lastS_snoc (v : E) (xs : List (E × Int)) (x : E × Int) : lastS v (xs ++ [x]) = x := by unfold lastS; rw [List.foldl_append]; rfl
theorem below_putObj {N : Nat} {w W : World} (h : Below N w W) (l : Nat) (o : Obj) (hl : N ≤ l) : Below N w (W.putObj l o) :=
  ⟨h.os, h.tape, h.output, by simpa using h.size, fun k hk => (World.putObj_heap_other (by omega)).trans (h.block k hk)⟩
/-- What Verify hands back. -/
def vrfE (d : Int) (v : E) (gs : List (List E)) (cs : List E) : E × Int := if d < 1 ∨ 3 < d ∨ gs.length ≠ cs.length then (0, 1) else lastS v (stepsL d.toNat v gs cs)
set_option maxRecDepth 100000 in
set_option maxHeartbeats 400000 in
theorem gSteps (v : E) (A : Option Addr) (m cap : Nat) (A2 : Option Addr) (m2 cap2 : Nat) (d : Int) (w : World) : Calls Try.prog 61 #[ev v, .slice A m cap, .agg #[.slice A2 m2 cap2, .int .i64 d]] w fun e w' =>
    e = .returned (.func (.func 81) #[] #[.pointer (some ⟨w.heap.size + 1, 0, none⟩), .pointer (some ⟨w.heap.size + 2, 0, none⟩), .pointer (some ⟨w.heap.size, 0, none⟩)]) ∧
    w' = ((w.alloc (.cells #[.int .u64 (fv v.a), .int .u64 (fv v.b)] 43)).alloc (.cells #[.slice A m cap] 36)).alloc (.cells #[.slice A2 m2 cap2, .int .i64 d] 51) := by
  unfold ev
  go_enter Try.func61, Try.ntmps61
  go_wp2
  go_ret
  exact ⟨rfl, rfl⟩
set_option maxRecDepth 100000 in
set_option maxHeartbeats 2000000 in
theorem gVerifyArg (v : E) (gs : List (List E)) (cs : List E) (d : Int) (hd : -9223372036854775808 ≤ d ∧ d < 9223372036854775808) (hbad : d < 1 ∨ 3 < d ∨ gs.length ≠ cs.length) (vr vc : Value) (lo hi lo2 hi2 : Nat) (w : World) (hg : TabS lo hi w vr gs) (hc : ExtS lo2 hi2 w vc cs) :
    Calls Try.prog 33 #[ev v, vr, .agg #[vc, .int .i64 d]] w (Ret (.tuple #[ev 0, .int .i64 1]) w) := by
  obtain ⟨A, cap, rfl⟩ := hg.len
  obtain ⟨AC, capC, rfl⟩ := Rd.len hc
  have hs1 := hg.small
  have hs2 := hc.2.1
  obtain ⟨hd1, hd2⟩ := hd
  have hv0 : (.tuple #[ev 0, .int .i64 1] : Value) = .tuple #[.agg #[.int .u64 0, .int .u64 0], .int .i64 1] := rfl
  rw [hv0]
  unfold ev
  clear hg hc hv0
  by_cases h1 : d < 1
  · skip
    go_enter Try.func33, Try.ntmps33
    go_wp2_with fail
    refine bodyPost_ret (v := .tuple #[.agg #[.int .u64 0, .int .u64 0], .int .i64 1]) (by simp [results, Try.results33, go_sem]) rfl ⟨rfl, (((Below.refl _ _).alloc (Nat.le_refl _) _).alloc (by simp) _).alloc (by simp; omega) _⟩
  · by_cases h2 : 3 < d
    · skip
      go_enter Try.func33, Try.ntmps33
      go_wp2_with fail
      refine bodyPost_ret (v := .tuple #[.agg #[.int .u64 0, .int .u64 0], .int .i64 1]) (by simp [results, Try.results33, go_sem]) rfl ⟨rfl, (((Below.refl _ _).alloc (Nat.le_refl _) _).alloc (by simp) _).alloc (by simp; omega) _⟩
    · have h3 : ((gs.length : Int) != (cs.length : Int)) = true := by simp; omega
      clear hbad
      go_enter Try.func33, Try.ntmps33
      go_wp2_with fail
      refine bodyPost_ret (v := .tuple #[.agg #[.int .u64 0, .int .u64 0], .int .i64 1]) (by simp [results, Try.results33, go_sem]) rfl ⟨rfl, (((Below.refl _ _).alloc (Nat.le_refl _) _).alloc (by simp) _).alloc (by simp; omega) _⟩
set_option maxRecDepth 100000 in
set_option maxHeartbeats 4000000 in
theorem gVerifyOk (v : E) (gs : List (List E)) (cs : List E) (d : Nat) (hd : d ≤ 3) (hd1 : 1 ≤ d) (hl : gs.length = cs.length) (hgl : gs.length ≤ 1000) (vr vc : Value) (lo hi lo2 hi2 : Nat) (w : World) (hg : TabS lo hi w vr gs) (hc : ExtS lo2 hi2 w vc cs) :
    Calls Try.prog 33 #[ev v, vr, .agg #[vc, .int .i64 (d : Int)]] w (Ret (.tuple #[ev (lastS v (stepsL d v gs cs)).1, .int .i64 (lastS v (stepsL d v gs cs)).2]) w) := by
  obtain ⟨A, cap, rfl⟩ := hg.len
  obtain ⟨AC, capC, rfl⟩ := Rd.len hc
  have HG := Lib.hid hg.base
  have HC := Lib.hid (ext_base hc)
  have HL := Lib.hid hl
  rw [← hl]
  have h3 : ((gs.length : Int) != (gs.length : Int)) = false := by simp
  have HS := Lib.hid (show stepsL d v gs cs = stepsL d v gs cs from rfl)
  clear hg hc hl
  obtain ⟨xs, hxs⟩ : ∃ xs, xs = stepsL d v gs cs := ⟨_, rfl⟩
  rw [← hxs]
  have HXS := Lib.hid hxs
  clear hxs HS
  refine (callsIn_wide (n := 3)).1 ?_
  refine callsIn_of_wp_marks Try.func33 rfl trivial ?_ rfl
  unfold ev
  simp only [Try.ntmps33, List.size_toArray, List.length_cons, List.length_nil, Nat.reduceAdd, Nat.reduceSub, Array.replicate_succ, Array.replicate_zero, List.push_toArray, List.append_toArray, List.nil_append, List.cons_append]
  gi_wp2_with fail
  refine ⟨trivial, ?_⟩
  refine stk4 (M := fun W => CallsIn _ _ _ _ _ W _) fun W hB hz b1 b2 b3 b4 => ?_
  have hW : W.heap.size = w.heap.size + 1 + 1 + 1 + 1 := hz.out
  clear hz
  refine (callsIn_wide.2 (gSteps v A gs.length cap AC gs.length capC d W)).mono ?_
  rintro e w2 ⟨rfl, rfl⟩
  gi_wp2_with fail
  refine stk3 (M := fun W => Code.wpIn _ _ _ _ _ _ W) fun X hBX hzX c1 c2 c3 => ?_
  have hX : X.heap.size = W.heap.size + 1 + 1 + 1 := hzX.out
  have b3X := b3.keep hBX
  have b4X := b4.keep hBX
  have hBw := hB.trans (hBX.mono hB.size)
  have HG2 := HG.out.keep hBw
  have HC2 := Rd.keep HC.out hBw
  rw [hW] at *
  clear b1 b2 b3 b4 hBX hB hzX
  refine wpIn_seqW (wSteps v gs cs d w.heap.size (w.heap.size + 4) 0 (.slice A gs.length cap) (.slice AC gs.length capC) 2 (by decide) X HG2 (by rw [HL.out]; exact HC2) HL.out hgl hd hd1 c1 c2 c3 (by omega)) (Below.refl _ _) (by decide) rfl (enters_of Try.func81 (by kernel_rfl) rfl) (by omega) (fun g hg => by unfold StS6 at hg; omega)
    (fun pre V => Blk V (w.heap.size + 3) 85 (stc (lastS v pre)) ∧ Blk V (w.heap.size + 2) 43 #[.int .u64 0, .int .u64 0] ∧ Below w.heap.size w V ∧ X.heap.size ≤ V.heap.size)
    ?hI1 ?hI2 ?hI3 ?h0 9 85 stc ?assign ?body ?done
  case hI1 => exact fun s A B h hb => ⟨h.1.keep hb, h.2.1.keep hb, h.2.2.1.trans (hb.mono h.2.2.1.size), Nat.le_trans h.2.2.2 hb.size⟩
  case hI2 => exact fun s A B h hp => ⟨hp.blk h.1 (by omega), hp.blk h.2.1 (by omega), below_put h.2.2.1 hp (by omega), by rw [hp.size]; exact h.2.2.2⟩
  case hI3 => exact fun s V l o hl h => ⟨(World.putObj_heap_other (by omega)).trans h.1, (World.putObj_heap_other (by omega)).trans h.2.1, below_putObj h.2.2.1 l o (by omega), by simpa using h.2.2.2⟩
  case h0 => exact ⟨b4X, b3X, hBw, Nat.le_refl _⟩
  case assign =>
    intro l x V K hK
    simp only [stv, stc, List.setIfInBounds_toArray, List.set_cons_succ, List.set_cons_zero] at hK ⊢
    gi_wp2_with fail
    exact hK _ _ rfl rfl
  case body =>
    rintro l pre x Bx V a' rfl ⟨q1, q2, q3, q4⟩ hBx bX hlt
    simp only [stv, stc, List.setIfInBounds_toArray, List.set_cons_succ, List.set_cons_zero] at q1 bX ⊢
    have e1 := bX.cell
    have e2 := q1.frozen
    have e3 := q1.cell
    gi_wp2_with fail
    have hp : Put V (((V.setCell ⟨w.heap.size + 1 + 1 + 1, 0, none⟩ (.int .u64 (fv x.1.a))).setCell ⟨w.heap.size + 1 + 1 + 1, 1, none⟩ (.int .u64 (fv x.1.b))).setCell ⟨w.heap.size + 1 + 1 + 1, 2, none⟩ (.int .i64 x.2)) (w.heap.size + 1 + 1 + 1) := ((Put.set _ _ _ _).trans (Put.set _ _ _ _)).trans (Put.set _ _ _ _)
    refine ⟨((KeepsOthers.setCell _ _ _).trans (KeepsOthers.setCell _ _ _)).trans (KeepsOthers.setCell _ _ _), ⟨by rw [hp.size]; exact Nat.le_refl _, fun g hg _ => hp.other g (by unfold StS6 at hg; omega)⟩, ?_, hp.blk q2 (by omega), below_put q3 hp (by omega), by have := hp.size; omega⟩
    · rw [lastS_snoc]
      exact ((q1.set_ 0 _).set_ 1 _).set_ 2 _
  case done =>
    intro D V hD ⟨q1, q2, q3, q4⟩ hK
    rw [← HXS.out] at q1
    simp only [stc] at q1
    generalize lastS v xs = y at *
    have hop := open_wide Try.prog
    have f1 := gw_blk q1
    have hm : Try.prog.follows .mixedOrders = true := by kernel_rfl
    have e1 := q1.cell
    have e2 := q2.frozen
    have e3 := q2.cell
    clear f1
    gi_wp2_with fail
    gi_region
    obtain ⟨Z, hZ⟩ : ∃ Z, ((V.setCell ⟨w.heap.size + 1 + 1, 0, none⟩ (.int .u64 (fv y.1.a))).setCell ⟨w.heap.size + 1 + 1, 1, none⟩ (.int .u64 (fv y.1.b))).drew = Z := ⟨_, rfl⟩
    rw [hZ]
    have hpz : Put V ((V.setCell ⟨w.heap.size + 1 + 1, 0, none⟩ (.int .u64 (fv y.1.a))).setCell ⟨w.heap.size + 1 + 1, 1, none⟩ (.int .u64 (fv y.1.b))) (w.heap.size + 1 + 1) := (Put.set _ _ _ _).trans (Put.set _ _ _ _)
    have bZ : Blk Z (w.heap.size + 1 + 1) 43 #[.int .u64 (fv y.1.a), .int .u64 (fv y.1.b)] := by rw [← hZ]; exact blk_set2 q2
    have hBZ : Below w.heap.size w Z := by rw [← hZ]; exact (below_put q3 hpz (by omega)).drew
    have hKZ : Z.heap[D]? = some (.deferred (some [])) := by rw [← hZ]; exact (hpz.other D (by omega)).trans hK
    clear e1 e2 e3 hpz hZ q1 q2
    gi_wp2_with fail
    have hne : D ≠ w.heap.size + 1 + 1 := by omega
    refine ⟨by simp, .inl ⟨_, _, rfl, run_takeDeferred hKZ, ?_⟩⟩
    have bZ' : Blk (Z.putObj D (.deferred none)) (w.heap.size + 1 + 1) 43 #[.int .u64 (fv y.1.a), .int .u64 (fv y.1.b)] := (World.putObj_heap_other (Ne.symm hne)).trans bZ
    have e4 := bZ'.cell
    refine ⟨.tuple #[.agg #[.int .u64 (fv y.1.a), .int .u64 (fv y.1.b)], .int .i64 y.2], ?_, ?_⟩
    · simp [results, Try.results33, go_sem, e4]
    · exact ⟨rfl, below_putObj hBZ D _ (by omega)⟩
theorem gVerify (v : E) (gs : List (List E)) (cs : List E) (d : Int) (hd : -9223372036854775808 ≤ d ∧ d < 9223372036854775808) (hgl : gs.length ≤ 1000) (vr vc : Value) (lo hi lo2 hi2 : Nat) (w : World) (hg : TabS lo hi w vr gs) (hc : ExtS lo2 hi2 w vc cs) :
    Calls Try.prog 33 #[ev v, vr, .agg #[vc, .int .i64 d]] w (Ret (.tuple #[ev (vrfE d v gs cs).1, .int .i64 (vrfE d v gs cs).2]) w) := by
  by_cases hbad : d < 1 ∨ 3 < d ∨ gs.length ≠ cs.length
  · rw [show vrfE d v gs cs = (0, 1) from if_pos hbad]
    exact gVerifyArg v gs cs d hd hbad vr vc lo hi lo2 hi2 w hg hc
  · rw [show vrfE d v gs cs = lastS v (stepsL d.toNat v gs cs) from if_neg hbad]
    obtain ⟨n, rfl⟩ : ∃ n : Nat, d = (n : Int) := ⟨d.toNat, by omega⟩
    exact gVerifyOk v gs cs n (by omega) (by omega) (by omega) hgl vr vc lo hi lo2 hi2 w hg hc
end Go.Proofs.Ytilelegcniefcaa
