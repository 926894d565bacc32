/-
  The reference's Push, by contract.
-/
import Derived.Test.YtoiampgfnidfdaaGreatDoorSeq
import Derived.Test.YtoiampgfnidfdaaGreatDoorSs
import Derived.Test.YtoiampgfnidfdaaGreatDoorVsm26
import Derived.Test.YtoiampgfnidfdaaGreatDoorSpd26
import Derived.Test.YtoiampgfnidfdaaGreatDoorRc26
import Derived.Test.YtoiampgfnidfdaaGreatDoorRo26
import Derived.Test.YtoiampgfnidfdaaGreatDoorGu4
set_option maxRecDepth 100000
set_option maxHeartbeats 8000000
namespace Go.Proofs.YtoiampgfnidfdaaGreatDoor
open Go.RowKit

theorem rAccumulate (v d : E) (i : Nat) (p : List E) (hi : i ≤ 1000000) (hp : p.length ≤ 60) (vp : Value) (lo hi' : Nat) (w : World) (h : ExtS lo hi' w vp p) :
  Calls Tryz.prog 108 #[ev v, .int .i64 i, ev d, vp] w (Ret (ev (v + d * eqi i p)) w) := by
 unfold ev
 go_enter Tryz.func108, Tryz.ntmps108
 go_wp2
 refine J26 fun W hB hz b1 b2 b3 => ?_
 have h2 := Rd.keep h hB
 have c1 := gw_blk b1
 have c2 := gw_blk b2
 refine Jd 7 [(4, Spec.val (.agg #[.int .u64 (fv (eqi i p).a), .int .u64 (fv (eqi i p).b)])), (5, Spec.val (.agg #[.int .u64 (fv (d * eqi i p).a), .int .u64 (fv (d * eqi i p).b)])), (6, Spec.val (.agg #[.int .u64 (fv (v + d * eqi i p).a), .int .u64 (fv (v + d * eqi i p).b)]))] (by kernel_rfl) (by kernel_rfl) (by kernel_rfl) trivial ?_
 iterate 4 (refine rg_det rfl rfl rfl (fun K hK => ?_); go_big_quiet_op; refine hK _ ?_; clear hK K)
 refine rg_val rfl rfl (fun W1 hW1 hF => J7 J5a (mEqIndexR i p hi hp _ lo hi' W1 (Rd.keep h2 (J8 hW1))) rfl rfl) ?_
 intro a' ha
 simp only [PutS] at ha
 subst ha
 refine rg_val rfl rfl (fun W1 hW1 hF => J7 J1x (xMul d (eqi i p) W1) rfl rfl) ?_
 intro a' ha
 simp only [PutS] at ha
 subst ha
 refine rg_val rfl rfl (fun W1 hW1 hF => J7 J2m (xAdd v (d * eqi i p) W1) rfl rfl) ?_
 intro a' ha
 simp only [PutS] at ha
 subst ha
 refine rg_nil (fun w' hw' hF => ?_)
 obtain ⟨z, rfl⟩ := hw'
 simp only [List.drop_succ_cons, List.drop_zero]
 have e1 := (b3.gw z).cell
 have e2 := (b3.gw z).frozen
 go_wp2
 refine bodyPost_ret (v := .agg #[.int .u64 (fv (v + d * eqi i p).a), .int .u64 (fv (v + d * eqi i p).b)]) (by simp [results, Tryz.results108, go_sem, e1]) rfl ⟨rfl, ?_⟩
 exact ((hB.trans (z.h.mono hB.size)).setCell (by show w.heap.size ≤ w.heap.size + 1 + 1; omega) _).setCell (by show w.heap.size ≤ w.heap.size + 1 + 1; omega) _

theorem J95 {α : Type} (f : α → List Nat) (B : Nat) : ∀ l : List α, (∀ x ∈ l, (f x).length ≤ B) → (l.flatMap f).length ≤ l.length * B
 | [], _ => by simp
 | x :: l, h => by
  rw [List.flatMap_cons, List.length_append, List.length_cons, Nat.succ_mul]
  have h1 := h x (List.mem_cons_self ..)
  have h2 := J95 f B l fun y hy => h y (List.mem_cons_of_mem _ hy)
  omega
theorem Jii {s : St26} {k : Nat} (h : StOk26 k s) (hk : k ≤ 100) (hp : ∀ (i : Nat) e, s.1.eps[i]? = some e → ∀ d ∈ e.peaks, DgOk d) : (encM s.1).length ≤ 900000 := by
 have h1 : (s.1.eps.flatMap epB).length ≤ s.1.eps.length * 1000 := by
  refine J95 _ _ _ fun e he => ?_
  obtain ⟨i, hi⟩ := List.getElem?_of_mem he
  obtain ⟨l, _, hE⟩ := h.epk hi
  have h2 : (e.pts.flatMap ptB).length ≤ e.pts.length * 81 := by
   refine J95 _ _ _ fun p hp => ?_
   obtain ⟨j, hj⟩ := List.getElem?_of_mem hp
   have hv := (hE.pt j p hj).2.1
   have h3 : (p.V.flatMap extB).length ≤ p.V.length * 16 := J95 _ _ _ fun x _ => by simp [extB, leB]
   have h4 : p.V.length = 5 := by rw [hv]; simp [valsM]
   rw [ptB, List.length_cons]
   omega
  have h5 : (e.peaks.flatMap id).length ≤ e.peaks.length * 32 := J95 _ _ _ fun d hd => by rw [show (id d : List Nat) = d from rfl, (hp i e hi d hd).1]; exact Nat.le_refl _
  have h6 := hE.pkl
  have h7 := (ones8 ⟨e.count, by omega⟩).1
  dsimp only at h7
  have h8 := hE.p4
  have h9 : e.peaks.flatten.length ≤ e.peaks.length * 32 := by rw [← List.flatMap_id]; exact h5
  simp only [epB, List.length_cons, List.length_append, List.length_nil, leB, List.length_map, List.length_range]
  omega
 have h2 := h.eps
 have h3 := h.seed.1
 simp only [encM, List.length_cons, List.length_append, leB, List.length_map, List.length_range]
 omega
theorem Jex {v : Value} {es : List Ep} {w : World} (h : EpsA w v es) : ∀ (i : Nat) e, es[i]? = some e → ∀ d ∈ e.peaks, DgOk d := fun i e he => by
 obtain ⟨us, h1, h2⟩ := h
 obtain ⟨u, e', _, he', hR⟩ := h2.get (List.getElem?_eq_some_iff.1 he).1
 obtain rfl : e' = e := Option.some.inj (he'.symm.trans he)
 exact hR.2.2.2
theorem J4u {P : Program} {o : Oper} {a : Act} {w : World} {e : TypeId} {ie : TypeInfo} {z : Value} (hie : P.info? e = some ie) (hz : ie.zero = some z) (ho : o.op = .alloc e) :
  stepAt P o a w (fun v w' => ∃ g, v = .pointer (some ⟨g, 0, none⟩) ∧ w.heap.size = g ∧ Blk w' g e z.cells ∧ Below g w w') :=
 Jb (fun v w' h => by
  obtain ⟨h1, rfl⟩ := h
  exact ⟨_, h1, rfl, World.alloc_heap_new w _, (Below.refl _ w).alloc (Nat.le_refl _) _⟩) (Jl hie hz ho)
section
open Go.RowKit

theorem J3h : En Tryz.prog 63 := enters_of Tryz.func63 (by kernel_rfl) rfl
def AdI (N : Nat) (bs : Bse) (w : World) (u : PtW) (p : Pt) : Prop := ExB bs u.r p.R ∧ u.u = p.used ∧ p.V.length = 5 ∧ ∃ g cap rest, u.v = .slice (some ⟨g, 0, none⟩) 5 cap ∧ 5 ≤ cap ∧ N ≤ g ∧ Blk w g 86 (p.V.flatMap ec ++ rest).toArray
def AdB (N : Nat) (bs : Bse) (w : World) (v : Value) (ps : List Pt) : Prop := ∃ us : List PtW, w.ownsRow N 80 3 v us.length (us.flatMap ptc) ∧ Al (AdI N bs w) us ps
theorem AdI.keep {N : Nat} {bs : Bse} {w X : World} {u : PtW} {p : Pt} (h : AdI N bs w u p) (hb : Below w.heap.size w X) : AdI N bs X u p := by
 obtain ⟨h1, h2, h3, g, cap, rest, h4, h5, h6, h7⟩ := h
 exact ⟨h1, h2, h3, g, cap, rest, h4, h5, h6, h7.keep hb⟩
theorem AdB.keep {N : Nat} {bs : Bse} {w X : World} {v : Value} {ps : List Pt} (h : AdB N bs w v ps) (hb : Below w.heap.size w X) : AdB N bs X v ps := by
 obtain ⟨us, h1, h2⟩ := h
 exact ⟨us, Jq h1 (Nat.le_refl _) hb, h2.mono fun _ _ h => h.keep hb⟩
theorem AdB.len {N : Nat} {bs : Bse} {w : World} {v : Value} {ps : List Pt} (h : AdB N bs w v ps) : ∃ A cap, v = .slice A ps.length cap := by
 obtain ⟨us, h1, h2⟩ := h
 rw [← h2.1]
 exact Jy h1
theorem AdB.snoc {N : Nat} {bs : Bse} {w X : World} {v v' : Value} {us : List PtW} {ps : List Pt} {u : PtW} {p : Pt} (h1 : w.ownsRow N 80 3 v us.length (us.flatMap ptc)) (h2 : Al (AdI N bs w) us ps) (hu : AdI N bs w u p) (ho : X.ownsRow N 80 3 v' (us.length + 1) (us.flatMap ptc ++ ptc u)) (hgr : w.grownBy X v.ownBlock) : AdB N bs X v' (ps ++ [p]) := by
 have hk : ∀ g (cs : Array Value), Blk w g 86 cs → Blk X g 86 cs := fun g cs hh => (hgr.block g hh.lt fun e => by
  rcases h1.2 with ⟨q, _⟩ | ⟨g', cap, cur, q, _, q3, _⟩
  · rw [q] at e; cases e
  ·
   rw [q] at e
   cases e
   have hc := hh.symm.trans q3
   cases hc).trans hh
 have hm : ∀ u p, AdI N bs w u p → AdI N bs X u p := fun u p ⟨h1, h2, h3, g, cap, rest, h4, h5, h6, h7⟩ => ⟨h1, h2, h3, g, cap, rest, h4, h5, h6, hk _ _ h7⟩
 refine ⟨us ++ [u], by rw [List.length_append, List.flatMap_append]; simpa using ho, ?_⟩
 exact Al.snoc (h2.mono hm) (hm _ _ hu)
theorem AdB.pts {N : Nat} {bs : Bse} {w X : World} {v : Value} {ps : List Pt} (h : AdB N bs X v ps) (hw : bs.ok X) (hN : w.heap.size ≤ N) (hl : ps.length ≤ 1000000) : PtsB (bs.new w X) v ps := by
 obtain ⟨us, h1, h2⟩ := h
 refine ⟨us, ?_, h2.mono fun u p ⟨h1, h2, h3, g, cap, rest, h4, h5, h6, h7⟩ => ⟨fun Y hY => h1 Y ((Bse.le_new hw) Y hY), fun Y hY => ?_, h2⟩⟩
 ·
  refine J7q h1 (by rw [h2.1]; omega) fun g hg => .inr ?_
  have := (Jk h1 hg).1
  omega
 ·
  have hb : Blk Y g 86 (p.V.flatMap ec ++ rest).toArray := (hY.2 g ⟨.inr (by omega), h7.lt⟩).trans h7
  rw [h4]
  have := Jj3 (n := 5) (cap := cap) hb h3 (by decide) (Nat.zero_le g) hb.lt h5
  exact this
theorem Jij {w : World} {N n : Nat} {v : Value} {cs : List Value} (h : w.ownsRow N 86 2 v n cs) (h0 : 0 < n) : ∃ g cap rest, v = .slice (some ⟨g, 0, none⟩) n cap ∧ n ≤ cap ∧ N ≤ g ∧ Blk w g 86 (cs ++ rest).toArray := by
 obtain ⟨h1, h2⟩ := h
 rcases h2 with ⟨_, h2⟩ | ⟨g, cap, cur, rfl, r1, r2, r3, r4, r5, r6⟩
 · omega
 ·
  refine ⟨g, cap, cur.toList.drop (n * 2), rfl, r3, r1, ?_⟩
  rw [← r6, List.take_append_drop]
  exact r2
def adVs (i : Nat) (amts : List Int) (p : Pt) : List E := List.zipWith (fun v n => v + eb (fz n) * eqi i p.R) p.V amts
theorem adP_V (i : Nat) (amts : List Int) (p : Pt) : (addP i amts p).V = adVs i amts p := rfl
theorem Jgq {i : Nat} {amts : List Int} {p : Pt} (h1 : p.V.length = 5) (h2 : amts.length = 5) : (adVs i amts p).length = 5 := by simp [adVs, h1, h2]
theorem Jmy {i c : Nat} {amts : List Int} {p : Pt} {x : E} {a : Int} (hx : p.V[c]? = some x) (ha : amts[c]? = some a) : (adVs i amts p)[c]? = some (x + eb (fz a) * eqi i p.R) := by
 unfold adVs
 rw [List.getElem?_zipWith, hx, ha]
theorem Jbv : Tryz.prog.underlying 72 = some (.slice 80) := by kernel_rfl
attribute [local irreducible] wpRg keyD sha leafD pairD
theorem rAdded26 (ps : List Pt) (hpl : ps.length ≤ 1000) (i : Nat) (hi : i ≤ 1000000) (a0 a1 a2 a3 a4 : Int) (har : ∀ a ∈ [a0, a1, a2, a3, a4], -9223372036854775808 ≤ a ∧ a ≤ 9223372036854775807) (hps : ∀ p ∈ ps, p.V.length = 5 ∧ p.R.length ≤ 60) (vP : Value) (bs : Bse) (w : World) (hw : bs.ok w) (hP : PtsB bs vP ps) : Calls Tryz.prog 63 #[vP, .int .i64 (i : Int), .agg #[.int .i64 a0, .int .i64 a1, .int .i64 a2, .int .i64 a3, .int .i64 a4]] w fun r W2 => ∃ v, r = .returned v ∧ PtsB (bs.new w W2) v (ps.map (addP i [a0, a1, a2, a3, a4])) ∧ Below w.heap.size w W2 := by
 obtain ⟨us, hr, ha⟩ := hP
 have hul := ha.1
 obtain ⟨A, cap, rfl⟩ := Rd.len (hr w hw)
 obtain ⟨n, hn⟩ : ∃ n, n = us.length := ⟨_, rfl⟩
 rw [← hn] at hr ⊢
 have hn1 : n ≤ 1000 := by rw [hn, hul]; exact hpl
 obtain ⟨amts, hamts⟩ : ∃ l, l = [a0, a1, a2, a3, a4] := ⟨_, rfl⟩
 rw [← hamts] at har ⊢
 have HW := Lib.hid hw
 have HR := Lib.hid hr
 have HA := Lib.hid ha
 have HNN := Lib.hid hn
 have HNP := Lib.hid (show ps.length = n by rw [hn, hul])
 have HPS := Lib.hid hps
 have HAR := Lib.hid har
 have HAM := Lib.hid hamts
 obtain ⟨ip, hip, ip0, ip1, ip2⟩ := info_parts J5w
 obtain ⟨ix, hix, ix0, ix1, ix2⟩ := info_parts J6n
 clear hw hr ha hn hps har hamts hul hpl
 go_enter Tryz.func63, Tryz.ntmps63
 go_upto_region 2 with (fail)
 refine J1h fun W hB hz b5 b7 => ?_
 have hWs := hz.out
 have hWb : w.heap.size ≤ W.heap.size := hB.size
 obtain ⟨N, hN⟩ : ∃ N, N = w.heap.size + 1 := ⟨_, rfl⟩
 have HLF := Lib.hid (show AdB (w.heap.size + 1) bs W (.slice (some ⟨w.heap.size + 1, 0, none⟩) 0 0) [] from ⟨[], ⟨rfl, .inr ⟨w.heap.size + 1, 0, #[], rfl, Nat.le_refl _, b7, Nat.le_refl _, Nat.zero_le _, rfl, rfl⟩⟩, Al.nil⟩)
 have HB5 := Lib.hid b5
 have HBW := Lib.hid hB
 rw [← hN] at HLF ⊢
 have hNw : w.heap.size < N := by omega
 have hNW : N ≤ W.heap.size := by omega
 clear hz hB b5 b7 hWs hN
 go_upto_region 3 with (fail)
 go_loopw [7, 8] (fun q j wr => ∃ (k : Nat) (L : List Pt), k ≤ n ∧ j = .int .i64 k ∧ AdB N bs wr q L ∧ Hid (L.length = k) ∧ Hid (L = (ps.take k).map (addP i amts)) ∧ Below N W wr) (fun _ j _ => n - (intOf j).toNat)
 case atStart => exact ⟨0, [], Nat.zero_le _, rfl, HLF.out, Lib.hid rfl, Lib.hid rfl, Below.refl _ _⟩
 case round =>
  obtain ⟨k, L, hk, rfl, hlf, HLI, HLE, hBr⟩ := hrel
  have hBz := HBW.out.trans (hBr.mono (by omega))
  have hokr := HW.out.below hBz
  by_cases hlt : k < n
  rotate_left 1
  ·
   obtain rfl : k = n := by omega
   have hL : L = ps.map (addP i amts) := by
    rw [HLE.out, List.take_of_length_le (by rw [HNP.out]; exact Nat.le_refl _)]
   have hpts := hlf.pts (w := w) hokr (Nat.le_of_lt hNw) (by rw [HLI.out]; omega)
   obtain ⟨A6, c6, rfl⟩ := hlf.len
   rw [HLI.out] at hpts ⊢
   rw [hL] at hpts
   have HP := Lib.hid hpts
   clear hpts hL hlf hBr hokr
   go_wp2_with fail
   go_ret
   exact ⟨_, rfl, HP.out, hBz⟩
  obtain ⟨u, p, hu, hp, hin⟩ := HA.out.get (k := k) (by rw [HNP.out]; exact hlt)
  obtain ⟨g, off, cap', hv, hcp, hg, hcs⟩ := RdA.at J27 (by have := HR.out wr hokr; rwa [HNN.out] at this) hu
  rw [← HNN.out] at hv hcp
  cases hv
  have hrg : wr.rangeAt g (off + k * 3) (ptc u) := fun q x hj => by rw [Nat.add_assoc]; exact hcs q x hj
  obtain ⟨hV5, hR60⟩ := HPS.out p (List.mem_of_getElem? hp)
  obtain ⟨ur, uv, uu⟩ := u
  obtain ⟨hin1, hin2, hin3⟩ := hin
  dsimp only at hin1 hin2 hin3
  obtain ⟨Ar, cr, rfl⟩ := Rd.len (hin1 wr hokr)
  obtain ⟨Av, cv, rfl⟩ := Rd.len (hin2 wr hokr)
  obtain ⟨lr, hlr⟩ : ∃ x, x = p.R.length := ⟨_, rfl⟩
  rw [← hlr] at hrg hin1
  rw [hV5] at hrg hin2
  have HX1 := Lib.hid hin1
  have HX2 := Lib.hid hin2
  have HX3 := Lib.hid hin3
  have HLR := Lib.hid hlr
  have HV5 := Lib.hid hV5
  have HPK := Lib.hid hp
  have HBR := Lib.hid hBr
  have HLQ := Lib.hid hlf
  obtain ⟨A6, c6, rfl⟩ := hlf.len
  rw [HLI.out] at HLQ ⊢
  have hbrs := hBr.size
  clear hu hp hcs hin1 hin2 hin3 hlr hlf hBr hV5
  go_upto_region 5 with (fail)
  refine wp_region_lit ?_
  iterate 3 (refine wpList_plain rfl fun K hK => ?_; go_big_op; refine hK _ _ ?_; clear hK K)
  refine wpSk rfl (J1 (cs := ptc ⟨.slice Ar lr cr, .slice Av 5 cv, uu⟩) J9m rfl J6z rfl rfl hrg) fun v22 w22 hh => ?_
  obtain ⟨rfl, rfl⟩ := hh
  try simp only [PutS]
  refine wpSk rfl (J4u hip ip0 rfl) fun v9 w9 hh => ?_
  obtain ⟨g9, rfl, hg9, b9, B9⟩ := hh
  try simp only [PutS]
  have b9 : Blk w9 g9 80 #[.slice none 0 0, .slice none 0 0, .bool false] := b9
  refine J6 rfl 80 (.tmp 9) (.tmp 22) rfl rfl (cells := ptc ⟨.slice Ar lr cr, .slice Av 5 cv, uu⟩) rfl b9 (by rw [J27]; exact Nat.le_refl _) J6z rfl rfl fun Y hY bY => ?_
  have BY : Below w22.heap.size w22 Y := J2 (by rw [hg9]; exact B9) hY (by omega)
  have b9Y : Blk Y g9 80 #[.slice Ar lr cr, .slice Av 5 cv, .bool uu] := bY
  have HB22 := Lib.hid BY
  have HBY := Lib.hid (HBR.out.trans (BY.mono (by omega)))
  have hYs := BY.size
  have l9 := b9Y.lt
  clear b9 B9 hY bY BY hrg hg
  try simp only [PutS]
  go_upto_region 7 with (fail)
  refine J13 fun Z hZ hzZ b10 => ?_
  obtain ⟨M, hM⟩ : ∃ M, M = Y.heap.size := ⟨_, rfl⟩
  have hXR := Lib.hid (show Z.ownsRow Y.heap.size 86 2 (.slice (some ⟨Y.heap.size, 0, none⟩) 0 0) 0 [] from ⟨rfl, .inr ⟨Y.heap.size, 0, #[], rfl, Nat.le_refl _, b10, Nat.le_refl _, Nat.zero_le _, rfl, rfl⟩⟩)
  have HB9 := Lib.hid b9Y
  have HZY := Lib.hid hZ
  rw [← hM] at hXR ⊢
  have hMY : M ≤ Y.heap.size := by omega
  have hg9M : g9 < M := by omega
  have hZs := hZ.size
  have HMY := Lib.hid hM
  clear hzZ b10 b9Y hZ hM
  go_upto_region 8 with (fail)
  go_loopw [10, 11] (fun q j wr => ∃ (c : Nat) (xs : List E), c ≤ 5 ∧ j = .int .i64 c ∧ wr.ownsRow M 86 2 q c (xs.flatMap ec) ∧ Hid (xs.length = c) ∧ Hid (xs = (adVs i amts p).take c) ∧ Below M Z wr) (fun _ j _ => 5 - (intOf j).toNat)
  case atStart => exact ⟨0, [], Nat.zero_le _, rfl, hXR.out, Lib.hid rfl, Lib.hid rfl, Below.refl _ _⟩
  case round =>
   obtain ⟨c, xs, hc, rfl, hox, HXL, HXE, hBc⟩ := hrel
   have hYr : Below Y.heap.size Y wr := HZY.out.trans (by rw [← HMY.out]; exact hBc)
   have b9 := HB9.out.keep hYr
   have hbz := HBY.out.trans (hYr.mono (by omega))
   have hokc := HW.out.below (HBW.out.trans (hbz.mono (by omega)))
   have l9 := b9.lt
   by_cases hlc : c < 5
   rotate_left 1
   ·
    obtain rfl : c = 5 := by omega
    have hxs : xs = adVs i amts p := by
     rw [HXE.out, List.take_of_length_le (by rw [Jgq HV5.out (by rw [HAM.out]; rfl)]; exact Nat.le_refl _)]
    subst hxs
    obtain ⟨g10, c10, rest, rfl, hc10, hg10, b10⟩ := Jij hox (by decide)
    have c91 : wr.cell? ⟨g9, 1, none⟩ = some (.slice Av 5 cv) := (b9.cell 1).trans rfl
    have f9 := b9.frozen
    have BYr := HB22.out.trans (hYr.mono hYs)
    have HBYr := Lib.hid BYr
    have HB9r := Lib.hid b9
    have HB10 := Lib.hid b10
    have HBC := Lib.hid hbz
    have hsr := BYr.size
    clear hox hBc hYr b9 hbz hokc b10 BYr
    go_upto_region 12 with (fail)
    refine set1 (M := fun W => Code.wp _ _ _ _ W) HB9r.out fun V hV b9V => ?_
    have b9V : Blk V g9 80 (ptc ⟨.slice Ar lr cr, .slice (some ⟨g10, 0, none⟩) 5 c10, uu⟩).toArray := b9V
    have b10V := hV.blk HB10.out (by omega)
    have BV := J2 HBYr.out hV (by omega)
    have BVN := J2 HBC.out hV (by omega)
    have hlV := HLQ.out.keep BV
    obtain ⟨vs, o1, o2⟩ := hlV
    have hvi : vs.length = k := o2.1.trans HLI.out
    rw [hvi] at o1
    have hVs := BV.size
    have HO1 := Lib.hid o1
    have HO2 := Lib.hid o2
    have HB10V := Lib.hid b10V
    have HBVN := Lib.hid BVN
    clear hV o1 o2 c91 f9 b10V BV BVN
    refine wp_region_lit ?_
    refine wpList_plain rfl fun K hK => ?_; go_big_op; refine hK _ _ ?_; clear hK K
    refine wpSk rfl (J1 (cs := ptc ⟨.slice Ar lr cr, .slice (some ⟨g10, 0, none⟩) 5 c10, uu⟩) J9m rfl J6z rfl rfl (J4 b9V)) fun v47 w47 hh => ?_
    obtain ⟨rfl, rfl⟩ := hh
    try simp only [PutS]
    refine wpSk rfl (J15 (cs := (ptc ⟨.slice Ar lr cr, .slice (some ⟨g10, 0, none⟩) 5 c10, uu⟩).toArray) Jbv hip ip0 ip1 (by decide) (by decide) rfl rfl rfl) fun v48 w48 hh => ?_
    obtain ⟨⟨rfl, hl48, b48⟩, B48⟩ := hh
    try simp only [PutS]
    have o1 := Jq HO1.out (Nat.le_refl _) B48
    have o2 := HO2.out.mono fun _ _ h => h.keep B48
    have b10w := HB10V.out.keep B48
    have hs48 := B48.size
    refine J29 (u := .slice A6 k c6) (base := N) (n := w47.heap.size) (cl := ptc ⟨.slice Ar lr cr, .slice (some ⟨g10, 0, none⟩) 5 c10, uu⟩) (cs := vs.flatMap ptc) rfl (.tmp 46) (.tmp 48) rfl Jbv hip ip0 ip1 ip2 rfl (by decide) rfl (fun v hv => by simp only [ptc, List.mem_cons, List.not_mem_nil, or_false] at hv; rcases hv with rfl | rfl | rfl <;> rfl) rfl rfl o1 b48 (by unfold maxLen; omega) (by omega) (by omega) fun v49 w49 own49 gr49 B49 hat49 => ?_
    have hlz := AdB.snoc (u := ⟨.slice Ar lr cr, .slice (some ⟨g10, 0, none⟩) 5 c10, uu⟩) (p := addP i amts p) (by rw [hvi]; exact o1) o2 ⟨HX1.out, HX3.out, by rw [adP_V]; exact Jgq HV5.out (by rw [HAM.out]; rfl), g10, c10, rest, rfl, hc10, by omega, by rw [adP_V]; exact b10w⟩ (by rw [hvi]; exact own49) gr49
    have hBe := (HBVN.out.trans (B48.mono (by omega))).trans B49
    have HLZ := Lib.hid hlz
    have HBE := Lib.hid hBe
    clear o1 o2 b10w own49 gr49 B49 hat49 hlz hBe b48 hl48 B48 b9V hvi HO1 HO2
    try simp only [PutS]
    go_wp2_with fail
    exact ⟨⟨k + 1, _, by omega, by go_num, HLZ.out, Lib.hid (by rw [List.length_append, HLI.out]; rfl), Lib.hid (by rw [HLE.out, List.take_add_one, HPK.out]; simp), HBE.out⟩, by simp [intOf]; omega⟩
   obtain ⟨x, hx⟩ : ∃ x, p.V[c]? = some x := ⟨_, List.getElem?_eq_getElem (by rw [HV5.out]; exact hlc)⟩
   obtain ⟨a, ha⟩ : ∃ a, amts[c]? = some a := ⟨_, List.getElem?_eq_getElem (by rw [HAM.out]; exact hlc)⟩
   obtain ⟨gx, ox, cx, hv, -, -, -, hgx, q5⟩ := J32 (HX2.out wr hokc) (by rw [HV5.out]; decide)
   rw [HV5.out] at hv
   cases hv
   obtain ⟨x0, x1⟩ := q5 c x hx
   have b5 := HB5.out.below hbz hNw
   have ca : wr.cell? ⟨w.heap.size, c, none⟩ = some (.int .i64 a) := by
    rw [b5.cell]
    have h5 : (#[Value.int .i64 a0, .int .i64 a1, .int .i64 a2, .int .i64 a3, .int .i64 a4] : Array Value) = (amts.map fun a => Value.int .i64 a).toArray := by rw [HAM.out]; rfl
    rw [h5]
    simp [ha]
   obtain ⟨y, hy⟩ : ∃ y, y = x + eb (fz a) * eqi i p.R := ⟨_, rfl⟩
   obtain ⟨d, hd⟩ : ∃ d, d = eb (fz a) := ⟨_, rfl⟩
   have hyv := Jmy (i := i) hx ha
   rw [← hy] at hyv
   have HYV := Lib.hid hyv
   have hra := HAR.out a (List.mem_of_getElem? ha)
   have HFI := Lib.hid (show ∀ W1, Calls Tryz.prog 46 #[.int .i64 a] W1 (Ret (.agg #[.int .u64 (fv d.a), .int .u64 (fv d.b)]) W1) from fun W1 => by rw [hd]; exact xFromInt a hra.1 hra.2 W1)
   have HAC := Lib.hid (show ∀ W1, Below wr.heap.size wr W1 → Calls Tryz.prog 108 #[.agg #[.int .u64 (fv x.a), .int .u64 (fv x.b)], .int .i64 (i : Int), .agg #[.int .u64 (fv d.a), .int .u64 (fv d.b)], .slice Ar lr cr] W1 (Ret (.agg #[.int .u64 (fv y.a), .int .u64 (fv y.b)]) W1) from fun W1 hW => by
    rw [hy, ← hd]
    exact rAccumulate x d i p.R hi hR60 _ _ _ W1 (RdA.keep (HX1.out wr hokc) hW))
   have k0 := Je (W := wr) l9 (show wr.cell? ⟨g9, 0, none⟩ = some (.slice Ar lr cr) from (b9.cell 0).trans rfl)
   have k1 := Je (W := wr) l9 (show wr.cell? ⟨g9, 1, none⟩ = some (.slice (some ⟨gx, ox, none⟩) 5 cv) from (b9.cell 1).trans rfl)
   have kx0 := Je (W := wr) hgx x0
   have kx1 := Je (W := wr) hgx x1
   have ka := Je (W := wr) b5.lt ca
   have HOX := Lib.hid hox
   have HBC := Lib.hid hBc
   obtain ⟨A10, c10, rfl⟩ := Jy hox
   have hMr : M ≤ wr.heap.size := by have := hBc.size; omega
   clear hx ha q5 x0 x1 ca hy hd hyv hox hBc hYr b9 hbz hokc b5
   go_upto_region 10 with (fail)
   refine Jd 15 [(10, Spec.val (.agg #[.int .u64 (fv (d).a), .int .u64 (fv (d).b)])), (13, Spec.val (.agg #[.int .u64 (fv (y).a), .int .u64 (fv (y).b)])), (14, Spec.rel (Lit 86 1 #[.int .u64 (fv y.a), .int .u64 (fv y.b)]) (LitF 1))] (by kernel_rfl) (by kernel_rfl) (by kernel_rfl) ⟨J8w, trivial⟩ ?_
   iterate 10 (refine rg_det rfl rfl rfl (fun K hK => ?_); go_big_quiet_op; refine hK _ ?_; clear hK K)
   refine rg_val rfl rfl (fun W1 hW1 hF => J7 J1p (HFI.out W1) rfl rfl) ?_
   intro a' ha
   simp only [PutS] at ha
   subst ha
   iterate 2 (refine rg_det rfl rfl rfl (fun K hK => ?_); go_big_quiet_op; refine hK _ ?_; clear hK K)
   refine rg_val rfl rfl (fun W1 hW1 hF => J7 J4l (HAC.out W1 (J8 hW1)) rfl rfl) ?_
   intro a' ha
   simp only [PutS] at ha
   subst ha
   refine rg_rel rfl rfl (fun W1 hW1 hF => J15 (cs := #[.int .u64 (fv y.a), .int .u64 (fv y.b)]) Tryz.underlying78 hix ix0 ix1 (by decide) (by decide) rfl rfl rfl) ?_
   intro n14 m14 v14 hn14 hm14 hd14 hf14 a' ha
   simp only [PutS] at ha
   subst ha
   obtain rfl := hf14
   refine rg_nil (fun w' hw' hF => ?_)
   obtain ⟨z, rfl⟩ := hw'
   simp only [List.drop_succ_cons, List.drop_zero]
   obtain ⟨hm14, -, hl14, b14⟩ := J30 hF
   have oz := Jq HOX.out (Nat.le_refl _) z.h
   have hzs := z.h.size
   clear hF k0 k1 kx0 kx1 ka
   refine J29 (u := .slice A10 c c10) (base := M) (n := n14) (cl := ec y) (cs := xs.flatMap ec) rfl (.tmp 28) (.tmp 42) rfl Tryz.underlying78 hix ix0 ix1 ix2 rfl (by decide) rfl (ec_one y) rfl rfl oz b14 (by unfold maxLen; omega) (by omega) (by omega) fun v43 w43 own43 gr43 B43 hat43 => ?_
   have o3 : w43.ownsRow M 86 2 v43 (c + 1) ((xs ++ [y]).flatMap ec) := by rw [List.flatMap_append]; simpa using own43
   have hBe := (HBC.out.trans (z.h.mono hMr)).trans B43
   have HO3 := Lib.hid o3
   have HBE := Lib.hid hBe
   clear own43 gr43 B43 hat43 oz b14 o3 hBe HOX
   try simp only [PutS]
   go_wp2_with fail
   exact ⟨⟨c + 1, xs ++ [y], by omega, by go_num, HO3.out, Lib.hid (by rw [List.length_append, HXL.out]; rfl), Lib.hid (by rw [HXE.out, List.take_add_one, HYV.out]; rfl), HBE.out⟩, by simp [intOf]; omega⟩
end
section
open Go.RowKit

theorem J6h : En Tryz.prog 71 := enters_of Tryz.func71 (by kernel_rfl) rfl
theorem J6a : En Tryz.prog 23 := enters_of Tryz.func23 (by kernel_rfl) rfl
theorem Jcb {ps : List Dg} (h : ∀ d ∈ ps, DgOk d) : DgOk (bagN pairD ps) := by
 induction ps with
 | nil => exact ⟨rfl, fun x hx => by rw [(List.mem_replicate.1 hx).2]; decide⟩
 | cons d r ih =>
  rcases r with _ | ⟨q, r⟩
  · exact h d (List.mem_cons_self ..)
  · exact J2c _ _
theorem Jkt {ps : List Dg} {k : Nat} {d : Dg} (hd : ps[k]? = some d) (hk : k + 1 < ps.length) : bagN pairD (ps.drop k) = pairD d (bagN pairD (ps.drop (k + 1))) := by
 have hl : k < ps.length := by omega
 rw [List.drop_eq_getElem_cons hl, Jd3 _ _ (fun h => by have := congrArg List.length h; rw [List.length_drop] at this; simp at this; omega)]
 rw [List.getElem?_eq_getElem hl] at hd
 rw [Option.some.inj hd]
theorem Jku {ps : List Dg} {k : Nat} {d : Dg} (hd : ps[k]? = some d) (hk : k + 1 = ps.length) : bagN pairD (ps.drop k) = d := by
 have hl : k < ps.length := by omega
 rw [List.drop_eq_getElem_cons hl, List.drop_eq_nil_of_le (by omega)]
 rw [List.getElem?_eq_getElem hl] at hd
 rw [Option.some.inj hd]
 rfl
attribute [local irreducible] wpRg keyD sha leafD pairD
theorem rBag08 (ps : List Dg) (hps : ps.length ≤ 1000) (v : Value) (w : World) (hv : DgsA w v ps) : Calls Tryz.prog 71 #[v] w (Ret (dgv (bagN pairD ps)) w) := by
 obtain ⟨A, cap, rfl⟩ := hv.len
 have HV := Lib.hid hv
 obtain ⟨iD, hiD, iD0, iD1, iD2⟩ := info_parts J2b
 obtain ⟨n, hn⟩ : ∃ n, n = ps.length := ⟨_, rfl⟩
 rw [← hn] at HV hps ⊢
 have HN := Lib.hid hn
 clear hv hn
 go_enter Tryz.func71, Tryz.ntmps71
 go_upto_region 1 with (fail)
 refine J13 fun W hB hz b2 => ?_
 obtain ⟨cs0, hcs0, b2'⟩ : ∃ cs : Array Value, cs.size = 32 ∧ Blk W w.heap.size 23 cs := ⟨_, rfl, b2⟩
 clear hz b2
 rcases Nat.eq_zero_or_pos n with h0 | h0
 ·
  subst h0
  have hp : ps = [] := List.eq_nil_of_length_eq_zero HN.out.symm
  subst hp
  go_upto_region 2 with (fail)
  refine wp_region_lit ?_
  refine wpSk rfl (J6y rfl) fun v8 w8 hh => ?_
  obtain ⟨rfl, rfl⟩ := hh
  try simp only [PutS]
  refine J6 rfl 23 (.tmp 2) (.tmp 8) rfl rfl (cells := byc (List.replicate 32 0)) rfl b2' (by rw [hcs0]; exact Nat.le_refl 32) (by rw [Jc]; rfl) (Jw _) (Ja _ _ (by rw [hcs0]; rfl)) fun X hX bX => ?_
  have hBX := J2 hB hX (Nat.le_refl _)
  clear b2' hX
  try simp only [PutS]
  go_wp2_with fail
  exact bodyPost_ret (v := dgv (List.replicate 32 0)) (Jv (cs := byc (List.replicate 32 0)) (g := w.heap.size) rfl rfl Jg rfl (by rw [Jc]; rfl) bX) rfl ⟨rfl, hBX⟩
 obtain ⟨q, rfl⟩ : ∃ q, n = q + 1 := ⟨n - 1, by omega⟩
 obtain ⟨d, hd⟩ : ∃ d, ps[q]? = some d := ⟨_, List.getElem?_eq_getElem (by rw [← HN.out]; omega)⟩
 obtain ⟨g, off, cap', hvv, hcp, hg, hr, hpo⟩ := (HV.out.keep hB).at hd
 rw [← HN.out] at hvv hcp
 cases hvv
 have hla := Jku hd HN.out
 have hq1 : wrap64 ((q : Int) + 1 - 1) = (q : Int) := by unfold wrap64; omega
 have hq2 : wrap64 ((q : Int) + 1 - 2) = (q : Int) - 1 := by unfold wrap64; omega
 have HLA := Lib.hid hla
 clear hd hla h0
 go_upto_region 3 with (fail)
 refine wp_region_lit ?_
 iterate 5 (refine wpList_plain rfl fun K hK => ?_; go_big_op; refine hK _ _ ?_; clear hK K)
 refine wpSk rfl (J1 (cs := byc d) Jg rfl (by rw [Jc, J3, hpo.1]) rfl rfl hr) fun v14 w14 hh => ?_
 obtain ⟨rfl, rfl⟩ := hh
 try simp only [PutS]
 refine wpSk rfl (Jl hiD iD0 rfl) fun v3 w3 hh => ?_
 obtain ⟨rfl, rfl⟩ := hh
 try simp only [PutS]
 have b3 : Blk (w14.alloc (.cells (Value.agg (zb 32).toArray).cells 23)) w14.heap.size 23 (zb 32).toArray := World.alloc_heap_new w14 _
 have B3 := (Below.refl _ w14).alloc (Nat.le_refl _) (.cells (Value.agg (zb 32).toArray).cells 23)
 generalize w14.alloc (.cells (Value.agg (zb 32).toArray).cells 23) = w3 at *
 refine J6 rfl 23 (.tmp 3) (.tmp 14) rfl rfl (cells := byc d) rfl b3 (by rw [J3, hpo.1]; decide) (by rw [Jc, J3, hpo.1]) (Jw _) (Ja _ _ (by rw [J3, hpo.1]; rfl)) fun X hX bX => ?_
 have BX : Below w14.heap.size w14 X := J2 B3 hX (Nat.le_refl _)
 have b2X := b2'.keep BX
 have hBX := hB.trans (BX.mono hB.size)
 obtain ⟨g3, hg3⟩ : ∃ g, g = w14.heap.size := ⟨_, rfl⟩
 rw [← hg3] at bX ⊢
 have hg3' : w.heap.size < g3 := by have := b2'.lt; omega
 have HBX := Lib.hid hBX
 have HB2 := Lib.hid b2X
 rw [← HLA.out] at bX
 have HB3 := Lib.hid bX
 have hgw : w14.heap.size ≤ X.heap.size := BX.size
 have HVX := Lib.hid (HV.out.keep hBX)
 clear b3 B3 hX BX hg3 b2' hB hg hr b2X hBX bX
 try simp only [PutS]
 go_upto_region 5 with (fail)
 rw [show (q : Int) + 1 - 2 = (q : Int) - 1 by omega]
 go_loopw [4] (fun i wr => ∃ k : Nat, k ≤ q ∧ i = .int .i64 ((k : Int) - 1) ∧ Blk wr g3 23 (byc (bagN pairD (ps.drop k))).toArray ∧ Below g3 X wr) (fun i _ => (intOf i + 1).toNat)
 case atStart => exact ⟨q, Nat.le_refl _, rfl, HB3.out, Below.refl _ _⟩
 case round =>
  obtain ⟨k, hk, rfl, b3, hBr⟩ := hrel
  have hbo : DgOk (bagN pairD (ps.drop k)) := Jcb fun x hx => HV.out.2 x (List.mem_of_mem_drop hx)
  have hBz := HBX.out.trans (hBr.mono (Nat.le_of_lt hg3'))
  have b2 := HB2.out.below hBr hg3'
  rcases k with _ | j
  ·
   rw [List.drop_zero] at b3 hbo
   rw [show ((0 : Nat) : Int) - 1 = -1 by omega]
   go_upto_region 8 with (fail)
   refine wp_region_lit ?_
   refine wpSk rfl (J1 (cs := byc (bagN pairD ps)) Jg rfl (by rw [Jc, J3, hbo.1]) rfl rfl (J4 b3)) fun v28 w28 hh => ?_
   obtain ⟨rfl, rfl⟩ := hh
   try simp only [PutS]
   refine J6 rfl 23 (.tmp 2) (.tmp 28) rfl rfl (cells := byc (bagN pairD ps)) rfl b2 (by rw [hcs0, J3, hbo.1]; exact Nat.le_refl 32) (by rw [Jc, J3, hbo.1]) (Jw _) (Ja _ _ (by rw [hcs0, J3, hbo.1])) fun Y hY bY => ?_
   have hBY := J2 hBz hY (Nat.le_refl _)
   clear b2 b3 hY
   try simp only [PutS]
   go_wp2_with fail
   exact bodyPost_ret (v := dgv (bagN pairD ps)) (Jv (cs := byc (bagN pairD ps)) (g := w.heap.size) rfl rfl Jg rfl (by rw [Jc, J3, hbo.1]) bY) rfl ⟨rfl, hBY⟩
  rw [show (((j + 1 : Nat) : Int)) - 1 = (j : Int) by omega]
  obtain ⟨e, he⟩ : ∃ d, ps[j]? = some d := ⟨_, List.getElem?_eq_getElem (by rw [← HN.out]; omega)⟩
  obtain ⟨g', off', cap', hvv, hcp', hg, hr, heo⟩ := (HV.out.keep hBz).at he
  rw [← HN.out] at hvv hcp'
  cases hvv
  have hbd := Jkt he (by rw [← HN.out]; omega)
  have HBD := Lib.hid hbd
  have HRR := Lib.hid hr
  have HB3r := Lib.hid b3
  have HBR := Lib.hid hBr
  have hg3r := b3.lt
  obtain ⟨acc, hacc⟩ : ∃ x, x = bagN pairD (ps.drop (j + 1)) := ⟨_, rfl⟩
  rw [← hacc] at HBD HB3r hbo
  have hpk := J2c e acc
  have hw1 : wrap64 ((j : Int) - 1) = (j : Int) - 1 := by unfold wrap64; omega
  clear he hbd hr b3 hBr b2 hBz hacc
  go_upto_region 7 with (fail)
  refine Jd 6 [(3, Spec.val (dgv e)), (4, Spec.val (dgv acc)), (5, Spec.val (dgv (pairD e acc)))] (by kernel_rfl) (by kernel_rfl) (by kernel_rfl) trivial ?_
  iterate 3 (refine rg_det rfl rfl rfl (fun K hK => ?_); go_big_quiet_op; refine hK _ ?_; clear hK K)
  refine rg_val rfl rfl (fun W1 hW1 hF => Jf (cs := byc e) Jg rfl (by rw [Jc, J3, heo.1]) rfl rfl (Jr HRR.out hg (J8 hW1))) ?_
  intro a' ha
  simp only [PutS] at ha
  subst ha
  refine rg_val rfl rfl (fun W1 hW1 hF => Jf (cs := byc acc) Jg rfl (by rw [Jc, J3, hbo.1]) rfl rfl (J4 (HB3r.out.keep (J8 hW1)))) ?_
  intro a' ha
  simp only [PutS] at ha
  subst ha
  refine rg_val rfl rfl (fun W1 hW1 hF => J7 J3o (rPair e acc heo hbo W1) rfl rfl) ?_
  intro a' ha
  simp only [PutS] at ha
  subst ha
  refine rg_nil (fun w' hw' hF => ?_)
  obtain ⟨z, rfl⟩ := hw'
  simp only [List.drop_succ_cons, List.drop_zero]
  clear hF
  have b3z := HB3r.out.keep z.h
  refine J6 rfl 23 (.tmp 3) (.tmp 27) rfl rfl (cells := byc (pairD e acc)) rfl b3z (by rw [List.size_toArray, J3, J3, hpk.1, hbo.1]; exact Nat.le_refl _) (by rw [Jc, J3, hpk.1]) (Jw _) (Ja _ _ (by rw [List.size_toArray, J3, J3, hpk.1, hbo.1])) fun Y hY bY => ?_
  have hBY := J2 (HBR.out.trans (z.h.mono (Nat.le_of_lt hg3r))) hY (Nat.le_refl _)
  rw [← HBD.out] at bY
  have HBY := Lib.hid bY
  clear b3z hY bY
  try simp only [PutS]
  go_wp2_with fail
  exact ⟨⟨j, by omega, rfl, HBY.out, hBY⟩, by simp [intOf]⟩
theorem rRoot26 (m : Mt) (hN : MtN m) (n : Int) (hn : -9223372036854775808 ≤ n ∧ n ≤ 9223372036854775807) (vE : Value) (w : World) (hE : EpsA w vE m.eps) : Calls Tryz.prog 23 #[mtV m vE, .int .i64 n] w (Ret (.tuple #[dgv (rootM m n).1, .int .i64 (rootM m n).2]) w) := by
 obtain ⟨S, hS⟩ : ∃ S, S = mtV m vE := ⟨_, rfl⟩
 rw [← hS]
 have HN := Lib.hid hN
 have HE := Lib.hid hE
 obtain ⟨A, cap, rfl⟩ := hE.len
 have hml := hN.eps
 clear hN hE
 go_enter Tryz.func23, Tryz.ntmps23
 go_upto_region 1 with (fail)
 refine J1h fun W hB hz b1 b2 => ?_
 have b1' : Blk W w.heap.size 35 (mtc m (.slice A m.eps.length cap)).toArray := by first | exact b1 | (rw [hS] at b1; exact b1)
 obtain ⟨cs0, hcs0, b2'⟩ : ∃ cs : Array Value, cs.size = 32 ∧ Blk W (w.heap.size + 1) 23 cs := ⟨_, rfl, b2⟩
 have hsl := HN.out.seed.1
 have c33 := J11 b1' hsl
 have l1 := b1'.lt
 clear b1 b2 hz hS
 by_cases hneg : n < 0
 ·
  have HR := Lib.hid (show rootM m n = (List.replicate 32 0, 4) by unfold rootM; rw [if_pos (.inl hneg)])
  go_upto_region 2 with (fail)
  refine wp_region_lit ?_
  refine wpSk rfl (J6y rfl) fun v10 w10 hh => ?_
  obtain ⟨rfl, rfl⟩ := hh
  try simp only [PutS]
  refine J6 rfl 23 (.tmp 4) (.tmp 15) rfl rfl (cells := byc (List.replicate 32 0)) rfl b2' (by rw [hcs0]; exact Nat.le_refl 32) (by rw [Jc]; rfl) (Jw _) (Ja _ _ (by rw [hcs0]; rfl)) fun X hX bX => ?_
  have hBX := J2 hB hX (by omega)
  clear b1' b2' hX c33
  try simp only [PutS]
  go_wp2_with fail
  refine bodyPost_ret (v := .tuple #[dgv (List.replicate 32 0), .int .i64 4]) (res_mt (c1 := byc (List.replicate 32 0)) (g1 := w.heap.size + 1) rfl rfl rfl Jg rfl (by rw [Jc]; rfl) bX) rfl ?_
  rw [HR.out]
  exact ⟨rfl, hBX⟩
 obtain ⟨k, rfl⟩ : ∃ k : Nat, n = (k : Int) := ⟨n.toNat, by omega⟩
 clear hneg
 by_cases hkl : k < m.eps.length
 rotate_left 1
 ·
  have HR := Lib.hid (show rootM m (k : Int) = (List.replicate 32 0, 4) by unfold rootM; rw [if_pos (.inr (by omega))])
  have hk2 : m.eps.length ≤ k := by omega
  go_upto_region 2 with (fail)
  refine wp_region_lit ?_
  refine wpSk rfl (J6y rfl) fun v10 w10 hh => ?_
  obtain ⟨rfl, rfl⟩ := hh
  try simp only [PutS]
  refine J6 rfl 23 (.tmp 4) (.tmp 15) rfl rfl (cells := byc (List.replicate 32 0)) rfl b2' (by rw [hcs0]; exact Nat.le_refl 32) (by rw [Jc]; rfl) (Jw _) (Ja _ _ (by rw [hcs0]; rfl)) fun X hX bX => ?_
  have hBX := J2 hB hX (by omega)
  clear b1' b2' hX c33
  try simp only [PutS]
  go_wp2_with fail
  refine bodyPost_ret (v := .tuple #[dgv (List.replicate 32 0), .int .i64 4]) (res_mt (c1 := byc (List.replicate 32 0)) (g1 := w.heap.size + 1) rfl rfl rfl Jg rfl (by rw [Jc]; rfl) bX) rfl ?_
  rw [HR.out]
  exact ⟨rfl, hBX⟩
 have HR := Lib.hid (show rootM m (k : Int) = (bagN pairD (m.at k).peaks, 0) by unfold rootM; rw [if_neg (by omega), Int.toNat_natCast])
 obtain ⟨g, off, cap', p, d, hv, hcp, hg, e0, e1, e2, e3, e4, -, hpk⟩ := (HE.out.keep hB).at (at_get m k hkl)
 cases hv
 obtain ⟨Ak, ck, rfl⟩ := hpk.len
 have hpl := (HN.out.ep _ _ (at_get m k hkl)).2.2.2
 have HPK := Lib.hid hpk
 have hbo : DgOk (bagN pairD (m.at k).peaks) := Jcb hpk.2
 clear e0 e1 e2 e3 hpk
 go_upto_region 3 with (fail)
 refine wp_region_lit ?_
 iterate 6 (refine wpList_plain rfl fun K hK => ?_; go_big_op; refine hK _ _ ?_; clear hK K)
 refine wpSk rfl (J7 J6h (rBag08 (m.at k).peaks hpl _ W HPK.out) rfl rfl) fun v17 w17 hh => ?_
 obtain ⟨rfl, B17⟩ := hh
 try simp only [PutS]
 have b2x := b2'.keep B17
 have hBx := hB.trans (B17.mono hB.size)
 refine J6 rfl 23 (.tmp 4) (.tmp 22) rfl rfl (cells := byc (bagN pairD (m.at k).peaks)) rfl b2x (by rw [J3, hbo.1, hcs0]; decide) (by rw [Jc, J3, hbo.1]) (Jw _) (Ja _ _ (by rw [J3, hbo.1, hcs0])) fun X hX bX => ?_
 have hBX := J2 hBx hX (by omega)
 clear b1' b2' b2x hX c33 e4 B17 hB
 try simp only [PutS]
 go_wp2_with fail
 refine bodyPost_ret (v := .tuple #[dgv (bagN pairD (m.at k).peaks), .int .i64 0]) (res_mt (c1 := byc (bagN pairD (m.at k).peaks)) (g1 := w.heap.size + 1) rfl rfl rfl Jg rfl (by rw [Jc, J3, hbo.1]) bX) rfl ?_
 rw [HR.out]
 exact ⟨rfl, hBX⟩
end
section
open Go.RowKit

theorem J6b : En Tryz.prog 64 := enters_of Tryz.func64 (by kernel_rfl) rfl
theorem Jkv {w : World} {N size n k : Nat} {e : TypeId} {A : Option Addr} {cap : Nat} {cs : List Value} (h : w.ownsRow N e size (.slice A n cap) n cs) (hk : k ≤ n) : w.ownsRow N e size (.slice A k cap) k (cs.take (k * size)) := by
 obtain ⟨h1, h2⟩ := h
 refine ⟨by rw [List.length_take, h1]; exact Nat.min_eq_left (Nat.mul_le_mul_right _ hk), ?_⟩
 rcases h2 with ⟨q, rfl⟩ | ⟨g, c, cur, q, r1, r2, r3, r4, r5, r6⟩
 ·
  cases q
  exact .inl ⟨by rw [Nat.le_zero.1 hk], by omega⟩
 ·
  cases q
  refine .inr ⟨g, cap, cur, rfl, r1, r2, by omega, r4, r5, ?_⟩
  rw [← r6, List.take_take, Nat.min_eq_left (Nat.mul_le_mul_right _ hk)]
attribute [local irreducible] wpRg keyD sha leafD pairD
theorem rPush08 (ps : List Dg) (hps : ps.length ≤ 1000) (c : Nat) (hc : c ≤ 1000000) (ht : tz1 c ≤ ps.length) (b : List Nat) (hb : b.length ≤ 900000) (hb8 : ∀ x ∈ b, x < 256) (v vb : Value) (lo hi : Nat) (w : World) (hv : DgsA w v ps) (hvb : ByS lo hi w vb b) :
  Calls Tryz.prog 64 #[v, .int .i64 (c : Int), vb] w (RetR (OwR 23 32 (ps.length - tz1 c + 1) ((pushN pairD (tz1 c) ps (leafD b)).flatMap byc)) w) := by
 obtain ⟨A, cap, rfl⟩ := hv.len
 have HV := Lib.hid hv
 have HVB := Lib.hid hvb
 have H8 := Lib.hid hb8
 obtain ⟨iD, hiD, iD0, iD1, iD2⟩ := info_parts J2b
 have HF := Lib.hid (J67 (tz1 c) ps (leafD b) ht)
 obtain ⟨t, hT⟩ : ∃ t, t = tz1 c := ⟨_, rfl⟩
 have HT := Lib.hid hT
 rw [← hT] at ht ⊢
 obtain ⟨n, hn⟩ : ∃ n, n = ps.length := ⟨_, rfl⟩
 rw [← hn] at HV hps ht ⊢
 have HN := Lib.hid hn
 have hlo := J2d b
 clear hv hvb hb8 hT hn
 go_enter Tryz.func64, Tryz.ntmps64
 go_upto_region 1 with (fail)
 refine wp_region_lit ?_
 refine wpSk rfl (J2w J3q hiD iD0 rfl) fun v0 w1 hh => ?_
 obtain ⟨⟨rfl, hl1, bl1⟩, B1⟩ := hh
 try simp only [PutS]
 refine wpList_plain rfl fun K hK => ?_; go_big_op; refine hK _ _ ?_; clear hK K
 refine J21 rfl _ _ rfl J3q hiD iD0 iD1 iD2 rfl (by decide) (cl := ps.flatMap byc) (base := w.heap.size) (cs := []) (k := 0) (fun v hv => by obtain ⟨d, _, hd⟩ := List.mem_flatMap.1 hv; exact J4e d v hd) rfl rfl (by have := (HV.out.keep B1).1; rw [← HN.out] at this; exact this) ⟨rfl, .inr ⟨w.heap.size, 0, #[], rfl, Nat.le_refl _, bl1, Nat.le_refl _, Nat.zero_le _, rfl, rfl⟩⟩ (by unfold maxLen; omega) (by omega) B1.size fun v3 w3 o3 _ B3 => ?_
 rw [Nat.zero_add, List.nil_append] at o3
 have B4 := B1.trans B3
 obtain ⟨A3, c3, rfl⟩ := Jy o3
 clear B1 B3 bl1 hl1
 try simp only [PutS]
 refine wpList_plain rfl fun K hK => ?_; go_big_op; refine hK _ _ ?_; clear hK K
 refine wpSk rfl (J7 J65 (rLeaf b hb H8.out _ _ _ w3 (Rd.keep HVB.out B4)) rfl rfl) fun v13 w13 hh => ?_
 obtain ⟨rfl, B13⟩ := hh
 try simp only [PutS]
 refine wpSk rfl (J4u hiD iD0 rfl) fun v8 w8 hh => ?_
 obtain ⟨gd, rfl, hgd, b8, B8⟩ := hh
 try simp only [PutS]
 have b8 : Blk w8 gd 23 (zb 32).toArray := b8
 refine wpList_plain rfl fun K hK => ?_; go_big_op; refine hK _ _ ?_; clear hK K
 refine J6 rfl 23 (.tmp 8) (.tmp 13) rfl rfl (cells := byc (leafD b)) rfl b8 (by rw [J3, hlo.1]; decide) (by rw [Jc, J3, hlo.1]) (Jw _) (Ja _ _ (by rw [J3, hlo.1]; rfl)) fun X hX bX => ?_
 have B8' : Below w13.heap.size w13 w8 := by rw [hgd]; exact B8
 have B13X : Below w3.heap.size w3 X := B13.trans ((J2 B8' hX (by omega)).mono B13.size)
 have hw3 := B4.size
 have hBX := B4.trans (B13X.mono hw3)
 have o3X := Jq o3 (Nat.le_refl _) B13X
 have hsz13 := B13.size
 have hob : ∀ g, (Value.slice A3 n c3).ownBlock = some g → g < gd := fun g hg => by
  have := (Jk o3 hg).2
  omega
 have HOB := Lib.hid hob
 have HO := Lib.hid o3X
 have hgw : w.heap.size ≤ gd := by omega
 obtain ⟨d0, hd0⟩ : ∃ d, d = leafD b := ⟨_, rfl⟩
 rw [← hd0] at bX hlo ⊢
 have HD0 := Lib.hid hd0
 have HBX := Lib.hid hBX
 have HB8 := Lib.hid bX
 clear hX B8 B8' b8 B13 B13X B4 o3 o3X hob hd0 hBX bX hgd
 try simp only [PutS]
 go_upto_region 2 with (fail)
 go_loopw [1, 7] (fun q i wr => ∃ j cc K : Nat, n = j + K ∧ j ≤ t ∧ q = .int .i64 (cc : Int) ∧ cc ≤ c ∧ Hid (tz1 cc + j = t) ∧ i = .slice A3 K c3 ∧ Hid (wr.ownsRow w.heap.size 23 32 (.slice A3 K c3) K ((ps.take K).flatMap byc)) ∧ Blk wr gd 23 (byc (accP ps d0 j)).toArray ∧ Below w.heap.size w wr) (fun q _ _ => (intOf q).toNat)
 case atStart => exact ⟨0, c, n, by omega, Nat.zero_le _, rfl, Nat.le_refl _, Lib.hid HT.out.symm, rfl, Lib.hid (by rw [List.take_of_length_le (by rw [← HN.out]; exact Nat.le_refl _)]; exact HO.out), HB8.out, HBX.out⟩
 case round =>
  obtain ⟨j, cc, K, hjK, hj, rfl, hcc, HTZ, rfl, HOW, b8, hBr⟩ := hrel
  have hdo := Jal ps d0 hlo j
  by_cases hodd : cc % 2 = 1
  rotate_left 1
  ·
   have h0 : cc % 2 = 0 := by omega
   have htj : j = t := by have := HTZ.out; rw [Jbe h0] at this; omega
   subst htj
   have h0i : (cc : Int) % 2 = 0 := by omega
   have hform : (pushN pairD j ps (leafD b)).flatMap byc = (ps.take K).flatMap byc ++ byc (accP ps d0 j) := by
    rw [HT.out, HF.out, ← HT.out, ← HD0.out, ← HN.out, show n - j = K by omega]
    simp
   have HFM := Lib.hid hform
   have hK1 : n - j + 1 = K + 1 := by omega
   have HK1 := Lib.hid hK1
   have hKn : K ≤ 1000 := by omega
   generalize accP ps d0 j = acc at *
   have hrs := hBr.size
   clear hform hK1
   go_upto_region 6 with (fail)
   refine wp_region_lit ?_
   refine wpList_plain rfl fun K hK => ?_; go_big_op; refine hK _ _ ?_; clear hK K
   refine wpSk rfl (J1 (cs := byc acc) Jg rfl (by rw [Jc, J3, hdo.1]) rfl rfl (J4 b8)) fun v33 w33 hh => ?_
   obtain ⟨rfl, rfl⟩ := hh
   try simp only [PutS]
   refine wpSk rfl (J15 (cs := (byc acc).toArray) J3q hiD iD0 iD1 (by decide) (by decide) rfl rfl (by simp [J3, hdo.1])) fun v34 w34 hh => ?_
   obtain ⟨⟨rfl, hl34, b34⟩, B34⟩ := hh
   try simp only [PutS]
   have o1 := Jq HOW.out (Nat.le_refl _) B34
   have hs34 := B34.size
   refine J29 (u := .slice A3 K c3) (base := w.heap.size) (n := w33.heap.size) (cl := byc acc) (cs := (ps.take K).flatMap byc) rfl (.tmp 32) (.tmp 34) rfl J3q hiD iD0 iD1 iD2 rfl (by decide) (by rw [J3, hdo.1]) (J4e acc) rfl rfl o1 b34 (by unfold maxLen; omega) (by omega) (by omega) fun v35 w35 o35 gr35 B35 hat35 => ?_
   have hBz := (hBr.trans (B34.mono hrs)).trans B35
   obtain ⟨A35, c35, rfl⟩ := Jy o35
   have HO35 := Lib.hid o35
   clear o1 o35 gr35 B35 hat35 b34 hl34 B34 b8 hBr
   try simp only [PutS]
   go_wp2_with fail
   refine bodyPost_ret (by simp [results, Tryz.results64, go_sem]; rfl) rfl ⟨_, rfl, ?_, hBz⟩
   rw [HK1.out, HFM.out]
   exact own_a HO35.out
  have htz := Jg1 hodd
  have hjt : j < t := by have := HTZ.out; omega
  obtain ⟨K, rfl⟩ : ∃ K', K = K' + 1 := ⟨K - 1, by omega⟩
  have h1i : (cc : Int) % 2 = 1 := by omega
  obtain ⟨p, hp⟩ : ∃ p, ps[K]? = some p := ⟨ps[K]'(by have := HN.out; omega), List.getElem?_eq_getElem (by have := HN.out; omega)⟩
  have hdr : DgsA wr (.slice A3 (K + 1) c3) (ps.take (K + 1)) := by
   have hl : (ps.take (K + 1)).length = K + 1 := by rw [List.length_take]; have := HN.out; omega
   refine ⟨?_, fun x hx => HV.out.2 x (List.mem_of_mem_take hx)⟩
   rw [hl]
   exact RdA.of (Rd.of_own HOW.out (by omega) (Nat.le_refl _))
  obtain ⟨g, off, cap', hvv, hcp, hg, hr, hpo⟩ := hdr.at (k := K) (d := p) (by rw [List.getElem?_take, if_pos (by omega)]; exact hp)
  rw [show (ps.take (K + 1)).length = K + 1 by rw [List.length_take]; have := HN.out; omega] at hvv hcp
  have hgr : g < gd := HOB.out g (by rw [show (Value.slice A3 n c3).ownBlock = (Value.slice A3 (K + 1) c3).ownBlock from by cases A3 <;> rfl, hvv]; rfl)
  cases hvv
  have hacc : accP ps d0 (j + 1) = pairD p (accP ps d0 j) := by
   rw [accP]
   congr 1
   rw [List.getD_eq_getElem?_getD, show ps.length - 1 - j = K by have := HN.out; omega, hp]
   rfl
  generalize accP ps d0 j = dj at *
  have HACC := Lib.hid hacc
  have lgd := b8.lt
  have HB8r := Lib.hid b8
  have HRR := Lib.hid hr
  have HBR := Lib.hid hBr
  have hpk := J2c p dj
  have hKn : K + 1 ≤ 1000 := by omega
  have hw1 : wrap64 ((K : Int) + 1 - 1) = (K : Int) := by unfold wrap64; omega
  have HTZ2 := Lib.hid (show tz1 (cc / 2) + (j + 1) = t by have := HTZ.out; omega)
  have hrs := hBr.size
  clear hdr hacc hr hp b8 hBr htz
  go_upto_region 3 with (fail)
  refine Jd 8 [(5, Spec.val (dgv p)), (6, Spec.val (dgv dj)), (7, Spec.val (dgv (pairD p dj)))] (by kernel_rfl) (by kernel_rfl) (by kernel_rfl) trivial ?_
  iterate 5 (refine rg_det rfl rfl rfl (fun K hK => ?_); go_big_quiet_op; refine hK _ ?_; clear hK K)
  refine rg_val rfl rfl (fun W1 hW1 hF => Jf (cs := byc p) Jg rfl (by rw [Jc, J3, hpo.1]) rfl rfl (Jr HRR.out hg (J8 hW1))) ?_
  intro a' ha
  simp only [PutS] at ha
  subst ha
  refine rg_val rfl rfl (fun W1 hW1 hF => Jf (cs := byc dj) Jg rfl (by rw [Jc, J3, hdo.1]) rfl rfl (J4 (HB8r.out.keep (J8 hW1)))) ?_
  intro a' ha
  simp only [PutS] at ha
  subst ha
  refine rg_val rfl rfl (fun W1 hW1 hF => J7 J3o (rPair p dj hpo hdo W1) rfl rfl) ?_
  intro a' ha
  simp only [PutS] at ha
  subst ha
  refine rg_nil (fun w' hw' hF => ?_)
  obtain ⟨z, rfl⟩ := hw'
  simp only [List.drop_succ_cons, List.drop_zero]
  have b8z := HB8r.out.keep z.h
  have oz := Jq HOW.out (Nat.le_refl _) z.h
  have hBz := HBR.out.trans (z.h.mono hrs)
  clear hF
  refine J6 rfl 23 (.tmp 8) (.tmp 24) rfl rfl (cells := byc (pairD p dj)) rfl b8z (by rw [List.size_toArray, J3, J3, hpk.1, hdo.1]; exact Nat.le_refl _) (by rw [Jc, J3, hpk.1]) (Jw _) (Ja _ _ (by rw [List.size_toArray, J3, J3, hpk.1, hdo.1])) fun Y hY bY => ?_
  have hBY := J2 hBz hY hgw
  have oY := Jkv (Jt oz hY (fun e => by have h2 : g = gd := Option.some.inj e; omega)) (Nat.le_succ K)
  rw [J82 _ _ (fun x hx => HV.out.2 x (List.mem_of_mem_take hx)), List.take_take, Nat.min_eq_left (Nat.le_succ K)] at oY
  rw [← HACC.out] at bY
  have HOY := Lib.hid oY
  have HBY := Lib.hid bY
  clear hY oz b8z hBz oY bY
  try simp only [PutS]
  go_wp2_with fail
  exact ⟨⟨j + 1, cc / 2, K, by omega, by omega, by go_num, by omega, HTZ2, rfl, HOY, HBY.out, hBY⟩, by simp [intOf]; omega⟩
end
end Go.Proofs.YtoiampgfnidfdaaGreatDoor
