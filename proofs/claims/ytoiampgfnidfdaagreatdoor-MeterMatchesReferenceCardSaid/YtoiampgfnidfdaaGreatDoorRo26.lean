/-
  The program's Root.
-/
import Derived.Test.YtoiampgfnidfdaaGreatDoorOp26
import Derived.Test.YtoiampgfnidfdaaGreatDoorGu4
set_option maxRecDepth 100000
set_option maxHeartbeats 8000000
namespace Go.Proofs.YtoiampgfnidfdaaGreatDoor
open Go.RowKit

theorem J2q : (Tryz.prog.info? 35).map (fun i => (i.zero, i.size, i.bytes)) = some (some (.agg (mtc ⟨0, List.replicate 32 0, []⟩ (.slice none 0 0)).toArray), 34, 64) := by kernel_rfl
theorem J5z : Tryz.prog.underlying 33 = some (.slice 75) := by kernel_rfl
def epW0 : EpW := ⟨0, 0, false, .slice none 0 0, .slice none 0 0⟩
theorem ep0_in (W : World) : EpIn W epW0 ep0 :=
 ⟨⟨rfl, rfl, rfl⟩, ⟨[], ⟨rfl, by decide, none, 0, rfl, Nat.le_refl _, fun h => absurd h (by decide)⟩, Al.nil⟩, ⟨⟨rfl, by decide, none, 0, rfl, Nat.le_refl _, fun h => absurd h (by decide)⟩, fun d hd => by cases hd⟩⟩
theorem Jmd (b : Bse) : EpIB b epW0 ep0 :=
 ⟨⟨rfl, rfl, rfl⟩, ⟨[], fun X _ => ⟨rfl, by decide, none, 0, rfl, Nat.le_refl _, fun h => absurd h (by decide)⟩, Al.nil⟩, fun X _ => (ep0_in X).2.2⟩
def Mt.grow (m : Mt) : Mt := ⟨m.ver, m.seed, m.eps ++ [ep0]⟩
theorem grow_n {m : Mt} (h : MtN m) (h9 : m.eps.length ≤ 999) : MtN m.grow := by
 refine ⟨h.seed, h.ver, by simp [Mt.grow]; omega, fun i e he => ?_⟩
 by_cases hi : i < m.eps.length
 ·
  refine h.ep i e ?_
  unfold Mt.grow at he
  rwa [List.getElem?_append_left hi] at he
 ·
  unfold Mt.grow at he
  rw [List.getElem?_append_right (by omega)] at he
  have : i - m.eps.length = 0 := by
   have := (List.getElem?_eq_some_iff.1 he).1
   simp at this
   omega
  rw [this] at he
  cases he
  exact ⟨by decide, by decide, by decide, by decide⟩
theorem Jme (m : Mt) : m.grow.at m.eps.length = ep0 := by simp [Mt.grow, Mt.at]
theorem Jk0 (m : Mt) (e : Ep) : m.grow.put m.eps.length e = ⟨m.ver + 1, m.seed, m.eps ++ [e]⟩ := by simp [Mt.grow, Mt.put]
theorem gOpenM (m : Mt) (hN : MtN m) (h9 : m.eps.length ≤ 999) (log pts : Int) (hlg : -9223372036854775808 ≤ log ∧ log ≤ 9223372036854775807) (hpt : -9223372036854775808 ≤ pts ∧ pts ≤ 9223372036854775807) (vE : Value) (bs : Bse) (w : World) (hw : bs.ok w) (hS : Lsh w) (hE : EpsB bs vE m.eps) : Calls Tryz.prog 10 #[mtV m vE, .int .i64 log, .int .i64 pts] w (MRes bs (openM m log pts) w) := by
 have HW := Lib.hid hw
 clear hw
 have HSh := Lib.hid hS
 have HLG := Lib.hid hlg
 have HPT := Lib.hid hpt
 clear hS hlg hpt
 obtain ⟨S, hS⟩ : ∃ S, S = mtV m vE := ⟨_, rfl⟩
 rw [← hS]
 have HN := Lib.hid hN
 have HE := Lib.hid hE
 obtain ⟨A, cap, rfl⟩ := hE.len
 have hml := hN.eps
 clear hN hE
 go_enter Tryz.func10, Tryz.ntmps10
 go_upto_region 1 with (fail)
 refine Jfi fun W hB hz b1 b4 b5 b2 => ?_
 have b1' : Blk W w.heap.size 35 (mtc m (.slice A m.eps.length cap)).toArray := by first | exact b1 | (rw [hS] at b1; exact b1)
 obtain ⟨cs0, hcs0, b2'⟩ : ∃ cs : Array Value, cs.size = 34 ∧ Blk W (w.heap.size + 1 + 1 + 1) 35 cs := ⟨_, rfl, b2⟩
 have hsl := HN.out.seed.1
 have hWs : w.heap.size + 4 ≤ W.heap.size := by have := hz.out; omega
 clear b1 b2 hz hS
 refine wp_region_lit ?_
 refine wpSk rfl (J1 (cs := mtc m (.slice A m.eps.length cap)) J9 rfl (by rw [J5, J0 _ _ hsl]) rfl rfl (J4 b1')) fun v13 w13 hh => ?_
 obtain ⟨rfl, rfl⟩ := hh
 try simp only [PutS]
 refine wpSk rfl (J7 J2e (gCurrent m HN.out (.slice A m.eps.length cap) w13 (HE.out.old (HW.out.below hB))) rfl rfl) fun v14 w14 hh => ?_
 obtain ⟨rfl, B14⟩ := hh
 try simp only [PutS]
 have b1w := b1'.keep B14
 have b2w := b2'.keep B14
 have b4w := b4.keep B14
 have b5w := b5.keep B14
 have hBw := hB.trans (B14.mono hB.size)
 have hW4 : w.heap.size + 4 ≤ w14.heap.size := Nat.le_trans hWs B14.size
 clear b1' b2' b4 b5 hB B14 hWs
 have c33 := J11 b1w hsl
 have l1 := b1w.lt
 try simp only [PutS]
 go_upto_region 6 with (fail)
 refine J13 fun W2 hB2 hz2 bn => ?_
 obtain ⟨gn, hgn⟩ : ∃ g, g = w14.heap.size := ⟨_, rfl⟩
 rw [← hgn] at bn hW4 ⊢
 replace b1w := b1w.keep hB2
 replace b2w := b2w.keep hB2
 replace b4w := b4w.keep hB2
 replace b5w := b5w.keep hB2
 replace hBw := hBw.trans (hB2.mono hBw.size)
 clear hgn hz2 hB2 c33 l1
 have c40 := b4w.cell 0
 have c50 := b5w.cell 0
 have cn0 := bn.cell 0
 simp only [List.getElem?_toArray, List.getElem?_cons_zero] at c40 c50 cn0
 have l4 := b4w.lt
 have l5 := b5w.lt
 have ln := bn.lt
 by_cases h1 : log < 0
 ·
  have HC := Lib.hid (show openM m log pts = (m, 1) by unfold openM; rw [if_pos (.inl h1)])
  go_upto_region 7 with (fail)
  refine wp_region_lit ?_
  refine wpSk rfl (J1 (cs := mtc m (.slice (A) m.eps.length cap)) J9 rfl (by rw [J5, J0 _ _ hsl]) rfl rfl (J4 b1w)) fun v51 w51 hh => ?_
  obtain ⟨rfl, rfl⟩ := hh
  try simp only [PutS]
  refine J6 rfl 35 (.tmp 6) (.tmp 51) rfl rfl (cells := mtc m (.slice (A) m.eps.length cap)) rfl b2w (by rw [hcs0, J0 (m) _ hsl]; exact Nat.le_refl _) (by rw [J5, J0 (m) _ hsl]) (Ji _ _ rfl) (Ja _ _ (by rw [hcs0, J0 (m) _ hsl])) fun X hX bX => ?_
  have hBX := J2 hBw hX (by omega)
  clear b1w b2w hX
  try simp only [PutS]
  go_wp2_with fail
  refine bodyPost_ret (v := .tuple #[.agg (mtc m (.slice (A) m.eps.length cap)).toArray, .int .i64 1]) (res_mt (g1 := w.heap.size + 1 + 1 + 1) rfl rfl rfl J9 rfl (by rw [J5, J0 _ _ hsl]) bX) rfl ?_
  rw [HC.out]
  exact ⟨_, rfl, HE.out.le (Bse.le_new (HW.out.below hBX)), hBX⟩
 by_cases h2 : log > 16
 ·
  have HC := Lib.hid (show openM m log pts = (m, 1) by unfold openM; rw [if_pos (.inr (.inl h2))])
  go_upto_region 7 with (fail)
  refine wp_region_lit ?_
  refine wpSk rfl (J1 (cs := mtc m (.slice (A) m.eps.length cap)) J9 rfl (by rw [J5, J0 _ _ hsl]) rfl rfl (J4 b1w)) fun v51 w51 hh => ?_
  obtain ⟨rfl, rfl⟩ := hh
  try simp only [PutS]
  refine J6 rfl 35 (.tmp 6) (.tmp 51) rfl rfl (cells := mtc m (.slice (A) m.eps.length cap)) rfl b2w (by rw [hcs0, J0 (m) _ hsl]; exact Nat.le_refl _) (by rw [J5, J0 (m) _ hsl]) (Ji _ _ rfl) (Ja _ _ (by rw [hcs0, J0 (m) _ hsl])) fun X hX bX => ?_
  have hBX := J2 hBw hX (by omega)
  clear b1w b2w hX
  try simp only [PutS]
  go_wp2_with fail
  refine bodyPost_ret (v := .tuple #[.agg (mtc m (.slice (A) m.eps.length cap)).toArray, .int .i64 1]) (res_mt (g1 := w.heap.size + 1 + 1 + 1) rfl rfl rfl J9 rfl (by rw [J5, J0 _ _ hsl]) bX) rfl ?_
  rw [HC.out]
  exact ⟨_, rfl, HE.out.le (Bse.le_new (HW.out.below hBX)), hBX⟩
 by_cases h3 : pts < 1
 ·
  have HC := Lib.hid (show openM m log pts = (m, 1) by unfold openM; rw [if_pos (.inr (.inr (.inl h3)))])
  go_upto_region 7 with (fail)
  refine wp_region_lit ?_
  refine wpSk rfl (J1 (cs := mtc m (.slice (A) m.eps.length cap)) J9 rfl (by rw [J5, J0 _ _ hsl]) rfl rfl (J4 b1w)) fun v51 w51 hh => ?_
  obtain ⟨rfl, rfl⟩ := hh
  try simp only [PutS]
  refine J6 rfl 35 (.tmp 6) (.tmp 51) rfl rfl (cells := mtc m (.slice (A) m.eps.length cap)) rfl b2w (by rw [hcs0, J0 (m) _ hsl]; exact Nat.le_refl _) (by rw [J5, J0 (m) _ hsl]) (Ji _ _ rfl) (Ja _ _ (by rw [hcs0, J0 (m) _ hsl])) fun X hX bX => ?_
  have hBX := J2 hBw hX (by omega)
  clear b1w b2w hX
  try simp only [PutS]
  go_wp2_with fail
  refine bodyPost_ret (v := .tuple #[.agg (mtc m (.slice (A) m.eps.length cap)).toArray, .int .i64 1]) (res_mt (g1 := w.heap.size + 1 + 1 + 1) rfl rfl rfl J9 rfl (by rw [J5, J0 _ _ hsl]) bX) rfl ?_
  rw [HC.out]
  exact ⟨_, rfl, HE.out.le (Bse.le_new (HW.out.below hBX)), hBX⟩
 by_cases h4 : pts > 16
 ·
  have HC := Lib.hid (show openM m log pts = (m, 1) by unfold openM; rw [if_pos (.inr (.inr (.inr h4)))])
  go_upto_region 7 with (fail)
  refine wp_region_lit ?_
  refine wpSk rfl (J1 (cs := mtc m (.slice (A) m.eps.length cap)) J9 rfl (by rw [J5, J0 _ _ hsl]) rfl rfl (J4 b1w)) fun v51 w51 hh => ?_
  obtain ⟨rfl, rfl⟩ := hh
  try simp only [PutS]
  refine J6 rfl 35 (.tmp 6) (.tmp 51) rfl rfl (cells := mtc m (.slice (A) m.eps.length cap)) rfl b2w (by rw [hcs0, J0 (m) _ hsl]; exact Nat.le_refl _) (by rw [J5, J0 (m) _ hsl]) (Ji _ _ rfl) (Ja _ _ (by rw [hcs0, J0 (m) _ hsl])) fun X hX bX => ?_
  have hBX := J2 hBw hX (by omega)
  clear b1w b2w hX
  try simp only [PutS]
  go_wp2_with fail
  refine bodyPost_ret (v := .tuple #[.agg (mtc m (.slice (A) m.eps.length cap)).toArray, .int .i64 1]) (res_mt (g1 := w.heap.size + 1 + 1 + 1) rfl rfl rfl J9 rfl (by rw [J5, J0 _ _ hsl]) bX) rfl ?_
  rw [HC.out]
  exact ⟨_, rfl, HE.out.le (Bse.le_new (HW.out.below hBX)), hBX⟩
 have harg : ¬ (log < 0 ∨ log > 16 ∨ pts < 1 ∨ pts > 16) := by omega
 cases ho : m.isOpen with
 | true =>
  have HC := Lib.hid (show openM m log pts = (m, 260) by unfold openM; rw [if_neg harg, if_pos ho])
  clear ho harg
  go_upto_region 9 with (fail)
  refine wp_region_lit ?_
  refine wpSk rfl (J1 (cs := mtc m (.slice (A) m.eps.length cap)) J9 rfl (by rw [J5, J0 _ _ hsl]) rfl rfl (J4 b1w)) fun v54 w54 hh => ?_
  obtain ⟨rfl, rfl⟩ := hh
  try simp only [PutS]
  refine J6 rfl 35 (.tmp 6) (.tmp 54) rfl rfl (cells := mtc m (.slice (A) m.eps.length cap)) rfl b2w (by rw [hcs0, J0 (m) _ hsl]; exact Nat.le_refl _) (by rw [J5, J0 (m) _ hsl]) (Ji _ _ rfl) (Ja _ _ (by rw [hcs0, J0 (m) _ hsl])) fun X hX bX => ?_
  have hBX := J2 hBw hX (by omega)
  clear b1w b2w hX
  try simp only [PutS]
  go_wp2_with fail
  refine bodyPost_ret (v := .tuple #[.agg (mtc m (.slice (A) m.eps.length cap)).toArray, .int .i64 260]) (res_mt (g1 := w.heap.size + 1 + 1 + 1) rfl rfl rfl J9 rfl (by rw [J5, J0 _ _ hsl]) bX) rfl ?_
  rw [HC.out]
  exact ⟨_, rfl, HE.out.le (Bse.le_new (HW.out.below hBX)), hBX⟩
 | false =>
  by_cases h40 : m.eps.length = 40
  ·
   have HC := Lib.hid (show openM m log pts = (m, 2) by unfold openM; rw [if_neg harg, if_neg (by rw [ho]; decide), if_pos h40])
   clear ho harg
   go_upto_region 11 with (fail)
   refine wp_region_lit ?_
   refine wpSk rfl (J1 (cs := mtc m (.slice (A) m.eps.length cap)) J9 rfl (by rw [J5, J0 _ _ hsl]) rfl rfl (J4 b1w)) fun v58 w58 hh => ?_
   obtain ⟨rfl, rfl⟩ := hh
   try simp only [PutS]
   refine J6 rfl 35 (.tmp 6) (.tmp 58) rfl rfl (cells := mtc m (.slice (A) m.eps.length cap)) rfl b2w (by rw [hcs0, J0 (m) _ hsl]; exact Nat.le_refl _) (by rw [J5, J0 (m) _ hsl]) (Ji _ _ rfl) (Ja _ _ (by rw [hcs0, J0 (m) _ hsl])) fun X hX bX => ?_
   have hBX := J2 hBw hX (by omega)
   clear b1w b2w hX
   try simp only [PutS]
   go_wp2_with fail
   refine bodyPost_ret (v := .tuple #[.agg (mtc m (.slice (A) m.eps.length cap)).toArray, .int .i64 2]) (res_mt (g1 := w.heap.size + 1 + 1 + 1) rfl rfl rfl J9 rfl (by rw [J5, J0 _ _ hsl]) bX) rfl ?_
   rw [HC.out]
   exact ⟨_, rfl, HE.out.le (Bse.le_new (HW.out.below hBX)), hBX⟩
  ·
   have HC := Lib.hid (show openM m log pts = (⟨m.ver + 1, m.seed, m.eps ++ [⟨log.toNat, 0, false, newPts m.seed m.eps.length log.toNat pts.toNat, []⟩]⟩, 0) by unfold openM; rw [if_neg harg, if_neg (by rw [ho]; decide), if_neg h40])
   clear ho harg
   obtain ⟨iM, hiM, iM0, iM1, iM2⟩ := info_parts J2q
   obtain ⟨iE, hiE, iE0, iE1, iE2⟩ := info_parts J49
   go_upto_region 3 with (fail)
   refine wp_region_lit ?_
   refine wpSk rfl (J1 (cs := mtc m (.slice A m.eps.length cap)) J9 rfl (by rw [J5, J0 _ _ hsl]) rfl rfl (J4 b1w)) fun v20 w20 hh => ?_
   obtain ⟨rfl, rfl⟩ := hh
   try simp only [PutS]
   refine wpSk rfl (Jl hiM iM0 rfl) fun v11 w11 hh => ?_
   obtain ⟨rfl, rfl⟩ := hh
   try simp only [PutS]
   have b11 : Blk (w20.alloc (.cells (Value.agg (mtc ⟨0, List.replicate 32 0, []⟩ (.slice none 0 0)).toArray).cells 35)) w20.heap.size 35 (mtc ⟨0, List.replicate 32 0, []⟩ (.slice none 0 0)).toArray := World.alloc_heap_new w20 _
   have B11 := (Below.refl _ w20).alloc (Nat.le_refl _) (.cells (Value.agg (mtc ⟨0, List.replicate 32 0, []⟩ (.slice none 0 0)).toArray).cells 35)
   generalize w20.alloc (.cells (Value.agg (mtc ⟨0, List.replicate 32 0, []⟩ (.slice none 0 0)).toArray).cells 35) = w11 at *
   refine J6 rfl 35 (.tmp 11) (.tmp 20) rfl rfl (cells := mtc m (.slice A m.eps.length cap)) rfl b11 (by rw [J0 _ _ hsl]; exact Nat.le_refl 34) (by rw [J5, J0 _ _ hsl]) (Ji _ _ rfl) (Ja _ _ (by rw [J0 _ _ hsl]; rfl)) fun X hX bX => ?_
   have BX : Below w20.heap.size w20 X := J2 B11 hX (Nat.le_refl _)
   obtain ⟨g11, hg11⟩ : ∃ g, g = w20.heap.size := ⟨_, rfl⟩
   rw [← hg11] at bX ⊢
   have hgn11 : gn < g11 := by omega
   replace b1w := b1w.keep BX
   replace b2w := b2w.keep BX
   replace b4w := b4w.keep BX
   replace b5w := b5w.keep BX
   replace bn := bn.keep BX
   replace hBw := hBw.trans (BX.mono hBw.size)
   have lg11 := bX.lt
   clear hg11 b11 B11 hX BX c40 c50 cn0 l4 l5 ln
   have cn0 := bn.cell 0
   simp only [List.getElem?_toArray, List.getElem?_cons_zero] at cn0
   have c33 := J11 b1w hsl
   try simp only [PutS]
   go_upto_region 4 with (fail)
   refine wp_region_lit ?_
   obtain ⟨hcap, hRp⟩ : m.eps.length ≤ cap ∧ ∃ us : List EpW, Rd 0 X.heap.size 5 X (.slice A m.eps.length m.eps.length) m.eps.length (us.flatMap epc) ∧ Al (EpIB bs) us m.eps := by
    obtain ⟨us, hr, ha⟩ := HE.out
    have hr2 := hr X (HW.out.below hBw)
    rw [ha.1] at hr2
    refine ⟨?_, us, ?_, ha⟩
    ·
     obtain ⟨-, -, A', c', h3, h4, -⟩ := hr2
     cases h3
     exact h4
    ·
     have := rd_pre (cap' := m.eps.length) hr2 (Nat.le_refl _) (Nat.le_refl _)
     rwa [List.take_of_length_le (by rw [Jeg, ha.1]; exact Nat.le_refl _)] at this
   obtain ⟨us, hRu, hAl⟩ := hRp
   have HRU := Lib.hid hRu
   have HAL := Lib.hid hAl
   clear hRu hAl
   iterate 6 (refine wpList_plain rfl fun K hK => ?_; go_big_op; refine hK _ _ ?_; clear hK K)
   refine wpSk rfl (J15 (cs := (epc epW0).toArray) J5z hiE iE0 iE1 (by decide) (by decide) rfl rfl rfl) fun v27 w27 hh => ?_
   obtain ⟨l27, B27⟩ := hh
   try simp only [PutS]
   have hrl : Rd X.heap.size w27.heap.size 5 w27 v27 1 (epc epW0) := by
    obtain ⟨rfl, q2, q3⟩ := l27
    refine ⟨rfl, by decide, _, 1, rfl, Nat.le_refl _, fun _ => ⟨X.heap.size, 0, rfl, Nat.le_refl _, q2, q3.lt, fun j u hu => ?_⟩⟩
    rw [Nat.zero_add, q3.cell]
    simpa using hu
   have hRz := Rd.keep HRU.out B27
   have hnil : A = none → m.eps.length = 0 := fun h => by
    subst h
    exact (J93 HRU.out).1
   refine wpSk rfl (J66 (t := 33) rfl J5z hiE iE0 iE1 iE2 rfl (by decide) (Jc3 epW0 rfl rfl) rfl hnil rfl hRz hrl (by decide) (by unfold maxLen; omega) (by omega)) fun v28 w28 hh => ?_
   obtain ⟨o28, B28⟩ := hh
   try simp only [PutS]
   have BX28 := B27.trans (B28.mono B27.size)
   obtain ⟨A28, c28, rfl⟩ := Jy o28
   have HO := Lib.hid o28
   replace b1w := b1w.keep BX28
   replace b2w := b2w.keep BX28
   replace b4w := b4w.keep BX28
   replace b5w := b5w.keep BX28
   replace bn := bn.keep BX28
   replace bX := bX.keep BX28
   replace hBw := hBw.trans (BX28.mono hBw.size)
   have h27 : g11 < w27.heap.size := Nat.lt_of_lt_of_le (by assumption) B27.size
   have c33b := J11 bX hsl
   have f11 := bX.frozen
   have l11 := bX.lt
   clear l27 B27 hrl hRz B28 BX28 cn0 c33 o28 hnil
   try simp only [PutS]
   go_upto_region 5 with (fail)
   refine set1 (M := fun W => Code.wp _ _ _ _ W) bX fun Y hY bY => ?_
   have bY2 : Blk Y g11 35 (mtc m (.slice A28 (m.eps.length + 1) c28)).toArray := by
    rw [List.setIfInBounds_toArray, Jg2 _ _ _ hsl] at bY
    exact bY
   have hOY := Jt HO.out hY (fun h => by have := (Jk HO.out h).1; omega)
   have hul : us.length = m.eps.length := HAL.out.1
   have hrY : RdA 5 Y (.slice A28 (m.eps.length + 1) c28) (us ++ [epW0]).length ((us ++ [epW0]).flatMap epc) := by
    rw [List.length_append, List.flatMap_append, hul]
    have := RdA.of (Rd.of_own hOY (by omega) (Nat.le_refl _))
    simpa using this
   have hBY := J2 hBw hY (by omega)
   replace b2w := hY.blk b2w (by omega)
   replace b4w := hY.blk b4w (by omega)
   replace b5w := hY.blk b5w (by omega)
   replace bn := hY.blk bn (by omega)
   replace b1w := hY.blk b1w (by omega)
   obtain ⟨lg, rfl⟩ : ∃ n : Nat, log = (n : Int) := ⟨log.toNat, by omega⟩
   obtain ⟨pt, rfl⟩ : ∃ n : Nat, pts = (n : Int) := ⟨pts.toNat, by omega⟩
   have hlg : lg ≤ 16 := by omega
   have hptl : pt ≤ 16 := by omega
   have c40 := b4w.cell 0
   have c50 := b5w.cell 0
   have cn0 := bn.cell 0
   simp only [List.getElem?_toArray, List.getElem?_cons_zero] at c40 c50 cn0
   have hbb : w.heap.size + 1 < Y.heap.size ∧ w.heap.size + 1 + 1 < Y.heap.size ∧ w.heap.size < Y.heap.size ∧ gn < Y.heap.size := ⟨b4w.lt, b5w.lt, b1w.lt, bn.lt⟩
   obtain ⟨e', he'⟩ : ∃ e' : Ep, e' = ⟨lg, 0, false, newPts m.seed m.eps.length lg pt, []⟩ := ⟨_, rfl⟩
   have hFO : FOk 52 [.pointer (some ⟨w.heap.size + 1, 0, none⟩), .pointer (some ⟨w.heap.size + 1 + 1, 0, none⟩), .pointer (some ⟨w.heap.size, 0, none⟩), .pointer (some ⟨gn, 0, none⟩)] bs Y (m.grow.at m.eps.length) e' := by
    rw [Jme, he']
    exact fOpen bs Y m.seed HN.out.seed m.eps.length lg pt hml hlg hptl _ _ _ _ c40 c50 (J5v b1w) cn0 hbb (HSh.out.keep hBY)
   have HFO := Lib.hid hFO
   have HRY := Lib.hid hrY
   have hc : openM m lg pt = (m.grow.put m.eps.length e', 0) := by
    rw [HC.out, Jk0, he', Int.toNat_natCast, Int.toNat_natCast]
   clear HC
   have HC := Lib.hid hc
   clear hc hFO hrY bX bY hY hOY hBw h1 h2 h3 h4 b4w b5w c40 c50 hbb c33b f11 l11 h27 lg11
   refine wp_region_lit ?_
   refine wpSk rfl (J1 (cs := mtc m (.slice A28 (m.eps.length + 1) c28)) J9 rfl (by rw [J5, J0 _ _ hsl]) rfl rfl (J4 bY2)) fun v30 w30 hh => ?_
   obtain ⟨rfl, rfl⟩ := hh
   try simp only [PutS]
   iterate 2 (refine wpList_plain rfl fun K hK => ?_; go_big_op; refine hK _ _ ?_; clear hK K)
   refine wpSk rfl (Jm (R := fun v W2 => ∃ vE', v = .tuple #[mtV (Mt.put m.grow m.eps.length e') vE', .int .i64 0] ∧ EpsB (bs.new w30 W2) vE' (Mt.put m.grow m.eps.length e').eps ∧ Below w30.heap.size w30 W2) J1z ((gChange0 m.grow (grow_n HN.out h9) (.slice A28 (m.eps.length + 1) c28) m.eps.length (by simp [Mt.grow]) 52 [.pointer (some ⟨w.heap.size + 1, 0, none⟩), .pointer (some ⟨w.heap.size + 1 + 1, 0, none⟩), .pointer (some ⟨w.heap.size, 0, none⟩), .pointer (some ⟨gn, 0, none⟩)] e' J84 bs w30 (HW.out.below hBY) (us ++ [epW0]) HRY.out (HAL.out.snoc (Jmd bs)) HFO.out).mono fun r W2 ⟨vE', h1, h2⟩ => ⟨_, h1, vE', rfl, h2⟩) rfl rfl) fun v33 w33 hh => ?_
   obtain ⟨vE', rfl, hE', B33⟩ := hh
   try simp only [PutS]
   obtain ⟨AE, cE, hvE⟩ := hE'.len
   have b2y := (b2w).keep B33
   have hBy := (hBY).trans (B33.mono (hBY).size)
   have hlb := (b2w).lt
   refine wpSk rfl (Jh (v := mtV (m.grow.put m.eps.length e') vE') rfl rfl rfl) fun v34 w34 hh => ?_
   obtain ⟨rfl, rfl⟩ := hh
   try simp only [PutS]
   refine wpSk rfl (Jh (v := .int .i64 0) rfl rfl rfl) fun v35 w35 hh => ?_
   obtain ⟨rfl, rfl⟩ := hh
   try simp only [PutS]
   refine J6 rfl 35 (.tmp 6) (.tmp 34) rfl rfl (cells := mtc (m.grow.put m.eps.length e') vE') rfl b2y (by rw [hcs0, J0 (m.grow.put m.eps.length e') _ hsl]; exact Nat.le_refl _) (by rw [J5, J0 (m.grow.put m.eps.length e') _ hsl]) (Ji _ _ (by rw [hvE]; rfl)) (Ja _ _ (by rw [hcs0, J0 (m.grow.put m.eps.length e') _ hsl])) fun X hX bX => ?_
   have hEX : EpsB (bs.new w X) vE' (Mt.eps (m.grow.put m.eps.length e')) := hE'.out hX HW.out (by omega) (by omega) (by omega)
   have hBX := J2 hBy hX (by omega)
   clear b1w b2y hX B33 hE' hBy hlb b2w hBY bn cn0
   try simp only [PutS]
   go_wp2_with fail
   refine bodyPost_ret (v := .tuple #[.agg (mtc (m.grow.put m.eps.length e') vE').toArray, .int .i64 0]) (res_mt (g1 := w.heap.size + 1 + 1 + 1) rfl rfl rfl J9 rfl (by rw [J5, J0 (m.grow.put m.eps.length e') _ hsl]) bX) rfl ?_
   rw [HC.out]
   exact ⟨_, rfl, hEX, hBX⟩

theorem J2z : En Tryz.prog 31 := enters_of Tryz.func31 (by kernel_rfl) rfl
theorem J54 : En Tryz.prog 26 := enters_of Tryz.func26 (by kernel_rfl) rfl
theorem Jk1 : ∀ (cs : List Value), cs.length = 32 → Tryz.prog.built 35 [(1, .agg cs.toArray)] = some (Value.int .u64 0 :: (cs ++ [Value.slice none 0 0])).toArray
 | [a0, a1, a2, a3, a4, a5, a6, a7, a8, a9, a10, a11, a12, a13, a14, a15, a16, a17, a18, a19, a20, a21, a22, a23, a24, a25, a26, a27, a28, a29, a30, a31], _ => by kernel_rfl
theorem Jaz {o : Oper} {a : Act} {w : World} {x : Operand} {seed : Dg} (hs : seed.length = 32) (ho : o.op = .build 35 #[(1, x)]) (hx : a.eval x = dgv seed) : stepAt Tryz.prog o a w fun v w' => v = .agg (mtc ⟨0, seed, []⟩ (.slice none 0 0)).toArray ∧ w' = w := by
 have hr := run_build (P := Tryz.prog) w 35 #[(1, dgv seed)] _ (Jk1 (byc seed) (by rw [J3]; exact hs))
 unfold stepAt execOp
 simp only [ho, Sem.run_bind, List.map_toArray, List.map_cons, List.map_nil, hx, hr, Result.andThen_ok]
 exact ⟨rfl, rfl⟩
theorem gNew (seed : Dg) (hs : DgOk seed) (w : World) : Calls Tryz.prog 31 #[dgv seed] w (Ret (mtV ⟨0, seed, []⟩ (.slice none 0 0)) w) := by
 obtain ⟨S, hS⟩ : ∃ S, S = dgv seed := ⟨_, rfl⟩
 rw [← hS]
 have HS := Lib.hid hs
 go_enter Tryz.func31, Tryz.ntmps31
 go_upto_region 1 with (fail)
 refine J1h fun W hB hz b1 b2 => ?_
 have b1' : Blk W w.heap.size 23 (byc seed).toArray := by first | exact b1 | (rw [hS] at b1; exact b1)
 obtain ⟨cs0, hcs0, b2'⟩ : ∃ cs : Array Value, cs.size = 34 ∧ Blk W (w.heap.size + 1) 35 cs := ⟨_, rfl, b2⟩
 clear b1 b2 hz hS
 refine wp_region_lit ?_
 refine wpSk rfl (J1 (cs := byc seed) Jg rfl (by rw [Jc, J3, HS.out.1]) rfl rfl (J4 b1')) fun v3 w3 hh => ?_
 obtain ⟨rfl, rfl⟩ := hh
 try simp only [PutS]
 refine wpSk rfl (Jaz HS.out.1 rfl rfl) fun v4 w4 hh => ?_
 obtain ⟨rfl, rfl⟩ := hh
 try simp only [PutS]
 refine J6 rfl 35 (.tmp 2) (.tmp 4) rfl rfl (cells := mtc ⟨0, seed, []⟩ (.slice none 0 0)) rfl b2' (by rw [hcs0, J0 _ _ HS.out.1]; exact Nat.le_refl 34) (by rw [J5, J0 _ _ HS.out.1]) (Ji _ _ rfl) (Ja _ _ (by rw [hcs0, J0 _ _ HS.out.1])) fun X hX bX => ?_
 have hBX := J2 hB hX (by omega)
 clear b1' b2' hX
 try simp only [PutS]
 go_wp2_with fail
 exact bodyPost_ret (v := mtV ⟨0, seed, []⟩ (.slice none 0 0)) (Jv (g := w.heap.size + 1) rfl rfl J9 rfl (by rw [J5, J0 _ _ HS.out.1]) bX) rfl ⟨rfl, hBX⟩
theorem J1o : Tryz.prog.underlying 75 = some (.struct (Tryz.prog.fieldsOf 75)) := by kernel_rfl
theorem J1b : (Tryz.prog.info? 75).map (·.size) = some 5 := by kernel_rfl
def wrdK (m : Mt) (k : Nat) : Nat := 5 + ((m.eps.take k).map fun e => 3 + 4 * e.peaks.length + 11 * e.pts.length).sum
theorem Jaa (m : Mt) (k : Nat) (e : Ep) (h : m.eps[k]? = some e) : wrdK m (k + 1) = wrdK m k + (3 + 4 * e.peaks.length + 11 * e.pts.length) := by
 unfold wrdK
 rw [List.take_add_one, h, List.map_append, List.sum_append]
 simp
 omega
theorem Jem (m : Mt) : wrdK m m.eps.length = wordsM m := by unfold wrdK wordsM; rw [List.take_length]
theorem Jgc (m : Mt) (hN : MtN m) (k : Nat) (hk : k ≤ m.eps.length) : wrdK m k ≤ 5 + k * 100000 := by
 induction k with
 | zero => simp [wrdK]
 | succ k ih =>
  have hl : m.eps[k]? = some (m.eps[k]'(by omega)) := List.getElem?_eq_getElem (by omega)
  have h1 := ih (by omega)
  have h2 := hN.ep _ _ hl
  rw [Jaa m k _ hl]
  omega
theorem gWords (m : Mt) (hN : MtN m) (vE : Value) (w : World) (hE : EpsA w vE m.eps) : Calls Tryz.prog 26 #[mtV m vE] w (Ret (.int .i64 (wordsM m : Nat)) w) := by
 obtain ⟨S, hS⟩ : ∃ S, S = mtV m vE := ⟨_, rfl⟩
 rw [← hS]
 have HN := Lib.hid hN
 have HE := Lib.hid hE
 obtain ⟨A, cap, rfl⟩ := hE.len
 have hml := hN.eps
 clear hN hE
 obtain ⟨iE, hiE, iE0, iE1, iE2⟩ := info_parts J49
 go_enter Tryz.func26, Tryz.ntmps26
 go_upto_region 1 with (fail)
 refine J13 fun W hB hz b1 => ?_
 have b1' : Blk W w.heap.size 35 (mtc m (.slice A m.eps.length cap)).toArray := by first | exact b1 | (rw [hS] at b1; exact b1)
 have hsl := HN.out.seed.1
 have c33 := J11 b1' hsl
 have l1 := b1'.lt
 clear b1 hz hS
 go_wp2_with fail
 go_loopw [3, 9] (fun n q wr => ∃ k : Nat, k ≤ m.eps.length ∧ q = .int .i64 k ∧ n = .int .i64 (wrdK m k : Nat) ∧ Below w.heap.size w wr) (fun _ q _ => m.eps.length - (intOf q).toNat)
 case atStart => exact ⟨0, Nat.zero_le _, rfl, rfl, hB⟩
 case round =>
  clear c33 l1 hB b1'
  obtain ⟨k, hk, rfl, rfl, hB⟩ := hrel
  by_cases hkl : k < m.eps.length
  ·
   obtain ⟨e, he⟩ : ∃ e, m.eps[k]? = some e := ⟨m.eps[k], List.getElem?_eq_getElem hkl⟩
   obtain ⟨us, hr, ha⟩ := HE.out.keep hB
   obtain ⟨u, e2, hu, he2, hin⟩ := ha.get hkl
   obtain rfl : e2 = e := Option.some.inj (he2.symm.trans he)
   obtain ⟨g, off, cap', hv, hcp, hg, hcs⟩ := RdA.at J16 hr hu
   rw [ha.1] at hv hcp
   cases hv
   obtain ⟨Ap, cp, hup⟩ := hin.2.1.len
   obtain ⟨Ak, ck, huk⟩ := hin.2.2.len
   have hN2 := HN.out.ep _ _ he
   have HW := Lib.hid (Jaa m k e2 he)
   have hwl := Jgc m HN.out k (by omega)
   generalize wrdK m k = n at *
   have hrg : wr.rangeAt g (off + k * 5) (epc u) := fun j x hj => by rw [Nat.add_assoc]; exact hcs j x hj
   clear hcs he2 he hin ha hr
   go_upto_region 4 with (fail)
   refine wp_region_lit ?_
   refine wpList_plain rfl fun K hK => ?_; go_big_op; refine hK _ _ ?_; clear hK K
   refine wpSk rfl (J1 (cs := epc u) J1o rfl J1b rfl rfl hrg) fun v12 w12 hh => ?_
   obtain ⟨rfl, rfl⟩ := hh
   try simp only [PutS]
   refine wpSk rfl (Jl hiE iE0 rfl) fun v5 w5 hh => ?_
   obtain ⟨rfl, rfl⟩ := hh
   try simp only [PutS]
   have b5 : Blk (w12.alloc (.cells (Value.agg #[.int .i64 0, .int .i64 0, .bool false, .slice none 0 0, .slice none 0 0]).cells 75)) w12.heap.size 75 #[.int .i64 0, .int .i64 0, .bool false, .slice none 0 0, .slice none 0 0] := World.alloc_heap_new w12 _
   have B5 := (Below.refl _ w12).alloc (Nat.le_refl _) (.cells (Value.agg #[.int .i64 0, .int .i64 0, .bool false, .slice none 0 0, .slice none 0 0]).cells 75)
   generalize w12.alloc (.cells (Value.agg #[.int .i64 0, .int .i64 0, .bool false, .slice none 0 0, .slice none 0 0]).cells 75) = w5 at *
   refine J6 rfl 75 (.tmp 5) (.tmp 12) rfl rfl (cells := epc u) rfl b5 (by simp [epc]) J1b (List.all_eq_true.2 (Jc3 u (by rw [hup]; rfl) (by rw [huk]; rfl))) (Ja _ _ rfl) fun X hX bX => ?_
   have hBX := hB.trans ((J2 B5 hX (Nat.le_refl _)).mono hB.size)
   obtain ⟨g5, hg5⟩ : ∃ g, g = w12.heap.size := ⟨_, rfl⟩
   rw [← hg5] at bX ⊢
   have c3 := bX.cell 3
   have c4 := bX.cell 4
   simp only [epc, List.getElem?_toArray, List.getElem?_cons_zero, List.getElem?_cons_succ, hup, huk] at c3 c4
   have l5 := bX.lt
   clear b5 B5 hX hrg hB hg5 bX hg hcp
   try simp only [PutS]
   go_wp2_with fail
   exact ⟨⟨k + 1, by omega, by go_num, by rw [HW.out]; go_num, hBX⟩, by simp [intOf]; omega⟩
  ·
   obtain rfl : k = m.eps.length := by omega
   go_wp2_with fail
   go_ret
   exact ⟨by rw [Jem]; rfl, hB⟩
section
open Go.RowKit

theorem J5m {P : Program} {o : Oper} {a : Act} {w : World} {g i : Nat} {t : TypeId} {cs new : Array Value} {cells : List Value} (ty : TypeId) (x y : Operand) (ho : o.op = .store ty x y)
  (hx : a.eval x = .pointer (some ⟨g, i, none⟩)) (hy : a.eval y = .agg cells.toArray) (hb : Blk w g t cs) (hi : i + cells.length ≤ cs.size) (hz : (P.info? ty).map (·.size) = some cells.length) (h1 : cells.all (·.oneCell') = true) (hn : spl cs i cells = new) :
  stepAt P o a w fun v w' => v = undef ∧ Put w w' g ∧ Blk w' g t new := by
 have ht : w.there g i cells.toArray.size := by
  intro j hj
  refine ⟨?_, hb.frozen _⟩
  rw [hb.cell]
  simp only [List.size_toArray] at hj
  rw [Array.getElem?_eq_getElem (by omega)]
  rfl
 obtain ⟨q1, q2⟩ := J7w cells i cs w hb
 rw [hn] at q2
 unfold stepAt execOp
 simp only [ho, hx, hy, Instr.storeAt, Instr.sureAddr, Sem.run_bind, Sem.run_pure, Result.andThen_ok, run_storeVar_mid w g i ty cells.toArray ht (by simpa using hz) (by simpa using h1)]
 exact ⟨rfl, q1, q2⟩
theorem J8t : En Tryz.prog 70 := enters_of Tryz.func70 (by kernel_rfl) rfl
theorem gBackD (A : Option Addr) (m cap : Nat) (w : World) : Calls Tryz.prog 113 #[.slice A m cap] w fun e w' =>
  e = .returned (.func (.func 137) #[] #[.pointer (some ⟨w.heap.size, 0, none⟩)]) ∧ w' = w.alloc (.cells #[.slice A m cap] 73) := by
 go_enter Tryz.func113, Tryz.ntmps113
 go_wp2
 go_ret
 exact ⟨rfl, rfl⟩
theorem Jk2 : Tryz.prog.built 23 [] = some (byc (List.replicate 32 0)).toArray := by kernel_rfl
theorem J6y {o : Oper} {a : Act} {w : World} (ho : o.op = .build 23 #[]) : stepAt Tryz.prog o a w fun v w' => v = .agg (byc (List.replicate 32 0)).toArray ∧ w' = w := by
 have hr := run_build (P := Tryz.prog) w 23 #[] _ Jk2
 unfold stepAt execOp
 simp only [ho, Sem.run_bind, List.map_toArray, List.map_nil, hr, Result.andThen_ok]
 exact ⟨rfl, rfl⟩
def accD (d : Dg) (pre : List (Nat × DgT)) : Dg := pre.foldl (fun a x => pairD x.2.val a) d
theorem Jab (d : Dg) (pre : List (Nat × DgT)) (x : Nat × DgT) : accD d (pre ++ [x]) = pairD x.2.val (accD d pre) := by unfold accD; rw [List.foldl_append]; rfl
theorem Jgd (d : Dg) (hd : DgOk d) (pre : List (Nat × DgT)) : DgOk (accD d pre) := by
 rcases List.eq_nil_or_concat pre with h | ⟨q, y, rfl⟩
 · rw [h]; exact hd
 · rw [List.concat_eq_append, Jab]; exact J2c _ _
theorem Jd3 (p : Dg) (r : List Dg) (h : r ≠ []) : bagN pairD (p :: r) = pairD p (bagN pairD r) := by
 cases r with
 | nil => exact absurd rfl h
 | cons q r => rfl
theorem Jen (l : List DgT) (d : Dg) : accD d (bkw dg0 l) = bagN pairD (l.map Subtype.val ++ [d]) := by
 have h : ∀ j, j ≤ l.length → accD d ((bkw dg0 l).take (l.length - j)) = bagN pairD ((l.drop j).map Subtype.val ++ [d]) := by
  intro j hj
  obtain ⟨n, hn⟩ : ∃ n, n = l.length - j := ⟨_, rfl⟩
  induction n generalizing j with
  | zero => rw [← hn, List.take_zero, List.drop_eq_nil_of_le (by omega)]; rfl
  | succ n ih =>
   have hx : l[j]? = some l[j] := List.getElem?_eq_getElem (by omega)
   rw [J9h dg0 l j _ hx, Jab, ih (j + 1) (by omega) (by omega), List.drop_eq_getElem_cons (by omega : j < l.length), List.map_cons, List.cons_append, Jd3 _ _ (by simp)]
 have := h 0 (Nat.zero_le _)
 rwa [Nat.sub_zero, List.take_of_length_le (by rw [J4z]; exact Nat.le_refl _)] at this
theorem dg_map (l : List Dg) (h : ∀ x ∈ l, DgOk x) : ∃ t : List DgT, t.map Subtype.val = l := by
 induction l with
 | nil => exact ⟨[], rfl⟩
 | cons d l ih =>
  obtain ⟨t, ht⟩ := ih fun x hx => h x (List.mem_cons_of_mem _ hx)
  exact ⟨⟨d, h d (List.mem_cons_self ..)⟩ :: t, by rw [List.map_cons, ht]⟩
theorem Jhd {W X : World} {g : Nat} {t : TypeId} {cs : Array Value} (hb : Blk W g t cs) (hp : Put W X g) : KeepsOthers W X :=
 ⟨Nat.le_of_eq hp.size.symm, fun k o hk ho => (hp.other k (fun e => by
  subst e
  rw [show W.heap[k]? = _ from hb] at hk
  cases hk
  cases ho)).trans hk⟩
attribute [local go_sem] Oper.semAt_some
theorem gBag (ps : List Dg) (hps : ps.length ≤ 1000) (v : Value) (w : World) (hv : DgsA w v ps) (hL : Lsh w) : Calls Tryz.prog 70 #[v] w (Ret (dgv (bagN pairD ps)) w) := by
 obtain ⟨A, cap, rfl⟩ := hv.len
 have HV := Lib.hid hv
 have HL := Lib.hid hL
 have hop := J3n Tryz.prog
 obtain ⟨iD, hiD, iD0, iD1, iD2⟩ := info_parts J2b
 clear hv hL
 refine (callsIn_wide (n := 3)).1 ?_
 refine callsIn_of_wp_marks Tryz.func70 rfl trivial ?_ rfl
 simp only [Tryz.ntmps70, List.size_toArray, List.length_cons, List.length_nil, Nat.reduceAdd, Nat.reduceSub, Array.replicate_succ, Array.replicate_zero, List.push_toArray, List.append_toArray, List.nil_append, List.cons_append]
 gi_upto_region 1 with (fail)
 refine stk1 (M := fun W => Code.wpIn _ _ _ _ _ _ W) fun W hB hz b2 => ?_
 have hWs : w.heap.size + 1 ≤ W.heap.size := by have := hz.out; omega
 obtain ⟨cs0, hcs0, b2'⟩ : ∃ cs : Array Value, cs.size = 32 ∧ Blk W w.heap.size 23 cs := ⟨_, rfl, b2⟩
 clear hz b2
 rcases List.eq_nil_or_concat ps with h0 | ⟨q, d, hq⟩
 ·
  subst h0
  gi_upto_region 2 with (fail)
  refine wpIn_region_lit ?_
  refine wpListIn_plain rfl fun K1 hK1 => J12 hop rfl (Jb (fun v9 w9 hh => ?_) (J6y rfl))
  obtain ⟨rfl, rfl⟩ := hh
  refine hK1 _ _ ?_
  clear hK1 K1
  try simp only [PutS]
  refine wpListIn_plain rfl fun K2 hK2 => J12 hop rfl (Jb (fun v0 X hh => ?_) (J5m (cells := byc (List.replicate 32 0)) 23 (.tmp 2) (.tmp 9) rfl rfl rfl b2' (by rw [hcs0]; exact Nat.le_refl 32) (by rw [Jc]; rfl) (Jw _) (Ja _ _ (by rw [hcs0]; rfl))))
  obtain ⟨rfl, hX, bX⟩ := hh
  refine hK2 _ _ ?_
  clear hK2 K2
  try simp only [PutS]
  have hBX := J2 hB hX (Nat.le_refl _)
  clear b2' hX
  gi_wp2_with fail
  exact ⟨dgv (List.replicate 32 0), Jv (cs := byc (List.replicate 32 0)) (g := w.heap.size) rfl rfl Jg rfl (by rw [Jc]; rfl) bX, rfl, hBX⟩
 ·
  rw [List.concat_eq_append] at hq
  subst hq
  have hlen : (q ++ [d]).length = q.length + 1 := by simp
  rw [hlen] at hps ⊢
  obtain ⟨g, off, cap', hvv, hcp, hg, hr, hpo⟩ := (HV.out.keep hB).at (k := q.length) (d := d) (by simp)
  rw [hlen] at hvv hcp
  cases hvv
  gi_upto_region 3 with (fail)
  refine wpIn_region_lit ?_
  iterate 5 (refine wpListIn_plain rfl fun K hK => ?_; gi_step; refine hK _ _ ?_; clear hK K)
  refine wpListIn_plain rfl fun K4 hK4 => J12 hop rfl (Jb (fun v15 w15 hh => ?_) (J1 (cs := byc d) Jg rfl (by rw [Jc, J3, hpo.1]) rfl rfl hr))
  obtain ⟨rfl, rfl⟩ := hh
  refine hK4 _ _ ?_
  clear hK4 K4
  try simp only [PutS]
  refine wpListIn_plain rfl fun K5 hK5 => J12 hop rfl (Jb (fun v3 w3 hh => ?_) (Jl hiD iD0 rfl))
  obtain ⟨rfl, rfl⟩ := hh
  refine hK5 _ _ ?_
  clear hK5 K5
  try simp only [PutS]
  have b3 : Blk (w15.alloc (.cells (Value.agg (zb 32).toArray).cells 23)) w15.heap.size 23 (zb 32).toArray := World.alloc_heap_new w15 _
  have B3 := (Below.refl _ w15).alloc (Nat.le_refl _) (.cells (Value.agg (zb 32).toArray).cells 23)
  generalize w15.alloc (.cells (Value.agg (zb 32).toArray).cells 23) = w3 at *
  refine wpListIn_plain rfl fun K6 hK6 => J12 hop rfl (Jb (fun v0 X hh => ?_) (J5m (cells := byc d) 23 (.tmp 3) (.tmp 15) rfl rfl rfl b3 (by rw [J3, hpo.1]; decide) (by rw [Jc, J3, hpo.1]) (Jw _) (Ja _ _ (by rw [J3, hpo.1]; rfl))))
  obtain ⟨rfl, hX, bX⟩ := hh
  refine hK6 _ _ ?_
  clear hK6 K6
  try simp only [PutS]
  have BX : Below w15.heap.size w15 X := J2 B3 hX (Nat.le_refl _)
  have b2X := b2'.keep BX
  have hBX := hB.trans (BX.mono hB.size)
  obtain ⟨g3, hg3⟩ : ∃ g, g = w15.heap.size := ⟨_, rfl⟩
  rw [← hg3] at bX ⊢
  have hg3' : w.heap.size < g3 := by omega
  clear b3 B3 hX BX hg3 b2' hB hg hr
  try simp only [PutS]
  gi_upto_region 4 with (fail)
  refine wpIn_region_lit ?_
  iterate 5 (refine wpListIn_plain rfl fun K hK => ?_; gi_step; refine hK _ _ ?_; clear hK K)
  obtain ⟨t, ht⟩ := dg_map q fun x hx => HV.out.2 x (List.mem_append_left _ hx)
  have hlow : Rd 0 w.heap.size 32 X (.slice (some ⟨g, off, none⟩) q.length cap) q.length (q.flatMap byc) := by
   have h1 : Rd 0 w.heap.size 32 w (.slice (some ⟨g, off, none⟩) (q ++ [d]).length cap) (q ++ [d]).length ((q ++ [d]).flatMap byc) := HV.out.1
   have h2 := Rd.keep (rd_pre (cap' := cap) h1 (k := q.length) (by rw [hlen]; omega) (by omega)) hBX
   rwa [J82 _ _ HV.out.2, List.take_left] at h2
  have hQ8 : ∀ x ∈ q, DgOk x := fun x hx => HV.out.2 x (List.mem_append_left _ hx)
  have HLOW := Lib.hid hlow
  have HQ8 := Lib.hid hQ8
  have HT := Lib.hid ht
  clear hlow hQ8 ht
  gi_wp2_with fail
  refine ⟨trivial, (callsIn_wide.2 (gBackD (some ⟨g, off, none⟩) q.length cap X)).mono ?_⟩
  rintro e w2 ⟨rfl, rfl⟩
  gi_wp2_with fail
  refine stk1 (M := fun W => Code.wpIn _ _ _ _ _ _ W) fun Y hBY hzY c1 => ?_
  have hYs : X.heap.size + 1 ≤ Y.heap.size := by have := hzY.out; omega
  have hDY : DgsA Y (.slice (some ⟨g, off, none⟩) q.length cap) (t.map Subtype.val) := by rw [HT.out]; exact ⟨(RdA.of HLOW.out).keep hBY, HQ8.out⟩
  have hlY : Rd 0 w.heap.size 32 Y (.slice (some ⟨g, off, none⟩) q.length cap) (t.map Subtype.val).length ((t.map Subtype.val).flatMap byc) := by rw [HT.out]; exact Rd.keep HLOW.out hBY
  have b3Y := bX.keep hBY
  have b2Y := b2X.keep hBY
  have hBw := hBX.trans (hBY.mono hBX.size)
  have hg3X := bX.lt
  have hql : q.length = t.length := by rw [← HT.out, List.length_map]
  have HDY := Lib.hid hDY
  have HLY := Lib.hid hlY
  clear hDY hlY hzY bX b2X hBY hBX
  have hQL := Lib.hid hql
  refine Jcy (S := fun g => g < w.heap.size ∨ g = X.heap.size) (dIter t (.slice (some ⟨g, off, none⟩) q.length cap) 2 w.heap.size X.heap.size (by decide) _ Y HDY.out HLY.out (c1.cell 0) (by omega) (.inr rfl) (fun g hg => .inl hg)) (by decide) rfl (enters_of Tryz.func137 (by kernel_rfl) rfl) (fun g hg => by rcases hg with hg | hg <;> omega)
   (fun pre W => Blk W g3 23 (byc (accD d pre)).toArray ∧ Blk W w.heap.size 23 cs0 ∧ Below w.heap.size w W ∧ Y.heap.size ≤ W.heap.size)
   ?hI (fun pre W h => h.2.2.2) ?h0 (fun x a' W => ∃ Bx, Y.heap.size ≤ Bx ∧ Blk W Bx 23 (byc x.2.val).toArray ∧ a' = { tmps := #[.slice (some ⟨g, off, none⟩) (q.length + 1) cap, undef, .pointer (some ⟨w.heap.size, 0, none⟩), .pointer (some ⟨g3, 0, none⟩), undef, .pointer (some ⟨Bx, 0, none⟩), .slice (some ⟨g, off, none⟩) (q.length + 1) cap, .int .i64 ((q.length : Int) + 1), .bool false, undef, .slice (some ⟨g, off, none⟩) (q.length + 1) cap, .slice (some ⟨g, off, none⟩) (q.length + 1) cap, .int .i64 ((q.length : Int) + 1), .int .i64 (q.length : Int), .pointer (some ⟨g, off + q.length * 32, none⟩), .agg (byc d).toArray, .slice (some ⟨g, off, none⟩) (q.length + 1) cap, .slice (some ⟨g, off, none⟩) (q.length + 1) cap, .int .i64 ((q.length : Int) + 1), .int .i64 (q.length : Int), .slice (some ⟨g, off, none⟩) q.length cap, .func (.func 137) #[] #[.pointer (some ⟨X.heap.size, 0, none⟩)], .int .i64 (x.1 : Int), dgv x.2.val, undef, undef, undef, undef], defers := [] }) (fun x a' s W W' row ⟨Bx, h1, h2, h3⟩ hg hr => ⟨Bx, h1, J3l (β := Unit) () W W' row h2 hg hr, h3⟩) ?assign ?body ?done
  case hI =>
   rintro pre W W' row ⟨q1, q2, q3, q4⟩ hg hr
   exact ⟨J3l (β := Unit) () W W' row q1 hg hr, J3l (β := Unit) () W W' row q2 hg hr, ownFrom_below (β := Unit) (Nat.le_refl _) (by omega) () W W' row q3 hg hr, Nat.le_trans q4 hg.size⟩
  case h0 => exact ⟨b3Y, b2Y, hBw, Nat.le_refl _⟩
  case assign =>
   intro l x W K _ hK
   simp only [boxAct, List.setIfInBounds_toArray, List.set_cons_succ, List.set_cons_zero]
   have hop := J7d hop l
   refine wpIn_region_lit ?_
   refine wpListIn_plain rfl fun K9 hK9 => J12 hop rfl (Jb (fun v5 w5 hh => ?_) (Jl hiD iD0 rfl))
   obtain ⟨rfl, rfl⟩ := hh
   refine hK9 _ _ ?_
   clear hK9 K9
   try simp only [PutS]
   have b5 : Blk (W.alloc (.cells (Value.agg (zb 32).toArray).cells 23)) W.heap.size 23 (zb 32).toArray := World.alloc_heap_new W _
   have B5 := (Below.refl _ W).alloc (Nat.le_refl _) (.cells (Value.agg (zb 32).toArray).cells 23)
   generalize W.alloc (.cells (Value.agg (zb 32).toArray).cells 23) = w5 at *
   refine wpListIn_plain rfl fun K10 hK10 => J12 hop rfl (Jb (fun v0 Z hh => ?_) (J5m (cells := byc x.2.val) 23 (.tmp 5) (.tmp 23) rfl rfl rfl b5 (by rw [J3, x.2.property.1]; decide) (by rw [Jc, J3, x.2.property.1]) (Jw _) (Ja _ _ (by rw [J3, x.2.property.1]; rfl))))
   obtain ⟨rfl, hZ, bZ⟩ := hh
   refine hK10 _ _ ?_
   clear hK10 K10
   try simp only [PutS]
   have BZ : Below W.heap.size W Z := J2 B5 hZ (Nat.le_refl _)
   gi_wp2_with fail
   exact hK _ _ BZ ⟨_, by assumption, bZ, rfl⟩
  case body =>
   rintro l pre x W a' ⟨Bx, hBx, b5, rfl⟩ ⟨q1, q2, q3, q4⟩ hlt
   have hop := J7d hop l
   have hao := Jgd d hpo pre
   gi_upto_region 6 with (fail)
   refine wpIn_region_lit ?_
   refine wpListIn_plain rfl fun K11 hK11 => J12 hop rfl (Jb (fun v24 w24 hh => ?_) (J1 (cs := byc x.2.val) Jg rfl (by rw [Jc, J3, x.2.property.1]) rfl rfl (J4 b5)))
   obtain ⟨rfl, rfl⟩ := hh
   refine hK11 _ _ ?_
   clear hK11 K11
   try simp only [PutS]
   refine wpListIn_plain rfl fun K12 hK12 => J12 hop rfl (Jb (fun v25 w25 hh => ?_) (J1 (cs := byc (accD d pre)) Jg rfl (by rw [Jc, J3, hao.1]) rfl rfl (J4 q1)))
   obtain ⟨rfl, rfl⟩ := hh
   refine hK12 _ _ ?_
   clear hK12 K12
   try simp only [PutS]
   refine wpListIn_plain rfl fun K13 hK13 => J12 hop rfl (Jb (fun v26 w26 hh => ?_) (J7 J3j (gPair x.2.val (accD d pre) x.2.property hao w25 (HL.out.keep q3)) rfl rfl))
   obtain ⟨rfl, B26⟩ := hh
   refine hK13 _ _ ?_
   clear hK13 K13
   try simp only [PutS]
   have q1b := q1.keep B26
   refine wpListIn_plain rfl fun K14 hK14 => J12 hop rfl (Jb (fun v0 Z hh => ?_) (J5m (cells := byc (pairD x.2.val (accD d pre))) 23 (.tmp 3) (.tmp 26) rfl rfl rfl q1b (by rw [List.size_toArray, J3, J3, hao.1, (J2c _ _).1]; decide) (by rw [Jc, J3, (J2c _ _).1]) (Jw _) (Ja _ _ (by rw [List.size_toArray, J3, J3, hao.1, (J2c _ _).1]))))
   obtain ⟨rfl, hZ, bZ⟩ := hh
   refine hK14 _ _ ?_
   clear hK14 K14
   try simp only [PutS]
   gi_wp2_with fail
   exact ⟨(J1j B26).trans (Jhd q1b hZ), (Keeps.of_below B26).trans (J8m hZ (fun h => by rcases h with h | h <;> omega)), by rw [Jab]; exact bZ, hZ.blk (q2.keep B26) (by omega), J2 (q3.trans (B26.mono q3.size)) hZ (by omega), by rw [hZ.size]; exact Nat.le_trans q4 B26.size⟩
  case done =>
   intro D V hD ⟨q1, q2, q3, q4⟩ hK
   rw [Jen, HT.out] at q1
   have hbo : DgOk (bagN pairD (q ++ [d])) := by
    rw [← HT.out, ← Jen]
    exact Jgd d hpo _
   gi_upto_region 7 with (fail)
   refine wpIn_region_lit ?_
   refine wpListIn_plain rfl fun K15 hK15 => J12 hop rfl (Jb (fun v27 w27 hh => ?_) (J1 (cs := byc (bagN pairD (q ++ [d]))) Jg rfl (by rw [Jc, J3, hbo.1]) rfl rfl (J4 q1)))
   obtain ⟨rfl, rfl⟩ := hh
   refine hK15 _ _ ?_
   clear hK15 K15
   try simp only [PutS]
   refine wpListIn_plain rfl fun K16 hK16 => J12 hop rfl (Jb (fun v0 Z hh => ?_) (J5m (cells := byc (bagN pairD (q ++ [d]))) 23 (.tmp 2) (.tmp 27) rfl rfl rfl q2 (by rw [J3, hbo.1, hcs0]; decide) (by rw [Jc, J3, hbo.1]) (Jw _) (Ja _ _ (by rw [J3, hbo.1, hcs0]))))
   obtain ⟨rfl, hZ, bZ⟩ := hh
   refine hK16 _ _ ?_
   clear hK16 K16
   try simp only [PutS]
   have hBZ : Below w.heap.size w Z := J2 q3 hZ (Nat.le_refl _)
   have hne : D ≠ w.heap.size := by omega
   have hKZ : Z.heap[D]? = some (.deferred (some [])) := (hZ.other D hne).trans hK
   gi_wp2_with fail
   refine ⟨by simp, .inl ⟨_, _, rfl, run_takeDeferred hKZ, ?_⟩⟩
   have bZ' : Blk (Z.putObj D (.deferred none)) w.heap.size 23 (byc (bagN pairD (q ++ [d]))).toArray := (World.putObj_heap_other (Ne.symm hne)).trans bZ
   exact ⟨dgv (bagN pairD (q ++ [d])), Jv (cs := byc (bagN pairD (q ++ [d]))) (g := w.heap.size) rfl rfl Jg rfl (by rw [Jc, J3, hbo.1]) bZ', rfl, J48 hBZ D _ (by omega)⟩
end
section
open Go.RowKit

theorem J5e : En Tryz.prog 22 := enters_of Tryz.func22 (by kernel_rfl) rfl
attribute [local irreducible] wpRg
theorem gRootM (m : Mt) (hN : MtN m) (n : Int) (hn : -9223372036854775808 ≤ n ∧ n ≤ 9223372036854775807) (vE : Value) (w : World) (hS : Lsh w) (hE : EpsA w vE m.eps) : Calls Tryz.prog 22 #[mtV m vE, .int .i64 n] w (Ret (.tuple #[dgv (rootM m n).1, .int .i64 (rootM m n).2]) w) := by
 have HSh := Lib.hid hS
 clear hS
 obtain ⟨S, hS⟩ : ∃ S, S = mtV m vE := ⟨_, rfl⟩
 rw [← hS]
 have HN := Lib.hid hN
 have HE := Lib.hid hE
 obtain ⟨A, cap, rfl⟩ := hE.len
 have hml := hN.eps
 clear hN hE
 go_enter Tryz.func22, Tryz.ntmps22
 go_upto_region 1 with (fail)
 refine J1h fun W hB hz b1 b2 => ?_
 have b1' : Blk W w.heap.size 35 (mtc m (.slice A m.eps.length cap)).toArray := by first | exact b1 | (rw [hS] at b1; exact b1)
 obtain ⟨cs0, hcs0, b2'⟩ : ∃ cs : Array Value, cs.size = 32 ∧ Blk W (w.heap.size + 1) 23 cs := ⟨_, rfl, b2⟩
 have hsl := HN.out.seed.1
 clear b1 b2 hz hS
 refine wp_region_lit ?_
 refine wpSk rfl (J1 (cs := mtc m (.slice A m.eps.length cap)) J9 rfl (by rw [J5, J0 _ _ hsl]) rfl rfl (J4 b1')) fun v6 w6 hh => ?_
 obtain ⟨rfl, rfl⟩ := hh
 try simp only [PutS]
 refine wpList_plain rfl fun K hK => ?_; go_big_op; refine hK _ _ ?_; clear hK K
 refine wpSk rfl (J7 J3u (gFind m HN.out (.slice A m.eps.length cap) n w6 (HE.out.keep hB)) rfl rfl) fun v8 w8 hh => ?_
 obtain ⟨rfl, B8⟩ := hh
 try simp only [PutS]
 have b1w := b1'.keep B8
 have b2w := b2'.keep B8
 have hBw := hB.trans (B8.mono hB.size)
 clear b1' b2' hB B8
 try simp only [PutS]
 by_cases hin : n < 0 ∨ n ≥ m.eps.length
 ·
  have hf : (decide (0 ≤ n) && decide (n < (m.eps.length : Int))) = false := by
   rw [Bool.and_eq_false_iff, decide_eq_false_iff_not, decide_eq_false_iff_not]
   omega
  have HR := Lib.hid (show rootM m n = (List.replicate 32 0, 4) by unfold rootM; rw [if_pos hin])
  rw [hf]
  go_upto_region 2 with (fail)
  refine wp_region_lit ?_
  refine wpSk rfl (J6y rfl) fun v10 w10 hh => ?_
  obtain ⟨rfl, rfl⟩ := hh
  try simp only [PutS]
  refine J6 rfl 23 (.tmp 4) (.tmp 10) rfl rfl (cells := byc (List.replicate 32 0)) rfl b2w (by rw [hcs0]; exact Nat.le_refl 32) (by rw [Jc]; rfl) (Jw _) (Ja _ _ (by rw [hcs0]; rfl)) fun X hX bX => ?_
  have hBX := J2 hBw hX (by omega)
  clear b1w b2w hX hf
  try simp only [PutS]
  go_wp2_with fail
  refine bodyPost_ret (v := .tuple #[dgv (List.replicate 32 0), .int .i64 4]) (res_mt (c1 := byc (List.replicate 32 0)) (g1 := w.heap.size + 1) rfl rfl rfl Jg rfl (by rw [Jc]; rfl) bX) rfl ?_
  rw [HR.out]
  exact ⟨rfl, hBX⟩
 ·
  have hf : (decide (0 ≤ n) && decide (n < (m.eps.length : Int))) = true := by
   rw [Bool.and_eq_true, decide_eq_true_iff, decide_eq_true_iff]
   omega
  have HR := Lib.hid (show rootM m n = (bagN pairD (m.at n.toNat).peaks, 0) by unfold rootM; rw [if_neg hin])
  rw [hf]
  obtain ⟨k, rfl⟩ : ∃ k : Nat, n = (k : Int) := ⟨n.toNat, by omega⟩
  rw [Int.toNat_natCast] at HR
  have hkl : k < m.eps.length := by omega
  obtain ⟨g, off, cap', p, d, hv, hcp, hg, e0, e1, e2, e3, e4, -, hpk⟩ := (HE.out.keep hBw).at (at_get m k hkl)
  cases hv
  obtain ⟨Ak, ck, rfl⟩ := hpk.len
  have hpl := (HN.out.ep _ _ (at_get m k hkl)).2.2.2
  have c33 := J11 b1w hsl
  have l1 := b1w.lt
  have HPK := Lib.hid hpk
  have hbo : DgOk (bagN pairD (m.at k).peaks) := by
   generalize (m.at k).peaks = ps at *
   have h8 := hpk.2
   clear HR HPK e4 hpk
   induction ps with
   | nil => exact ⟨rfl, fun x hx => by rw [(List.mem_replicate.1 hx).2]; decide⟩
   | cons d r ih =>
    rcases r with _ | ⟨q, r⟩
    · exact h8 d (List.mem_cons_self ..)
    · exact J2c _ _
  clear hin hf e0 e1 e2 e3 hpk
  go_upto_region 3 with (fail)
  refine wp_region_lit ?_
  iterate 6 (refine wpList_plain rfl fun K hK => ?_; go_big_op; refine hK _ _ ?_; clear hK K)
  refine wpSk rfl (J7 J8t (gBag (m.at k).peaks hpl _ w8 HPK.out (HSh.out.keep hBw)) rfl rfl) fun v17 w17 hh => ?_
  obtain ⟨rfl, B17⟩ := hh
  try simp only [PutS]
  have b2x := b2w.keep B17
  have hBx := hBw.trans (B17.mono hBw.size)
  refine J6 rfl 23 (.tmp 4) (.tmp 17) rfl rfl (cells := byc (bagN pairD (m.at k).peaks)) rfl b2x (by rw [J3, hbo.1, hcs0]; decide) (by rw [Jc, J3, hbo.1]) (Jw _) (Ja _ _ (by rw [J3, hbo.1, hcs0])) fun X hX bX => ?_
  have hBX := J2 hBx hX (by omega)
  have HBO := Lib.hid hbo
  clear b1w b2w b2x hX hBx c33 e4 hg l1 hbo
  try simp only [PutS]
  go_wp2_with fail
  refine bodyPost_ret (v := .tuple #[dgv (bagN pairD (m.at k).peaks), .int .i64 0]) (res_mt (c1 := byc (bagN pairD (m.at k).peaks)) (g1 := w.heap.size + 1) rfl rfl rfl Jg rfl (by rw [Jc, J3, HBO.out.1]) bX) rfl ?_
  rw [HR.out]
  exact ⟨rfl, hBX⟩
end
end Go.Proofs.YtoiampgfnidfdaaGreatDoor
