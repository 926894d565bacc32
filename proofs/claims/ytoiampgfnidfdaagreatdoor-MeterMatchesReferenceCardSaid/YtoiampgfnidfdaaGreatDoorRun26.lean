/-
  The reference's Run, by contract.
-/
import Derived.Test.YtoiampgfnidfdaaGreatDoorVsm26
import Derived.Test.YtoiampgfnidfdaaGreatDoorRlf26
import Derived.Test.YtoiampgfnidfdaaGreatDoorEn12
import Derived.Test.YtoiampgfnidfdaaGreatDoorRtk26
set_option maxRecDepth 100000
set_option maxHeartbeats 8000000
namespace Go.Proofs.YtoiampgfnidfdaaGreatDoor
open Go.RowKit
section
open Go.RowKit

theorem Jfg {w w' : World} (hb : Below w.heap.size w w') {a : Addr} {v : Value} (hc : w.cell? a = some v) : w'.cell? a = some v := (hb.cell (World.block_lt_of_cell? w a hc)).trans hc
theorem J6i : En Tryz.prog 96 := enters_of Tryz.func96 (by kernel_rfl) rfl
attribute [local irreducible] wpRg
theorem rRun26 (k : Nat) (hk : k ≤ 30) (s : St26) (hok : StOk26 k s) (o : Op26) (ho : o.ok) (vE vL : Value) (bs : Bse) (w : World) (hw : bs.ok w) (hE : EpsB bs vE s.1.eps) (hT : StmsB bs vL s.2) : Calls Tryz.prog 96 #[stV s.1 vE vL, .agg (opc o).toArray] w fun e W2 => ∃ vE' vL', e = .returned (stV (stepM s o).1 vE' vL') ∧ EpsB (bs.new w W2) vE' (stepM s o).1.eps ∧ StmsB (bs.new w W2) vL' (stepM s o).2 ∧ Below w.heap.size w W2 := by
 obtain ⟨m, ss⟩ := s
 dsimp only at hE hT
 dsimp only
 obtain ⟨n, hn⟩ : ∃ n, n = ss.length := ⟨_, rfl⟩
 obtain ⟨A, cap, rfl⟩ := hE.len
 obtain ⟨AL, cL, rfl⟩ := hT.len
 rw [← hn] at hT ⊢
 have hn9 : n ≤ 900 := by have h1 := hok.len; have h2 := hok.eps; dsimp only at h1 h2; omega
 have hsl : m.seed.length = 32 := hok.seed.1
 have HN := Lib.hid hn
 have HW := Lib.hid hw
 have HE := Lib.hid hE
 have HT := Lib.hid hT
 have HOK := Lib.hid hok
 have HO := Lib.hid ho
 obtain ⟨Sv, hSv⟩ : ∃ S, S = stV m (.slice A m.eps.length cap) (.slice AL n cL) := ⟨_, rfl⟩
 obtain ⟨Ov, hOv⟩ : ∃ S, S = Value.agg (opc o).toArray := ⟨_, rfl⟩
 rw [← hSv, ← hOv]
 clear hw hE hT hok ho hn
 go_enter Tryz.func96, Tryz.ntmps96
 go_upto_region 1 with (fail)
 refine J26 fun W hB hz b2 b3 b4 => ?_
 have b2' : Blk W w.heap.size 38 (stC m (.slice A m.eps.length cap) (.slice AL n cL)).toArray := by first | exact b2 | (rw [hSv] at b2; exact b2)
 have b3' : Blk W (w.heap.size + 1) 70 (opc o).toArray := by first | exact b3 | (rw [hOv] at b3; exact b3)
 have hwz := hz.out
 obtain ⟨g2, hg2⟩ : ∃ g, g = w.heap.size := ⟨_, rfl⟩
 rw [← hg2] at b2' b3' b4 hwz ⊢
 have HG2 := Lib.hid hg2
 have HZ := Lib.hid hwz
 have c34 := st_34 b2' hsl
 have l2 := b2'.lt
 clear b2 b3 hz hSv hOv hg2 hwz
 go_upto_region 2 with (fail)
 obtain ⟨iM, hiM, iM0, iM1, iM2⟩ := info_parts J2q
 obtain ⟨iS, hiS, iS0, iS1, iS2⟩ := info_parts Jfd
 obtain ⟨us, hu1, hu2⟩ := HT.out
 have hul : us.length = n := by rw [hu2.1, HN.out]
 rw [hul] at hu1
 have HU1 := Lib.hid hu1
 have HU2 := Lib.hid hu2
 have hWW := HW.out.below hB
 clear hu1 hu2
 refine wp_region_lit ?_
 refine wpList_plain rfl fun K hK => ?_; go_big_op; refine hK _ _ ?_; clear hK K
 refine wpSk rfl (J1 (cs := mtc m (.slice A m.eps.length cap)) J9 rfl (by rw [J5, J0 m _ hsl]) rfl rfl (st_mt b2')) fun v21 w21 hh => ?_
 obtain ⟨rfl, rfl⟩ := hh
 try simp only [PutS]
 refine wpSk rfl (Jl hiM iM0 rfl) fun v6 w6 hh => ?_
 obtain ⟨rfl, rfl⟩ := hh
 try simp only [PutS]
 have b6 : Blk (w21.alloc (.cells (Value.agg (mtc ⟨0, List.replicate 32 0, []⟩ (.slice none 0 0)).toArray).cells 35)) w21.heap.size 35 (mtc ⟨0, List.replicate 32 0, []⟩ (.slice none 0 0)).toArray := World.alloc_heap_new w21 _
 have B6 := (Below.refl _ w21).alloc (Nat.le_refl _) (.cells (Value.agg (mtc ⟨0, List.replicate 32 0, []⟩ (.slice none 0 0)).toArray).cells 35)
 generalize w21.alloc (.cells (Value.agg (mtc ⟨0, List.replicate 32 0, []⟩ (.slice none 0 0)).toArray).cells 35) = w6 at *
 refine J6 rfl 35 (.tmp 6) (.tmp 21) rfl rfl (cells := mtc m (.slice A m.eps.length cap)) rfl b6 (by rw [List.size_toArray, J0 ⟨0, List.replicate 32 0, []⟩ _ rfl, J0 m _ hsl]; exact Nat.le_refl _) (by rw [J5, J0 m _ hsl]) (Ji _ _ rfl) (Ja _ _ (by rw [List.size_toArray, J0 ⟨0, List.replicate 32 0, []⟩ _ rfl, J0 m _ hsl])) fun X6 hX6 bX6 => ?_
 have B26 : Below w21.heap.size w21 X6 := J2 B6 hX6 (Nat.le_refl _)
 have b26 := b2'.keep B26
 have c34 := st_34 b26 hsl
 have l2 := b26.lt
 obtain ⟨g7, hg7⟩ : ∃ g, g = w21.heap.size := ⟨_, rfl⟩
 rw [← hg7] at bX6 ⊢
 have hW7 : w21.heap.size ≤ g7 := by omega
 have h7l := bX6.lt
 clear b6 B6 hX6
 try simp only [PutS]
 go_upto_region 3 with (fail)
 refine wp_region_lit ?_
 refine wpSk rfl (J2w J8q hiS iS0 rfl) fun v22 w22 hh => ?_
 obtain ⟨⟨rfl, hl22, bl22⟩, B22⟩ := hh
 try simp only [PutS]
 have c34 := st_34 (b26.keep B22) hsl
 have l2 := (b26.keep B22).lt
 iterate 2 (refine wpList_plain rfl fun K hK => ?_; go_big_op; refine hK _ _ ?_; clear hK K)
 have B2W := B26.trans (B22.mono B26.size)
 have hWX := hWW.below B2W
 refine wpSk rfl (Jic (N := X6.heap.size) (b := X6.heap.size) rfl J8q hiS iS0 iS1 iS2 rfl (by decide) (Jkj HU2.out) rfl (Nat.le_refl _) bl22 rfl (HU1.out w22 hWX) (by unfold maxLen; omega) (by omega)) fun v25 X hh => ?_
 obtain ⟨hY, BY⟩ := hh
 try simp only [PutS]
 obtain ⟨A5, cap5, rfl⟩ := Jy hY.1
 have hne : (Value.slice A5 n cap5).ownBlock ≠ some g7 := fun h => by have := (Jk hY.1 h).1; omega
 have hBX : Below w21.heap.size w21 X := B2W.trans (BY.mono B2W.size)
 have hown : X.ownsRow w21.heap.size 64 2 (.slice A5 n cap5) n (us.flatMap smc) := J6t hY.1 (by have := B26.size; omega)
 have hn6 : w21.heap.size ≤ g7 := hW7
 have bX : Blk X g7 35 (mtc m (.slice A m.eps.length cap)).toArray := (bX6.keep B22).keep BY
 have hBw := hB.trans (hBX.mono hB.size)
 have b2x := b2'.keep hBX
 have b3x := b3'.keep hBX
 have b4x := b4.keep hBX
 clear b2' b3' c34 l2 b26 bl22 hl22 B22 BY B2W hWX hY B26 bX6 h7l hW7 hg7
 try simp only [PutS]
 obtain ⟨z4, hz4, b4z⟩ : ∃ z : Array Value, z.size = 35 ∧ Blk X (g2 + 1 + 1) 38 z := ⟨_, rfl, b4x⟩
 have hg2w := HG2.out
 have hZs := HZ.out
 have hg7 : g2 + 3 ≤ g7 := by omega
 obtain ⟨ob, hob⟩ : ∃ ob, ob = (Value.slice A5 n cap5).ownBlock := ⟨_, rfl⟩
 have HOB := Lib.hid hob
 rw [← hob] at hne
 have E0 : EpsB ⟨X, SS bs g2 (g2 + 1 + 1) g7 ob⟩ (.slice A m.eps.length cap) m.eps := HE.out.le (Bse.le_ok (c := ⟨X, SS bs g2 (g2 + 1 + 1) g7 ob⟩) (HW.out.below hBw) fun g hg => .inl hg)
 have U0 : Al (StrIB ⟨X, SS bs g2 (g2 + 1 + 1) g7 ob⟩) us ss := HU2.out.mono fun _ _ h => h.le (Bse.le_ok (c := ⟨X, SS bs g2 (g2 + 1 + 1) g7 ob⟩) (HW.out.below hBw) fun g hg => .inl hg)
 have HG7 := Lib.hid hg7
 have HE0 := Lib.hid E0
 have HU0 := Lib.hid U0
 rw [HZ.out] at hown
 have HOW := Lib.hid hown
 have HNE := Lib.hid hne
 have hk0 : X.cell? ⟨g2 + 1, 0, none⟩ = some (.int .u8 (o.kind : Int)) := (b3x.cell 0).trans rfl
 have hk1 : X.cell? ⟨g2 + 1, 1, none⟩ = some (.int .u8 (o.b0 : Int)) := (b3x.cell 1).trans rfl
 have hk2 : X.cell? ⟨g2 + 1, 2, none⟩ = some (.int .u8 (o.b1 : Int)) := (b3x.cell 2).trans rfl
 have hk3 : X.cell? ⟨g2 + 1, 3, none⟩ = some (.int .u8 (o.b2 : Int)) := (b3x.cell 3).trans rfl
 have hk4 : X.cell? ⟨g2 + 1, 4, none⟩ = some (.int .u8 (o.i : Int)) := (b3x.cell 4).trans rfl
 have hk5 : X.cell? ⟨g2 + 1, 5, none⟩ = some (.int .u8 (o.n : Int)) := (b3x.cell 5).trans rfl
 have l3 := b3x.lt
 have hXs := hBX.size
 clear hob b4x hg2w hZs E0 U0 hg7 hn6 hown hne hB HU1 HU2 hWW hul
 go_upto_region 9 with (fail)
 clear l2
 by_cases h0 : o.kind % 8 = 0
 ·
  have e0 : ((o.kind : Int) % 8) = 0 := by omega
  rw [e0]
  clear e0
  go_upto_region 10 with (fail)
  refine wp_region_lit ?_
  clear hk0 hk1 hk2 hk3
  refine wpList_plain rfl fun K hK => ?_; go_big_op; refine hK _ _ ?_; clear hK K
  refine wpSk rfl (J1 (cs := mtc m (.slice A m.eps.length cap)) J9 rfl (by rw [J5, J0 m _ hsl]) rfl rfl (st_mt b2x)) fun v62 w62 hh => ?_
  obtain ⟨rfl, rfl⟩ := hh
  try simp only [PutS]
  iterate 9 (refine wpList_plain rfl fun K hK => ?_; go_big_op; refine hK _ _ ?_; clear hK K)
  obtain ⟨⟨M, c⟩, hx⟩ : ∃ x, x = openM m ((o.i : Int) % 4) (1 + (o.n : Int) % 4) := ⟨_, rfl⟩
  have hM : M.seed.length = 32 := by have := Jad m ((o.i : Int) % 4) (1 + (o.n : Int) % 4); rw [← hx] at this; rw [this]; exact hsl
  refine wpSk rfl (Jm J3t ((rOpen26 m (HOK.out.n (by omega)) (by have := HOK.out.eps; dsimp only at this; omega) ((o.i : Int) % 4) (1 + (o.n : Int) % 4) (by omega) (by omega) (.slice A m.eps.length cap) ⟨w62, SS bs g2 (g2 + 1 + 1) g7 ob⟩ w62 (Bse.ok_self _) HE0.out).mono (J1v hx.symm)) rfl rfl) fun v72 w72 hh => ?_
  obtain ⟨vE1, rfl, E1, B1⟩ := hh
  try simp only [PutS]
  replace E1 := eps_to E1 (S := SS bs g2 (g2 + 1 + 1) g7 ob) fun g hg _ => ss_new (by have := b2x.lt; omega) b4z.lt bX.lt (fun g hg => (Jk HOW.out (by rw [← HOB.out]; exact hg)).2) g hg
  obtain ⟨A1, c1, rfl⟩ := E1.len
  replace b2x := b2x.keep B1
  replace b3x := b3x.keep B1
  replace b4z := b4z.keep B1
  replace bX := bX.keep B1
  replace HE0 := Lib.hid (HE0.out.fwd B1)
  replace HU0 := Lib.hid (J3a HU0.out B1)
  replace HOW := Lib.hid (Jq HOW.out (Nat.le_refl _) B1)
  replace hBw := hBw.trans ((B1).mono hBw.size)
  clear B1 hk4 hk5 l3
  refine wpList_plain rfl fun K hK => ?_; go_big_op; refine hK _ _ ?_; clear hK K
  refine wpSk rfl (Jh (v := mtV M (.slice A1 M.eps.length c1)) rfl rfl rfl) fun v73 w73 hh => ?_
  obtain ⟨rfl, rfl⟩ := hh
  try simp only [PutS]
  refine wpSk rfl (Jh (v := .int .i64 c) rfl rfl rfl) fun v74 w74 hh => ?_
  obtain ⟨rfl, rfl⟩ := hh
  try simp only [PutS]
  refine J6 rfl 35 (.tmp 6) (.tmp 68) rfl rfl (cells := mtc (M) (.slice A1 M.eps.length c1)) rfl bX (by rw [List.size_toArray, J0 m _ hsl, J0 (M) _ hM]; exact Nat.le_refl _) (by rw [J5, J0 (M) _ hM]) (Ji _ _ rfl) (Ja _ _ (by rw [List.size_toArray, J0 m _ hsl, J0 (M) _ hM])) fun Y hY bY => ?_
  have hgw : g2 + 3 ≤ g7 := HG7.out
  have hbw : bs.W.heap.size ≤ g2 := by have := HW.out.1; have := HG2.out; omega
  replace b2x := hY.blk b2x (by omega)
  replace b3x := hY.blk b3x (by omega)
  replace b4z := hY.blk b4z (by omega)
  replace HE0 := Lib.hid (HE0.out.pt hY (J2r hbw (by omega)))
  replace HU0 := Lib.hid (sts_pt HU0.out hY (J2r hbw (by omega)))
  replace E1 := (E1).pt hY (J2r hbw (by omega))
  replace HOW := Lib.hid (Jt HOW.out hY (by rw [← HOB.out]; exact HNE.out))
  replace hBw := J2 hBw hY (by have := HG2.out; omega)
  clear bX hY hgw hbw
  try simp only [PutS]
  go_upto_region 11 with (fail)
  refine wp_region_lit ?_
  iterate 2 (refine wpList_plain rfl fun K hK => ?_; go_big_op; refine hK _ _ ?_; clear hK K)
  refine wpSk rfl (J15 (cs := #[.slice none 0 0, .slice none 0 0]) J8q hiS iS0 iS1 (by decide) (by decide) rfl rfl rfl) fun v77 w77 hh => ?_
  obtain ⟨⟨rfl, hl77, b77⟩, B77⟩ := hh
  try simp only [PutS]
  have hN7 : g2 + 1 + 1 + 1 ≤ Y.heap.size := by have := b4z.lt; omega
  have hg7Y := bY.lt
  replace b2x := b2x.keep B77
  replace b3x := b3x.keep B77
  replace b4z := b4z.keep B77
  replace bY := bY.keep B77
  replace HE0 := Lib.hid (HE0.out.fwd B77)
  replace HU0 := Lib.hid (J3a HU0.out B77)
  replace E1 := E1.fwd B77
  replace HOW := Lib.hid (Jq HOW.out (Nat.le_refl _) B77)
  replace hBw := hBw.trans (B77.mono hBw.size)
  have h77 := B77.size
  refine J29 (u := .slice A5 n cap5) (base := g2 + 1 + 1 + 1) (n := Y.heap.size) (cl := [.slice none 0 0, .slice none 0 0]) (cs := us.flatMap smc) rfl (.tmp 70) (.tmp 72) rfl J8q hiS iS0 iS1 iS2 rfl (by decide) rfl (fun v hv => by simp only [List.mem_cons, List.not_mem_nil, or_false] at hv; rcases hv with rfl | rfl <;> rfl) rfl rfl HOW.out b77 (by unfold maxLen; omega) (by omega) (by omega) fun v78 w78 own78 gr78 B78 hat78 => ?_
  obtain ⟨A78, k78, rfl⟩ := Jy own78
  have hbw : bs.W.heap.size ≤ g2 := by have := HW.out.1; have := HG2.out; omega
  rw [← HOB.out] at gr78
  have hob2 : ∀ g, ob = some g → g2 ≤ g := fun g hg => by have := (Jk HOW.out (by rw [← HOB.out]; exact hg)).1; omega
  replace b2x := b2x.below B78 (by omega)
  replace b3x := b3x.below B78 (by omega)
  replace b4z := b4z.below B78 (by omega)
  replace bY : Blk w78 g7 35 _ := (gr78.block g7 bY.lt (fun e => HNE.out e.symm)).trans bY
  replace HE0 := Lib.hid (Jdc HE0.out gr78 hbw hob2)
  replace HU0 := Lib.hid (Jid HU0.out gr78 hbw hob2)
  replace E1 := Jdc E1 gr78 hbw hob2
  replace hBw := hBw.trans (B78.mono (by have := HG2.out; omega))
  have HOY := Lib.hid own78
  have hul : us.length = n := by rw [HU0.out.1, HN.out]
  clear HOW own78 gr78 hat78 hob2 hbw B77 b77 hl77 h77 B78 hg7Y hN7
  by_cases hc : c = 0
  ·
   subst hc
   have HC := Lib.hid (show stepM (m, ss) o = (M, ss ++ [[]]) by rw [Jgj h0 hx, if_pos rfl])
   have HU1 : Al (StrIB ⟨w78, SS bs g2 (g2 + 1 + 1) g7 ob⟩) (us ++ [⟨.slice none 0 0, .slice none 0 0⟩]) (ss ++ [[]]) := Al.snoc HU0.out ⟨fun Y _ => nil_rd Y 4, fun Y _ => nil_rd Y 1⟩
   have HOZ : w78.ownsRow (g2 + 1 + 1 + 1) 64 2 (.slice A78 (n + 1) k78) (n + 1) ((us ++ [(⟨.slice none 0 0, .slice none 0 0⟩ : StrW)]).flatMap smc) := by rw [List.flatMap_append]; exact HOY.out
   clear hx
   try simp only [PutS]
   go_upto_region 25 with (fail)
   refine wp_region_lit ?_
   refine wpSk rfl (J1 (cs := mtc (M) (.slice A1 M.eps.length c1)) J9 rfl (by rw [J5, J0 _ _ hM]) rfl rfl (J4 bY)) fun v162 w162 hh => ?_
   obtain ⟨rfl, rfl⟩ := hh
   try simp only [PutS]
   refine wpList_plain rfl fun K hK => ?_; go_big_op; refine hK _ _ ?_; clear hK K
   refine wpSk rfl (J5g hM rfl rfl rfl) fun v164 w164 hh => ?_
   obtain ⟨rfl, rfl⟩ := hh
   try simp only [PutS]
   refine J6 rfl 38 (.tmp 4) (.tmp 168) rfl rfl (cells := stC (M) (.slice A1 M.eps.length c1) (.slice A78 (n + 1) k78)) rfl b4z (by rw [hz4, Jj _ _ _ hM]; exact Nat.le_refl _) (by rw [Jo, Jj _ _ _ hM]) (J28 _ _ _ rfl rfl) (Ja _ _ (by rw [hz4, Jj _ _ _ hM])) fun Z hZ bZ => ?_
   have hBZ := J2 hBw hZ (by have := HG2.out; omega)
   have hbw : bs.W.heap.size ≤ g2 := by have := HW.out.1; have := HG2.out; omega
   have EZ : EpsB (bs.new w Z) (.slice A1 M.eps.length c1) (M).eps := ((E1).pt hZ (J4h hbw (by omega))).sub fun g hg _ => by rw [← HG2.out]; exact ss_out hg
   have TZ : StmsB (bs.new w Z) (.slice A78 (n + 1) k78) (ss ++ [[]]) := J87 (Jt (HOZ) hZ (fun e => by have := (Jk (HOZ) e).1; omega)) (sts_pt (HU1) hZ (J4h hbw (by omega))) (by rw [List.length_append, hul]; rfl) (by omega) HG2.out (by omega)
   try simp only [PutS]
   go_wp2_with fail
   refine bodyPost_ret (v := stV (M) (.slice A1 M.eps.length c1) (.slice A78 (n + 1) k78)) (Jv (cs := stC (M) (.slice A1 M.eps.length c1) (.slice A78 (n + 1) k78)) (g := g2 + 1 + 1) rfl rfl Ju rfl (by rw [Jo, Jj _ _ _ hM]) bZ) rfl ?_
   rw [HC.out]
   exact ⟨_, _, rfl, EZ, TZ, hBZ⟩
  ·
   have HC := Lib.hid (show stepM (m, ss) o = (m, ss) by rw [Jgj h0 hx, if_neg hc])
   clear hx
   try simp only [PutS]
   go_upto_region 24 with (fail)
   refine wp_region_lit ?_
   refine wpSk rfl (J1 (cs := stC m (.slice A m.eps.length cap) (.slice AL n cL)) Ju rfl (by rw [Jo, Jj _ _ _ hsl]) rfl rfl (J4 b2x)) fun v161 w161 hh => ?_
   obtain ⟨rfl, rfl⟩ := hh
   try simp only [PutS]
   refine J6 rfl 38 (.tmp 4) (.tmp 165) rfl rfl (cells := stC m (.slice A m.eps.length cap) (.slice AL n cL)) rfl b4z (by rw [hz4, Jj _ _ _ hsl]; exact Nat.le_refl _) (by rw [Jo, Jj _ _ _ hsl]) (J28 _ _ _ rfl rfl) (Ja _ _ (by rw [hz4, Jj _ _ _ hsl])) fun Z hZ bZ => ?_
   have hBZ := J2 hBw hZ (by have := HG2.out; omega)
   try simp only [PutS]
   go_wp2_with fail
   refine bodyPost_ret (v := stV m (.slice A m.eps.length cap) (.slice AL n cL)) (Jv (cs := stC m (.slice A m.eps.length cap) (.slice AL n cL)) (g := g2 + 1 + 1) rfl rfl Ju rfl (by rw [Jo, Jj _ _ _ hsl]) bZ) rfl ?_
   rw [HC.out]
   exact ⟨_, _, rfl, HE.out.le (Bse.le_new (HW.out.below hBZ)), HT.out.le (Bse.le_new (HW.out.below hBZ)), hBZ⟩
 by_cases h1 : o.kind % 8 = 1
 ·
  have e0 : ((o.kind : Int) % 8) = 1 := by omega
  rw [e0]
  clear e0 h0 hk0 hk1 hk2 hk3 hk4 hk5 l3
  go_upto_region 13 with (fail)
  refine wp_region_lit ?_
  refine wpList_plain rfl fun K hK => ?_; go_big_op; refine hK _ _ ?_; clear hK K
  refine wpSk rfl (J1 (cs := mtc m (.slice A m.eps.length cap)) J9 rfl (by rw [J5, J0 m _ hsl]) rfl rfl (st_mt b2x)) fun v83 w83 hh => ?_
  obtain ⟨rfl, rfl⟩ := hh
  try simp only [PutS]
  obtain ⟨⟨M, c⟩, hx⟩ : ∃ x, x = closeM m := ⟨_, rfl⟩
  have hM : M.seed.length = 32 := by have := J9p m; rw [← hx] at this; rw [this]; exact hsl
  refine wpSk rfl (Jm J3g ((rClose26 m (HOK.out.n (by omega)) (.slice A m.eps.length cap) ⟨w83, SS bs g2 (g2 + 1 + 1) g7 ob⟩ w83 (Bse.ok_self _) HE0.out).mono (J1v hx.symm)) rfl rfl) fun v84 w84 hh => ?_
  obtain ⟨vE1, rfl, E1, B1⟩ := hh
  try simp only [PutS]
  replace E1 := eps_to E1 (S := SS bs g2 (g2 + 1 + 1) g7 ob) fun g hg _ => ss_new (by have := b2x.lt; omega) b4z.lt bX.lt (fun g hg => (Jk HOW.out (by rw [← HOB.out]; exact hg)).2) g hg
  obtain ⟨A1, c1, rfl⟩ := E1.len
  replace b2x := b2x.keep B1
  replace b3x := b3x.keep B1
  replace b4z := b4z.keep B1
  replace bX := bX.keep B1
  replace HE0 := Lib.hid (HE0.out.fwd B1)
  replace HU0 := Lib.hid (J3a HU0.out B1)
  replace HOW := Lib.hid (Jq HOW.out (Nat.le_refl _) B1)
  replace hBw := hBw.trans ((B1).mono hBw.size)
  clear B1
  refine wpList_plain rfl fun K hK => ?_; go_big_op; refine hK _ _ ?_; clear hK K
  refine wpSk rfl (Jh (v := mtV M (.slice A1 M.eps.length c1)) rfl rfl rfl) fun v85 w85 hh => ?_
  obtain ⟨rfl, rfl⟩ := hh
  try simp only [PutS]
  refine wpSk rfl (Jh (v := .int .i64 c) rfl rfl rfl) fun v86 w86 hh => ?_
  obtain ⟨rfl, rfl⟩ := hh
  try simp only [PutS]
  refine J6 rfl 35 (.tmp 6) (.tmp 80) rfl rfl (cells := mtc (M) (.slice A1 M.eps.length c1)) rfl bX (by rw [List.size_toArray, J0 m _ hsl, J0 (M) _ hM]; exact Nat.le_refl _) (by rw [J5, J0 (M) _ hM]) (Ji _ _ rfl) (Ja _ _ (by rw [List.size_toArray, J0 m _ hsl, J0 (M) _ hM])) fun Y hY bY => ?_
  have hgw : g2 + 3 ≤ g7 := HG7.out
  have hbw : bs.W.heap.size ≤ g2 := by have := HW.out.1; have := HG2.out; omega
  replace b2x := hY.blk b2x (by omega)
  replace b3x := hY.blk b3x (by omega)
  replace b4z := hY.blk b4z (by omega)
  replace HE0 := Lib.hid (HE0.out.pt hY (J2r hbw (by omega)))
  replace HU0 := Lib.hid (sts_pt HU0.out hY (J2r hbw (by omega)))
  replace E1 := (E1).pt hY (J2r hbw (by omega))
  replace HOW := Lib.hid (Jt HOW.out hY (by rw [← HOB.out]; exact HNE.out))
  replace hBw := J2 hBw hY (by have := HG2.out; omega)
  clear bX hY hgw hbw
  have hul : us.length = n := by rw [HU0.out.1, HN.out]
  have HOZ := HOW.out
  have HU1 := HU0.out
  by_cases hc : c = 0
  ·
   subst hc
   have HC := Lib.hid (show stepM (m, ss) o = (M, ss) by rw [Jgk h1 hx, if_pos rfl])
   clear hx
   try simp only [PutS]
   go_upto_region 25 with (fail)
   refine wp_region_lit ?_
   refine wpSk rfl (J1 (cs := mtc (M) (.slice A1 M.eps.length c1)) J9 rfl (by rw [J5, J0 _ _ hM]) rfl rfl (J4 bY)) fun v162 w162 hh => ?_
   obtain ⟨rfl, rfl⟩ := hh
   try simp only [PutS]
   refine wpList_plain rfl fun K hK => ?_; go_big_op; refine hK _ _ ?_; clear hK K
   refine wpSk rfl (J5g hM rfl rfl rfl) fun v164 w164 hh => ?_
   obtain ⟨rfl, rfl⟩ := hh
   try simp only [PutS]
   refine J6 rfl 38 (.tmp 4) (.tmp 168) rfl rfl (cells := stC (M) (.slice A1 M.eps.length c1) (.slice A5 n cap5)) rfl b4z (by rw [hz4, Jj _ _ _ hM]; exact Nat.le_refl _) (by rw [Jo, Jj _ _ _ hM]) (J28 _ _ _ rfl rfl) (Ja _ _ (by rw [hz4, Jj _ _ _ hM])) fun Z hZ bZ => ?_
   have hBZ := J2 hBw hZ (by have := HG2.out; omega)
   have hbw : bs.W.heap.size ≤ g2 := by have := HW.out.1; have := HG2.out; omega
   have EZ : EpsB (bs.new w Z) (.slice A1 M.eps.length c1) (M).eps := ((E1).pt hZ (J4h hbw (by omega))).sub fun g hg _ => by rw [← HG2.out]; exact ss_out hg
   have TZ : StmsB (bs.new w Z) (.slice A5 n cap5) (ss) := J87 (Jt (HOZ) hZ (fun e => by have := (Jk (HOZ) e).1; omega)) (sts_pt (HU1) hZ (J4h hbw (by omega))) hul (by omega) HG2.out (by omega)
   try simp only [PutS]
   go_wp2_with fail
   refine bodyPost_ret (v := stV (M) (.slice A1 M.eps.length c1) (.slice A5 n cap5)) (Jv (cs := stC (M) (.slice A1 M.eps.length c1) (.slice A5 n cap5)) (g := g2 + 1 + 1) rfl rfl Ju rfl (by rw [Jo, Jj _ _ _ hM]) bZ) rfl ?_
   rw [HC.out]
   exact ⟨_, _, rfl, EZ, TZ, hBZ⟩
  ·
   have HC := Lib.hid (show stepM (m, ss) o = (m, ss) by rw [Jgk h1 hx, if_neg hc])
   clear hx
   try simp only [PutS]
   go_upto_region 24 with (fail)
   refine wp_region_lit ?_
   refine wpSk rfl (J1 (cs := stC m (.slice A m.eps.length cap) (.slice AL n cL)) Ju rfl (by rw [Jo, Jj _ _ _ hsl]) rfl rfl (J4 b2x)) fun v161 w161 hh => ?_
   obtain ⟨rfl, rfl⟩ := hh
   try simp only [PutS]
   refine J6 rfl 38 (.tmp 4) (.tmp 165) rfl rfl (cells := stC m (.slice A m.eps.length cap) (.slice AL n cL)) rfl b4z (by rw [hz4, Jj _ _ _ hsl]; exact Nat.le_refl _) (by rw [Jo, Jj _ _ _ hsl]) (J28 _ _ _ rfl rfl) (Ja _ _ (by rw [hz4, Jj _ _ _ hsl])) fun Z hZ bZ => ?_
   have hBZ := J2 hBw hZ (by have := HG2.out; omega)
   try simp only [PutS]
   go_wp2_with fail
   refine bodyPost_ret (v := stV m (.slice A m.eps.length cap) (.slice AL n cL)) (Jv (cs := stC m (.slice A m.eps.length cap) (.slice AL n cL)) (g := g2 + 1 + 1) rfl rfl Ju rfl (by rw [Jo, Jj _ _ _ hsl]) bZ) rfl ?_
   rw [HC.out]
   exact ⟨_, _, rfl, HE.out.le (Bse.le_new (HW.out.below hBZ)), HT.out.le (Bse.le_new (HW.out.below hBZ)), hBZ⟩
 by_cases h2 : o.kind % 8 = 2
 ·
  have e0 : ((o.kind : Int) % 8) = 2 := by omega
  rw [e0]
  clear e0 h0 h1 hk0 hk1 hk2 hk3 hk4
  go_upto_region 15 with (fail)
  refine wp_region_lit ?_
  refine wpList_plain rfl fun K hK => ?_; go_big_op; refine hK _ _ ?_; clear hK K
  refine wpSk rfl (J1 (cs := mtc m (.slice A m.eps.length cap)) J9 rfl (by rw [J5, J0 m _ hsl]) rfl rfl (st_mt b2x)) fun v91 w91 hh => ?_
  obtain ⟨rfl, rfl⟩ := hh
  try simp only [PutS]
  iterate 4 (refine wpList_plain rfl fun K hK => ?_; go_big_op; refine hK _ _ ?_; clear hK K)
  obtain ⟨⟨M, l, c⟩, hx⟩ : ∃ x, x = spendM m ((o.n : Int) % 4) := ⟨_, rfl⟩
  have hM : M.seed.length = 32 := by have := J9q m ((o.n : Int) % 4); rw [← hx] at this; rw [this]; exact hsl
  refine wpSk rfl (Jm J3i ((rSpend26 m (HOK.out.n (by omega)) ((o.n : Int) % 4) (by omega) (.slice A m.eps.length cap) ⟨w91, SS bs g2 (g2 + 1 + 1) g7 ob⟩ w91 (Bse.ok_self _) HE0.out).mono (J71 hx.symm)) rfl rfl) fun v96 w96 hh => ?_
  obtain ⟨vE1, vL1, rfl, E1, R1, B1⟩ := hh
  try simp only [PutS]
  replace E1 := eps_to E1 (S := SS bs g2 (g2 + 1 + 1) g7 ob) fun g hg _ => ss_new (by have := b2x.lt; omega) b4z.lt bX.lt (fun g hg => (Jk HOW.out (by rw [← HOB.out]; exact hg)).2) g hg
  obtain ⟨A1, c1, rfl⟩ := E1.len
  replace b2x := b2x.keep B1
  replace b3x := b3x.keep B1
  replace b4z := b4z.keep B1
  replace bX := bX.keep B1
  replace HE0 := Lib.hid (HE0.out.fwd B1)
  replace HU0 := Lib.hid (J3a HU0.out B1)
  replace HOW := Lib.hid (Jq HOW.out (Nat.le_refl _) B1)
  replace hBw := hBw.trans ((B1).mono hBw.size)
  clear B1 R1 hk5 l3
  refine wpList_plain rfl fun K hK => ?_; go_big_op; refine hK _ _ ?_; clear hK K
  refine wpSk rfl (Jh (v := mtV M (.slice A1 M.eps.length c1)) rfl rfl rfl) fun v97 w97 hh => ?_
  obtain ⟨rfl, rfl⟩ := hh
  try simp only [PutS]
  refine wpSk rfl (Jh (v := vL1) rfl rfl rfl) fun v98 w98 hh => ?_
  obtain ⟨rfl, rfl⟩ := hh
  try simp only [PutS]
  refine wpSk rfl (Jh (v := .int .i64 c) rfl rfl rfl) fun v99 w99 hh => ?_
  obtain ⟨rfl, rfl⟩ := hh
  try simp only [PutS]
  refine wpSk rfl (Jl hiM iM0 rfl) fun v9 w9 hh => ?_
  obtain ⟨rfl, rfl⟩ := hh
  try simp only [PutS]
  have b9 : Blk (w99.alloc (.cells (Value.agg (mtc ⟨0, List.replicate 32 0, []⟩ (.slice none 0 0)).toArray).cells 35)) w99.heap.size 35 (mtc ⟨0, List.replicate 32 0, []⟩ (.slice none 0 0)).toArray := World.alloc_heap_new w99 _
  have B9 := (Below.refl _ w99).alloc (Nat.le_refl _) (.cells (Value.agg (mtc ⟨0, List.replicate 32 0, []⟩ (.slice none 0 0)).toArray).cells 35)
  generalize w99.alloc (.cells (Value.agg (mtc ⟨0, List.replicate 32 0, []⟩ (.slice none 0 0)).toArray).cells 35) = w9 at *
  refine J6 rfl 35 (.tmp 9) (.tmp 92) rfl rfl (cells := mtc M (.slice A1 M.eps.length c1)) rfl b9 (by rw [List.size_toArray, J0 ⟨0, List.replicate 32 0, []⟩ _ rfl, J0 M _ hM]; exact Nat.le_refl _) (by rw [J5, J0 M _ hM]) (Ji _ _ rfl) (Ja _ _ (by rw [List.size_toArray, J0 ⟨0, List.replicate 32 0, []⟩ _ rfl, J0 M _ hM])) fun X9 hX9 bX9 => ?_
  have BB9 : Below w99.heap.size w99 X9 := J2 B9 hX9 (Nat.le_refl _)
  obtain ⟨g9, hg9⟩ : ∃ g, g = w99.heap.size := ⟨_, rfl⟩
  have hne9 : g9 ≠ g7 := by have := bX.lt; omega
  replace b2x := b2x.keep BB9
  replace b3x := b3x.keep BB9
  replace b4z := b4z.keep BB9
  replace bX := bX.keep BB9
  replace HE0 := Lib.hid (HE0.out.fwd BB9)
  replace HU0 := Lib.hid (J3a HU0.out BB9)
  replace HOW := Lib.hid (Jq HOW.out (Nat.le_refl _) BB9)
  replace hBw := hBw.trans ((BB9).mono hBw.size)
  replace E1 := E1.fwd BB9
  rw [← hg9] at bX9 ⊢
  clear b9 B9 hX9 BB9 hg9
  try simp only [PutS]
  go_upto_region 16 with (fail)
  refine wp_region_lit ?_
  refine wpSk rfl (J1 (cs := mtc M (.slice A1 M.eps.length c1)) J9 rfl (by rw [J5, J0 _ _ hM]) rfl rfl (J4 bX9)) fun v100 w100 hh => ?_
  obtain ⟨rfl, rfl⟩ := hh
  try simp only [PutS]
  refine J6 rfl 35 (.tmp 6) (.tmp 95) rfl rfl (cells := mtc (M) (.slice A1 M.eps.length c1)) rfl bX (by rw [List.size_toArray, J0 m _ hsl, J0 (M) _ hM]; exact Nat.le_refl _) (by rw [J5, J0 (M) _ hM]) (Ji _ _ rfl) (Ja _ _ (by rw [List.size_toArray, J0 m _ hsl, J0 (M) _ hM])) fun Y hY bY => ?_
  have hgw : g2 + 3 ≤ g7 := HG7.out
  have hbw : bs.W.heap.size ≤ g2 := by have := HW.out.1; have := HG2.out; omega
  replace b2x := hY.blk b2x (by omega)
  replace b3x := hY.blk b3x (by omega)
  replace b4z := hY.blk b4z (by omega)
  replace HE0 := Lib.hid (HE0.out.pt hY (J2r hbw (by omega)))
  replace HU0 := Lib.hid (sts_pt HU0.out hY (J2r hbw (by omega)))
  replace E1 := (E1).pt hY (J2r hbw (by omega))
  replace HOW := Lib.hid (Jt HOW.out hY (by rw [← HOB.out]; exact HNE.out))
  replace hBw := J2 hBw hY (by have := HG2.out; omega)
  clear bX hY hgw hbw
  have hul : us.length = n := by rw [HU0.out.1, HN.out]
  have HOZ := HOW.out
  have HU1 := HU0.out
  clear bX9 hne9
  by_cases hc : c = 0
  ·
   subst hc
   have HC := Lib.hid (show stepM (m, ss) o = (M, ss) by rw [Jgl h2 hx, if_pos rfl])
   clear hx
   try simp only [PutS]
   go_upto_region 25 with (fail)
   refine wp_region_lit ?_
   refine wpSk rfl (J1 (cs := mtc (M) (.slice A1 M.eps.length c1)) J9 rfl (by rw [J5, J0 _ _ hM]) rfl rfl (J4 bY)) fun v162 w162 hh => ?_
   obtain ⟨rfl, rfl⟩ := hh
   try simp only [PutS]
   refine wpList_plain rfl fun K hK => ?_; go_big_op; refine hK _ _ ?_; clear hK K
   refine wpSk rfl (J5g hM rfl rfl rfl) fun v164 w164 hh => ?_
   obtain ⟨rfl, rfl⟩ := hh
   try simp only [PutS]
   refine J6 rfl 38 (.tmp 4) (.tmp 168) rfl rfl (cells := stC (M) (.slice A1 M.eps.length c1) (.slice A5 n cap5)) rfl b4z (by rw [hz4, Jj _ _ _ hM]; exact Nat.le_refl _) (by rw [Jo, Jj _ _ _ hM]) (J28 _ _ _ rfl rfl) (Ja _ _ (by rw [hz4, Jj _ _ _ hM])) fun Z hZ bZ => ?_
   have hBZ := J2 hBw hZ (by have := HG2.out; omega)
   have hbw : bs.W.heap.size ≤ g2 := by have := HW.out.1; have := HG2.out; omega
   have EZ : EpsB (bs.new w Z) (.slice A1 M.eps.length c1) (M).eps := ((E1).pt hZ (J4h hbw (by omega))).sub fun g hg _ => by rw [← HG2.out]; exact ss_out hg
   have TZ : StmsB (bs.new w Z) (.slice A5 n cap5) (ss) := J87 (Jt (HOZ) hZ (fun e => by have := (Jk (HOZ) e).1; omega)) (sts_pt (HU1) hZ (J4h hbw (by omega))) hul (by omega) HG2.out (by omega)
   try simp only [PutS]
   go_wp2_with fail
   refine bodyPost_ret (v := stV (M) (.slice A1 M.eps.length c1) (.slice A5 n cap5)) (Jv (cs := stC (M) (.slice A1 M.eps.length c1) (.slice A5 n cap5)) (g := g2 + 1 + 1) rfl rfl Ju rfl (by rw [Jo, Jj _ _ _ hM]) bZ) rfl ?_
   rw [HC.out]
   exact ⟨_, _, rfl, EZ, TZ, hBZ⟩
  ·
   have HC := Lib.hid (show stepM (m, ss) o = (m, ss) by rw [Jgl h2 hx, if_neg hc])
   clear hx
   try simp only [PutS]
   go_upto_region 24 with (fail)
   refine wp_region_lit ?_
   refine wpSk rfl (J1 (cs := stC m (.slice A m.eps.length cap) (.slice AL n cL)) Ju rfl (by rw [Jo, Jj _ _ _ hsl]) rfl rfl (J4 b2x)) fun v161 w161 hh => ?_
   obtain ⟨rfl, rfl⟩ := hh
   try simp only [PutS]
   refine J6 rfl 38 (.tmp 4) (.tmp 165) rfl rfl (cells := stC m (.slice A m.eps.length cap) (.slice AL n cL)) rfl b4z (by rw [hz4, Jj _ _ _ hsl]; exact Nat.le_refl _) (by rw [Jo, Jj _ _ _ hsl]) (J28 _ _ _ rfl rfl) (Ja _ _ (by rw [hz4, Jj _ _ _ hsl])) fun Z hZ bZ => ?_
   have hBZ := J2 hBw hZ (by have := HG2.out; omega)
   try simp only [PutS]
   go_wp2_with fail
   refine bodyPost_ret (v := stV m (.slice A m.eps.length cap) (.slice AL n cL)) (Jv (cs := stC m (.slice A m.eps.length cap) (.slice AL n cL)) (g := g2 + 1 + 1) rfl rfl Ju rfl (by rw [Jo, Jj _ _ _ hsl]) bZ) rfl ?_
   rw [HC.out]
   exact ⟨_, _, rfl, HE.out.le (Bse.le_new (HW.out.below hBZ)), HT.out.le (Bse.le_new (HW.out.below hBZ)), hBZ⟩
 by_cases h3 : o.kind % 8 = 3
 ·
  have e0 : ((o.kind : Int) % 8) = 3 := by omega
  rw [e0]
  clear e0 h0 h1 h2 hk0 hk1 hk2 hk3 hk5
  go_upto_region 19 with (fail)
  obtain ⟨q, hq⟩ : ∃ q, q = o.i % 8 := ⟨_, rfl⟩
  have hul : us.length = n := by rw [HU0.out.1, HN.out]
  have e8 : ((o.i : Int) % 8) = (q : Int) := by omega
  have HQ := Lib.hid hq
  have k4 := Je l3 hk4
  clear hq
  by_cases hn1 : 0 < n
  rotate_left 1
  ·
   have HC := Lib.hid (show stepM (m, ss) o = (m, ss) by
    refine Jbh h3 fun r hr => ?_
    have hz : ss = [] := List.eq_nil_of_length_eq_zero (by have := HN.out; omega)
    rw [hz] at hr
    simp at hr)
   rw [show (n : Int) - 1 = -1 by omega]
   clear hn1 hul e8 hk4 l3
   refine Jd 28 [] (by kernel_rfl) (by kernel_rfl) (by kernel_rfl) trivial ?_
   iterate 3 (refine rg_det rfl rfl rfl (fun K hK => ?_); go_big_quiet_op; refine hK _ ?_; clear hK K)
   iterate 11 (refine J5r (by kernel_rfl) ?_; intro a' ha; simp only [PutS] at ha; subst ha)
   iterate 2 (refine rg_det rfl rfl rfl (fun K hK => ?_); go_big_quiet_op; refine hK _ ?_; clear hK K)
   iterate 11 (refine J5r (by kernel_rfl) ?_; intro a' ha; simp only [PutS] at ha; subst ha)
   refine rg_det rfl rfl rfl (fun K hK => ?_)
   go_big_quiet_op
   refine hK _ ?_; clear hK K
   refine rg_nil (fun w' hw' hF => ?_)
   obtain ⟨z, rfl⟩ := hw'
   simp only [List.drop_succ_cons, List.drop_zero]
   clear k4
   replace b2x := b2x.keep z.h
   replace b3x := b3x.keep z.h
   replace b4z := b4z.keep z.h
   replace bX := bX.keep z.h
   replace HE0 := Lib.hid (HE0.out.fwd z.h)
   replace HU0 := Lib.hid (J3a HU0.out z.h)
   replace HOW := Lib.hid (Jq HOW.out (Nat.le_refl _) z.h)
   replace hBw := hBw.trans ((z.h).mono hBw.size)
   clear hF
   go_upto_region 23 with (fail)
   go_upto_region 24 with (fail)
   refine wp_region_lit ?_
   refine wpSk rfl (J1 (cs := stC m (.slice A m.eps.length cap) (.slice AL n cL)) Ju rfl (by rw [Jo, Jj _ _ _ hsl]) rfl rfl (J4 b2x)) fun v161 w161 hh => ?_
   obtain ⟨rfl, rfl⟩ := hh
   try simp only [PutS]
   refine J6 rfl 38 (.tmp 4) (.tmp 165) rfl rfl (cells := stC m (.slice A m.eps.length cap) (.slice AL n cL)) rfl b4z (by rw [hz4, Jj _ _ _ hsl]; exact Nat.le_refl _) (by rw [Jo, Jj _ _ _ hsl]) (J28 _ _ _ rfl rfl) (Ja _ _ (by rw [hz4, Jj _ _ _ hsl])) fun Z hZ bZ => ?_
   have hBZ := J2 hBw hZ (by have := HG2.out; omega)
   try simp only [PutS]
   go_wp2_with fail
   refine bodyPost_ret (v := stV m (.slice A m.eps.length cap) (.slice AL n cL)) (Jv (cs := stC m (.slice A m.eps.length cap) (.slice AL n cL)) (g := g2 + 1 + 1) rfl rfl Ju rfl (by rw [Jo, Jj _ _ _ hsl]) bZ) rfl ?_
   rw [HC.out]
   exact ⟨_, _, rfl, HE.out.le (Bse.le_new (HW.out.below hBZ)), HT.out.le (Bse.le_new (HW.out.below hBZ)), hBZ⟩
  obtain ⟨j, hj⟩ : ∃ j, j = n - 1 := ⟨_, rfl⟩
  have ej : (n : Int) - 1 = (j : Int) := by omega
  rw [ej]
  have hjn : j < n := by omega
  have hj0 : j < ss.length := by rw [← HN.out]; exact hjn
  obtain ⟨u, s1, hu, hs1, hin⟩ := HU0.out.get hj0
  obtain ⟨gR, cR, rest, hv, hcR, hgR, bR, hset⟩ := Jdd HOW.out hul hn1
  cases hv
  have hgd : ss.getD (ss.length - 1) [] = s1 := by
   rw [← HN.out, ← hj, List.getD_eq_getElem?_getD, hs1]
   rfl
  obtain ⟨⟨Al, cl, hul2⟩, ⟨Ag, cg, hug2⟩⟩ := hin.len
  have hJ : n = j + 1 := by omega
  have HJ := Lib.hid hJ
  have hgRY : gR < X.heap.size := bR.lt
  have cl0 : X.cell? ⟨gR, j * 2, none⟩ = some (.slice Al s1.length cl) := by
   have := st_rng bR hu 0 _ rfl
   rw [← hul2]
   exact this
  have cl1 : X.cell? ⟨gR, j * 2 + 1, none⟩ = some (.slice Ag s1.length cg) := by
   have := st_rng bR hu 1 _ rfl
   rw [← hug2]
   exact this
  have hinn := hin.now
  obtain ⟨kk, hkk⟩ : ∃ kk, kk = s1.length := ⟨_, rfl⟩
  rw [← hkk] at cl0 cl1 hul2 hug2
  have HKK := Lib.hid hkk
  have HIN := Lib.hid hin
  have HSET := Lib.hid hset
  clear hkk hj hJ ej hin hset
  have k0 := Je hgRY cl0
  have k1 := Je hgRY cl1
  by_cases hqk : q < kk
  rotate_left 1
  ·
   have HC := Lib.hid (show stepM (m, ss) o = (m, ss) by
    refine Jbh h3 fun r hr => ?_
    rw [hgd, ← HQ.out, List.getElem?_eq_none (by have := HKK.out; omega)] at hr
    cases hr)
   clear hgd hinn hk4 l3
   refine Jd 28 [] (by kernel_rfl) (by kernel_rfl) (by kernel_rfl) trivial ?_
   iterate 16 (refine rg_det rfl rfl rfl (fun K hK => ?_); go_big_quiet_op; refine hK _ ?_; clear hK K)
   iterate 11 (refine J5r (by kernel_rfl) ?_; intro a' ha; simp only [PutS] at ha; subst ha)
   refine rg_det rfl rfl rfl (fun K hK => ?_)
   go_big_quiet_op
   refine hK _ ?_; clear hK K
   refine rg_nil (fun w' hw' hF => ?_)
   obtain ⟨z, rfl⟩ := hw'
   simp only [List.drop_succ_cons, List.drop_zero]
   replace b2x := b2x.keep z.h
   replace b3x := b3x.keep z.h
   replace b4z := b4z.keep z.h
   replace bX := bX.keep z.h
   replace HE0 := Lib.hid (HE0.out.fwd z.h)
   replace HU0 := Lib.hid (J3a HU0.out z.h)
   replace HOW := Lib.hid (Jq HOW.out (Nat.le_refl _) z.h)
   replace hBw := hBw.trans ((z.h).mono hBw.size)
   clear hF e8 k4 k0 k1 cl0 cl1 bR hgRY
   go_upto_region 23 with (fail)
   go_upto_region 24 with (fail)
   refine wp_region_lit ?_
   refine wpSk rfl (J1 (cs := stC m (.slice A m.eps.length cap) (.slice AL n cL)) Ju rfl (by rw [Jo, Jj _ _ _ hsl]) rfl rfl (J4 b2x)) fun v161 w161 hh => ?_
   obtain ⟨rfl, rfl⟩ := hh
   try simp only [PutS]
   refine J6 rfl 38 (.tmp 4) (.tmp 165) rfl rfl (cells := stC m (.slice A m.eps.length cap) (.slice AL n cL)) rfl b4z (by rw [hz4, Jj _ _ _ hsl]; exact Nat.le_refl _) (by rw [Jo, Jj _ _ _ hsl]) (J28 _ _ _ rfl rfl) (Ja _ _ (by rw [hz4, Jj _ _ _ hsl])) fun Z hZ bZ => ?_
   have hBZ := J2 hBw hZ (by have := HG2.out; omega)
   try simp only [PutS]
   go_wp2_with fail
   refine bodyPost_ret (v := stV m (.slice A m.eps.length cap) (.slice AL n cL)) (Jv (cs := stC m (.slice A m.eps.length cap) (.slice AL n cL)) (g := g2 + 1 + 1) rfl rfl Ju rfl (by rw [Jo, Jj _ _ _ hsl]) bZ) rfl ?_
   rw [HC.out]
   exact ⟨_, _, rfl, HE.out.le (Bse.le_new (HW.out.below hBZ)), HT.out.le (Bse.le_new (HW.out.below hBZ)), hBZ⟩
  obtain ⟨⟨r, b⟩, hrb⟩ : ∃ x, s1[q]? = some x := ⟨_, List.getElem?_eq_getElem (by rw [← HKK.out]; exact hqk)⟩
  obtain ⟨gg, og, cg', hvg, hcg, hgg, hkg⟩ := hinn.2.form (by rw [← HKK.out]; omega)
  rw [hug2] at hvg
  cases hvg
  have kg := Je hgg (hkg q _ (Jmp hrb))
  clear hkg
  cases b with
  | true =>
   have HC := Lib.hid (show stepM (m, ss) o = (m, ss) by
    refine Jbh h3 fun r2 hr => ?_
    rw [hgd, ← HQ.out, hrb] at hr
    cases hr)
   clear hgd hinn hrb hk4 l3
   refine Jd 28 [] (by kernel_rfl) (by kernel_rfl) (by kernel_rfl) trivial ?_
   iterate 28 (refine rg_det rfl rfl rfl (fun K hK => ?_); go_big_quiet_op; refine hK _ ?_; clear hK K)
   refine rg_nil (fun w' hw' hF => ?_)
   obtain ⟨z, rfl⟩ := hw'
   simp only [List.drop_succ_cons, List.drop_zero]
   replace b2x := b2x.keep z.h
   replace b3x := b3x.keep z.h
   replace b4z := b4z.keep z.h
   replace bX := bX.keep z.h
   replace HE0 := Lib.hid (HE0.out.fwd z.h)
   replace HU0 := Lib.hid (J3a HU0.out z.h)
   replace HOW := Lib.hid (Jq HOW.out (Nat.le_refl _) z.h)
   replace hBw := hBw.trans ((z.h).mono hBw.size)
   clear hF e8 k4 k0 k1 kg cl0 cl1 bR hgRY
   go_upto_region 23 with (fail)
   go_upto_region 24 with (fail)
   refine wp_region_lit ?_
   refine wpSk rfl (J1 (cs := stC m (.slice A m.eps.length cap) (.slice AL n cL)) Ju rfl (by rw [Jo, Jj _ _ _ hsl]) rfl rfl (J4 b2x)) fun v161 w161 hh => ?_
   obtain ⟨rfl, rfl⟩ := hh
   try simp only [PutS]
   refine J6 rfl 38 (.tmp 4) (.tmp 165) rfl rfl (cells := stC m (.slice A m.eps.length cap) (.slice AL n cL)) rfl b4z (by rw [hz4, Jj _ _ _ hsl]; exact Nat.le_refl _) (by rw [Jo, Jj _ _ _ hsl]) (J28 _ _ _ rfl rfl) (Ja _ _ (by rw [hz4, Jj _ _ _ hsl])) fun Z hZ bZ => ?_
   have hBZ := J2 hBw hZ (by have := HG2.out; omega)
   try simp only [PutS]
   go_wp2_with fail
   refine bodyPost_ret (v := stV m (.slice A m.eps.length cap) (.slice AL n cL)) (Jv (cs := stC m (.slice A m.eps.length cap) (.slice AL n cL)) (g := g2 + 1 + 1) rfl rfl Ju rfl (by rw [Jo, Jj _ _ _ hsl]) bZ) rfl ?_
   rw [HC.out]
   exact ⟨_, _, rfl, HE.out.le (Bse.le_new (HW.out.below hBZ)), HT.out.le (Bse.le_new (HW.out.below hBZ)), hBZ⟩
  | false =>
   have HG := Lib.hid hgd
   have HRB := Lib.hid hrb
   clear hgd hk4 l3
   refine Jd 28 [] (by kernel_rfl) (by kernel_rfl) (by kernel_rfl) trivial ?_
   iterate 28 (refine rg_det rfl rfl rfl (fun K hK => ?_); go_big_quiet_op; refine hK _ ?_; clear hK K)
   refine rg_nil (fun w' hw' hF => ?_)
   obtain ⟨z, rfl⟩ := hw'
   simp only [List.drop_succ_cons, List.drop_zero]
   replace b2x := b2x.keep z.h
   replace b3x := b3x.keep z.h
   replace b4z := b4z.keep z.h
   replace bX := bX.keep z.h
   replace HE0 := Lib.hid (HE0.out.fwd z.h)
   replace HU0 := Lib.hid (J3a HU0.out z.h)
   replace HOW := Lib.hid (Jq HOW.out (Nat.le_refl _) z.h)
   replace hBw := hBw.trans ((z.h).mono hBw.size)
   replace bR := bR.keep z.h
   replace hgRY := bR.lt
   have HI1 := Lib.hid (HIN.out.fwd z.h)
   replace hinn := HI1.out.now
   replace cl0 := (Jfg z.h cl0)
   clear hF k4 k0 k1 kg HIN
   go_upto_region 20 with (fail)
   have k4 := Je b3x.lt (show z.w.cell? ⟨g2 + 1, 4, none⟩ = some (.int .u8 (o.i : Int)) from (b3x.cell 4).trans rfl)
   obtain ⟨gl, ol, cl', hvl, hcl, hgl, hkl⟩ := hinn.1.form (by rw [← HKK.out]; omega)
   rw [hul2] at hvl
   cases hvl
   have hrr : z.w.rangeAt gl (ol + q * 4) (rdc r) := fun i v hi => by
    rw [Nat.add_assoc]
    exact hkl _ v (Jkl HRB.out i v hi)
   have kcl := Je hgRY cl0
   have hE := HOK.out
   obtain ⟨e, he⟩ : ∃ e, m.eps[j]? = some e := ⟨_, List.getElem?_eq_getElem (by have := hE.len; dsimp only at this; omega)⟩
   have hEp := hE.ep j e s1 he hs1
   have hrok : r.ok := hEp.rd _ (List.mem_of_getElem? HRB.out)
   have hs1n : s1.length ≤ 1000 := by
    have := hEp.le
    have := pow3 e.log hEp.log
    omega
   have hq8 : q < 8 := by have := HQ.out; omega
   obtain ⟨⟨M, c⟩, hx⟩ : ∃ x, x = retractM m ((q : Nat) : Int) r := ⟨_, rfl⟩
   have hM : M.seed.length = 32 := by have := J88 m ((q : Nat) : Int) r; rw [← hx] at this; rw [this]; exact hsl
   have HX := Lib.hid hx
   have HRO := Lib.hid hrok
   have HS1 := Lib.hid hs1n
   have hobR : ob = some gR := HOB.out
   clear hx hkl hE hEp he hrok hs1n hinn hrb cl1
   apply join26e (Q := fun A1 c1 Y => ∃ W2, Below z.w.heap.size z.w W2 ∧ EpsB ⟨W2, SS bs g2 (g2 + 1 + 1) g7 ob⟩ (.slice A1 M.eps.length c1) M.eps ∧ Put W2 Y g7 ∧ Blk Y g7 35 (mtc M (.slice A1 M.eps.length c1)).toArray)
   case h =>
    intro kk
    have KK := Lib.hid kk
    clear kk
    refine J47 20 19 undef [(1, Spec.val (mtV m (.slice A m.eps.length cap))), (15, Spec.val (rdV r)), (16, Spec.rel (Was (PM (SS bs g2 (g2 + 1 + 1) g7 ob) M c)) (TupM M c))] (by kernel_rfl) (by kernel_rfl) (by kernel_rfl) rfl rfl rfl rfl ⟨fit_pm, trivial⟩ ?_ ?_
    refine rg_det rfl rfl rfl (fun K hK => ?_)
    go_big_quiet_op
    refine hK _ ?_; clear hK K
    refine rg_val rfl rfl (fun W1 hW1 hF => Jf (cs := mtc m (.slice A m.eps.length cap)) J9 rfl (by rw [J5, J0 m _ hsl]) rfl rfl (Jr (st_mt b2x) b2x.lt (J8 hW1))) ?_
    intro a' ha
    simp only [PutS] at ha
    subst ha
    iterate 13 (refine rg_det rfl rfl rfl (fun K hK => ?_); go_big_quiet_op; refine hK _ ?_; clear hK K)
    refine rg_val rfl rfl (fun W1 hW1 hF => Jf (cs := rdc r) J1c rfl J1f rfl rfl (Jr hrr hgl (J8 hW1))) ?_
    intro a' ha
    simp only [PutS] at ha
    subst ha
    refine rg_rel rfl rfl (fun W1 hW1 hF => Jp J2a (((rRetr26 m (HOK.out.n (by omega)) HOK.out.n5 ((q : Nat) : Int) (by omega) r (Jeu HRO.out) (.slice A m.eps.length cap) ⟨W1, SS bs g2 (g2 + 1 + 1) g7 ob⟩ W1 (Bse.ok_self _) (HE0.out.fwd (J8 hW1))).mono (J7p HX.out.symm (ss_new (by have := b2x.lt; have := (J8 hW1).size; omega) (Nat.lt_of_lt_of_le b4z.lt (J8 hW1).size) (Nat.lt_of_lt_of_le bX.lt (J8 hW1).size) (fun g hg => Nat.lt_of_lt_of_le (Jk HOW.out (by rw [← HOB.out]; exact hg)).2 (J8 hW1).size))))) rfl rfl) ?_
    intro n16 m16 v16 hn16 hm16 hd16 hf16 a' ha
    simp only [PutS] at ha
    subst ha
    obtain ⟨A16, cap16, rfl⟩ := hf16
    iterate 3 (refine rg_det rfl rfl rfl (fun K hK => ?_); go_big_quiet_op; refine hK _ ?_; clear hK K)
    refine rg_nil (fun w' hw' hF => ?_)
    obtain ⟨z, rfl⟩ := hw'
    simp only [List.drop_succ_cons, List.drop_zero]
    rotate_left 1
    refine rg_det rfl rfl rfl (fun K hK => ?_)
    go_big_quiet_op
    refine hK _ ?_; clear hK K
    refine rg_val rfl rfl (fun W1 hW1 hF => Jf (cs := mtc m (.slice A m.eps.length cap)) J9 rfl (by rw [J5, J0 m _ hsl]) rfl rfl (Jr (st_mt b2x) b2x.lt (J8 hW1))) ?_
    intro a' ha
    simp only [PutS] at ha
    subst ha
    iterate 13 (refine rg_det rfl rfl rfl (fun K hK => ?_); go_big_quiet_op; refine hK _ ?_; clear hK K)
    refine rg_val rfl rfl (fun W1 hW1 hF => Jf (cs := rdc r) J1c rfl J1f rfl rfl (Jr hrr hgl (J8 hW1))) ?_
    intro a' ha
    simp only [PutS] at ha
    subst ha
    refine rg_rel rfl rfl (fun W1 hW1 hF => Jp J2a (((rRetr26 m (HOK.out.n (by omega)) HOK.out.n5 ((q : Nat) : Int) (by omega) r (Jeu HRO.out) (.slice A m.eps.length cap) ⟨W1, SS bs g2 (g2 + 1 + 1) g7 ob⟩ W1 (Bse.ok_self _) (HE0.out.fwd (J8 hW1))).mono (J7p HX.out.symm (ss_new (by have := b2x.lt; have := (J8 hW1).size; omega) (Nat.lt_of_lt_of_le b4z.lt (J8 hW1).size) (Nat.lt_of_lt_of_le bX.lt (J8 hW1).size) (fun g hg => Nat.lt_of_lt_of_le (Jk HOW.out (by rw [← HOB.out]; exact hg)).2 (J8 hW1).size))))) rfl rfl) ?_
    intro n16 m16 v16 hn16 hm16 hd16 hf16 a' ha
    simp only [PutS] at ha
    subst ha
    obtain ⟨A16, cap16, rfl⟩ := hf16
    iterate 2 (refine rg_det rfl rfl rfl (fun K hK => ?_); go_big_quiet_op; refine hK _ ?_; clear hK K)
    refine J90 rfl rfl ?_
    intro a' ha
    simp only [PutS] at ha
    subst ha
    refine rg_nil (fun w' hw' hF => ?_)
    obtain ⟨z, rfl⟩ := hw'
    simp only [List.drop_succ_cons, List.drop_zero]
    refine J5c ?_
    intro a' ha
    simp only [PutS] at ha
    subst ha
    rotate_right 1
    all_goals
     have hP := pm_of (J30 hF).2
     clear hF
     have bz := bX.keep z.h
     refine J6 rfl 35 (.tmp 6) (.tmp 145) rfl rfl (cells := mtc M (.slice A16 M.eps.length cap16)) rfl bz (by rw [List.size_toArray, J0 m _ hsl, J0 M _ hM]; exact Nat.le_refl _) (by rw [J5, J0 M _ hM]) (Ji _ _ rfl) (Ja _ _ (by rw [List.size_toArray, J0 m _ hsl, J0 M _ hM])) fun Y hY bY => ?_
     try simp only [PutS]
     go_upto_region 21 with (fail)
     rename_i K hK
     revert K
     exact KK.out A16 cap16 Y ⟨z.w, z.h, hP, hY, bY⟩
   intro A1 c1 Y hQ K hK
   obtain ⟨W2, B2, E1, hY, bY⟩ := hQ
   have hneR : gR ≠ g7 := fun e => HNE.out (by rw [hobR, e])
   replace bR := hY.blk (bR.keep B2) hneR
   replace b2x := b2x.keep B2
   replace b3x := b3x.keep B2
   replace b4z := b4z.keep B2
   replace bX := bX.keep B2
   replace HE0 := Lib.hid (HE0.out.fwd B2)
   replace HU0 := Lib.hid (J3a HU0.out B2)
   replace HOW := Lib.hid (Jq HOW.out (Nat.le_refl _) B2)
   replace hBw := hBw.trans ((B2).mono hBw.size)
   have hgw : g2 + 3 ≤ g7 := HG7.out
   have hbw : bs.W.heap.size ≤ g2 := by have := HW.out.1; have := HG2.out; omega
   replace b2x := hY.blk b2x (by omega)
   replace b3x := hY.blk b3x (by omega)
   replace b4z := hY.blk b4z (by omega)
   replace HE0 := Lib.hid (HE0.out.pt hY (J2r hbw (by omega)))
   replace HU0 := Lib.hid (sts_pt HU0.out hY (J2r hbw (by omega)))
   replace E1 := (E1).pt hY (J2r hbw (by omega))
   replace HOW := Lib.hid (Jt HOW.out hY (by rw [← HOB.out]; exact HNE.out))
   replace hBw := J2 hBw hY (by have := HG2.out; omega)
   clear bX hY hgw hbw
   have hx := HX.out
   clear HX B2 kcl hrr cl0 hgl
   have hi2 := HU0.out.2 j u s1 hu hs1
   have HI2 := Lib.hid hi2
   clear hi2 HI1 k4
   have k4 := Je b3x.lt (show Y.cell? ⟨g2 + 1, 4, none⟩ = some (.int .u8 (o.i : Int)) from (b3x.cell 4).trans rfl)
   have hg7Y : g7 < Y.heap.size := bY.lt
   have hgRl : gR < Y.heap.size := bR.lt
   apply join26s (Q := fun gN x Z => Below Y.heap.size Y Z ∧ Y.heap.size ≤ gN ∧ StrIB ⟨Z, SS bs g2 (g2 + 1 + 1) g7 ob⟩ x (s1.set q (r, true)) ∧ Blk Z gN 64 (smc x).toArray)
   case h =>
    intro kk
    have KK := Lib.hid kk
    clear kk
    refine J47 13 11 undef [(3, Spec.val (.agg (smc u).toArray)), (8, Spec.rel (RstI (InB ⟨Y, SS bs g2 (g2 + 1 + 1) g7 ob⟩) (s1.set q (r, true))) (TupS)), (12, Spec.rel (New 64 #[.slice none 0 0, .slice none 0 0]) (NewF))] (by kernel_rfl) (by kernel_rfl) (by kernel_rfl) rfl rfl rfl rfl ⟨Jev, J8x, trivial⟩ ?_ ?_
    iterate 3 (refine rg_det rfl rfl rfl (fun K hK => ?_); go_big_quiet_op; refine hK _ ?_; clear hK K)
    refine rg_val rfl rfl (fun W1 hW1 hF => Jf (cs := smc u) J3s rfl J25 rfl rfl (Jr (st_rng bR hu) hgRl (J8 hW1))) ?_
    intro a' ha
    simp only [PutS] at ha
    subst ha
    iterate 4 (refine rg_det rfl rfl rfl (fun K hK => ?_); go_big_quiet_op; refine hK _ ?_; clear hK K)
    refine rg_rel rfl rfl (fun W1 hW1 hF => Jp J37 (((gRetrS s1 HS1.out q r HRB.out ⟨Y, SS bs g2 (g2 + 1 + 1) g7 ob⟩ W1 ((Bse.ok_self _).below (J8 hW1)) u HI2.out).mono (sresI (J8 hW1).size))) rfl rfl) ?_
    intro n8 m8 v8 hn8 hm8 hd8 hf8 a' ha
    simp only [PutS] at ha
    subst ha
    obtain ⟨A8, cap8, rfl⟩ := hf8
    iterate 3 (refine rg_det rfl rfl rfl (fun K hK => ?_); go_big_quiet_op; refine hK _ ?_; clear hK K)
    refine rg_rel rfl rfl (fun W1 hW1 hF => J4m hiS iS0 rfl) ?_
    intro n12 m12 v12 hn12 hm12 hd12 hf12 a' ha
    simp only [PutS] at ha
    subst ha
    obtain rfl := hf12
    refine rg_nil (fun w' hw' hF => ?_)
    obtain ⟨z, rfl⟩ := hw'
    simp only [List.drop_succ_cons, List.drop_zero]
    rotate_left 1
    iterate 3 (refine rg_det rfl rfl rfl (fun K hK => ?_); go_big_quiet_op; refine hK _ ?_; clear hK K)
    refine rg_val rfl rfl (fun W1 hW1 hF => Jf (cs := smc u) J3s rfl J25 rfl rfl (Jr (st_rng bR hu) hgRl (J8 hW1))) ?_
    intro a' ha
    simp only [PutS] at ha
    subst ha
    iterate 4 (refine rg_det rfl rfl rfl (fun K hK => ?_); go_big_quiet_op; refine hK _ ?_; clear hK K)
    refine rg_rel rfl rfl (fun W1 hW1 hF => Jp J37 (((gRetrS s1 HS1.out q r HRB.out ⟨Y, SS bs g2 (g2 + 1 + 1) g7 ob⟩ W1 ((Bse.ok_self _).below (J8 hW1)) u HI2.out).mono (sresI (J8 hW1).size))) rfl rfl) ?_
    intro n8 m8 v8 hn8 hm8 hd8 hf8 a' ha
    simp only [PutS] at ha
    subst ha
    obtain ⟨A8, cap8, rfl⟩ := hf8
    iterate 2 (refine rg_det rfl rfl rfl (fun K hK => ?_); go_big_quiet_op; refine hK _ ?_; clear hK K)
    refine J90 rfl rfl ?_
    intro a' ha
    simp only [PutS] at ha
    subst ha
    refine rg_rel rfl rfl (fun W1 hW1 hF => J4m hiS iS0 rfl) ?_
    intro n12 m12 v12 hn12 hm12 hd12 hf12 a' ha
    simp only [PutS] at ha
    subst ha
    obtain rfl := hf12
    refine rg_nil (fun w' hw' hF => ?_)
    obtain ⟨z, rfl⟩ := hw'
    simp only [List.drop_succ_cons, List.drop_zero]
    refine J5c ?_
    intro a' ha
    simp only [PutS] at ha
    subst ha
    rotate_right 1
    all_goals
     obtain ⟨hm12, -, hl12, b12⟩ := J30 hF
     have hP := Jgn (hF _ (List.mem_append_left _ (List.mem_append_right _ (List.mem_singleton.2 rfl)))).2
     have hd := hd12 _ (List.mem_append_right _ (List.mem_singleton.2 rfl))
     dsimp only at hd
     clear hF hd12
     refine J6 rfl 64 (.tmp 12) (.tmp 157) rfl rfl (cells := smc A8) rfl b12 (by rw [J39]; exact Nat.le_refl _) J25 (List.all_eq_true.2 fun v hv => J94 hP v hv) rfl fun Z hZ bZ => ?_
     have hBZ : Below Y.heap.size Y Z := J2 z.h hZ hn12
     have hin2 : StrIB ⟨Z, SS bs g2 (g2 + 1 + 1) g7 ob⟩ A8 (s1.set q (r, true)) := (hP.pt hZ (fun hh => by
      rcases hh with hh | hh
      ·
       have := hh.2
       dsimp only at this
       omega
      ·
       omega)).sub fun g hg hl => by
       rcases hg with hh | hh
       · exact hh.1
       · exact ss_new (N := Y.heap.size) (by have := b4z.lt; omega) b4z.lt hg7Y (fun g hg => by rw [hobR] at hg; cases hg; exact hgRl) g (by omega)
     try simp only [PutS]
     go_upto_region 22 with (fail)
     exact KK.out n12 A8 Z ⟨hBZ, hn12, hin2, bZ⟩
   intro gN x Z hQ
   obtain ⟨BZ, hgN, hin, bN⟩ := hQ
   have hbw : bs.W.heap.size ≤ g2 := by have := HW.out.1; have := HG2.out; omega
   replace b2x := b2x.keep BZ
   replace b4z := b4z.keep BZ
   replace bY := bY.keep BZ
   replace bR := bR.keep BZ
   replace HE0 := Lib.hid (HE0.out.fwd BZ)
   replace HU0 := Lib.hid (J3a HU0.out BZ)
   replace E1 := E1.fwd BZ
   replace hBw := hBw.trans (BZ.mono hBw.size)
   clear b3x BZ k4
   refine wp_region_lit ?_
   iterate 2 (refine wpList_plain rfl fun K hK => ?_; go_big_op; refine hK _ _ ?_; clear hK K)
   refine wpSk rfl (J1 (cs := smc x) J3s rfl J25 rfl rfl (J4 bN)) fun v157 w157 hh => ?_
   obtain ⟨rfl, rfl⟩ := hh
   try simp only [PutS]
   refine wpList_plain rfl fun K hK => ?_; go_big_op; refine hK _ _ ?_; clear hK K
   refine J6 (i := j * 2) rfl 64 (.tmp 162) (.tmp 161) rfl rfl (cells := smc x) rfl bR (by rw [List.size_toArray, List.length_append, Jz J39, hul, J39]; omega) J25 (List.all_eq_true.2 fun v hv => J94 hin v hv) (spl_st us rest j x (by omega)) fun V hV bV => ?_
   have HOZ := HSET.out j x V hjn bV
   replace b2x := hV.blk b2x (by omega)
   replace b4z := hV.blk b4z (by omega)
   replace bY := hV.blk bY hneR.symm
   replace HE0 := Lib.hid (HE0.out.pt hV (J50 hobR hbw (by omega)))
   replace E1 := E1.pt hV (J50 hobR hbw (by omega))
   replace hBw := J2 hBw hV (by have := HG2.out; omega)
   have HU1 := Al.set (i := j) (sts_pt HU0.out hV (J50 hobR hbw (by omega))) (hin.pt hV (J50 hobR hbw (by omega)))
   clear hV bV bN bR HU0 hin hbw
   have hx2 : (M, c) = retractM m ((o.i % 8 : Nat) : Int) r := by rw [← HQ.out]; exact hx
   have hr2 : (ss.getD (ss.length - 1) [])[o.i % 8]? = some (r, false) := by rw [HG.out, ← HQ.out]; exact HRB.out
   have hst := Jmo h3 hr2 hx2
   rw [HG.out, ← HQ.out, show ss.length - 1 = j by have := HN.out; have := HJ.out; omega] at hst
   by_cases hc : c = 0
   ·
    subst hc
    have HC := Lib.hid (show stepM (m, ss) o = (M, ss.set j (s1.set q (r, true))) by rw [hst, if_pos rfl])
    clear hx hx2 hr2 hst
    try simp only [PutS]
    go_upto_region 25 with (fail)
    refine wp_region_lit ?_
    refine wpSk rfl (J1 (cs := mtc (M) (.slice A1 M.eps.length c1)) J9 rfl (by rw [J5, J0 _ _ hM]) rfl rfl (J4 bY)) fun v162 w162 hh => ?_
    obtain ⟨rfl, rfl⟩ := hh
    try simp only [PutS]
    refine wpList_plain rfl fun K hK => ?_; go_big_op; refine hK _ _ ?_; clear hK K
    refine wpSk rfl (J5g hM rfl rfl rfl) fun v164 w164 hh => ?_
    obtain ⟨rfl, rfl⟩ := hh
    try simp only [PutS]
    refine J6 rfl 38 (.tmp 4) (.tmp 168) rfl rfl (cells := stC (M) (.slice A1 M.eps.length c1) (.slice (some ⟨gR, 0, none⟩) n cap5)) rfl b4z (by rw [hz4, Jj _ _ _ hM]; exact Nat.le_refl _) (by rw [Jo, Jj _ _ _ hM]) (J28 _ _ _ rfl rfl) (Ja _ _ (by rw [hz4, Jj _ _ _ hM])) fun Z hZ bZ => ?_
    have hBZ := J2 hBw hZ (by have := HG2.out; omega)
    have hbw : bs.W.heap.size ≤ g2 := by have := HW.out.1; have := HG2.out; omega
    have EZ : EpsB (bs.new w Z) (.slice A1 M.eps.length c1) (M).eps := ((E1).pt hZ (J4h hbw (by omega))).sub fun g hg _ => by rw [← HG2.out]; exact ss_out hg
    have TZ : StmsB (bs.new w Z) (.slice (some ⟨gR, 0, none⟩) n cap5) (ss.set j (s1.set q (r, true))) := J87 (Jt (HOZ) hZ (fun e => by have := (Jk (HOZ) e).1; omega)) (sts_pt (HU1) hZ (J4h hbw (by omega))) (by rw [List.length_set]; exact hul) (by omega) HG2.out (by omega)
    try simp only [PutS]
    go_wp2_with fail
    refine bodyPost_ret (v := stV (M) (.slice A1 M.eps.length c1) (.slice (some ⟨gR, 0, none⟩) n cap5)) (Jv (cs := stC (M) (.slice A1 M.eps.length c1) (.slice (some ⟨gR, 0, none⟩) n cap5)) (g := g2 + 1 + 1) rfl rfl Ju rfl (by rw [Jo, Jj _ _ _ hM]) bZ) rfl ?_
    rw [HC.out]
    exact ⟨_, _, rfl, EZ, TZ, hBZ⟩
   ·
    have HC := Lib.hid (show stepM (m, ss) o = (m, ss) by rw [hst, if_neg hc])
    clear hx hx2 hr2 hst HOZ
    try simp only [PutS]
    go_upto_region 24 with (fail)
    refine wp_region_lit ?_
    refine wpSk rfl (J1 (cs := stC m (.slice A m.eps.length cap) (.slice AL n cL)) Ju rfl (by rw [Jo, Jj _ _ _ hsl]) rfl rfl (J4 b2x)) fun v161 w161 hh => ?_
    obtain ⟨rfl, rfl⟩ := hh
    try simp only [PutS]
    refine J6 rfl 38 (.tmp 4) (.tmp 165) rfl rfl (cells := stC m (.slice A m.eps.length cap) (.slice AL n cL)) rfl b4z (by rw [hz4, Jj _ _ _ hsl]; exact Nat.le_refl _) (by rw [Jo, Jj _ _ _ hsl]) (J28 _ _ _ rfl rfl) (Ja _ _ (by rw [hz4, Jj _ _ _ hsl])) fun Z hZ bZ => ?_
    have hBZ := J2 hBw hZ (by have := HG2.out; omega)
    try simp only [PutS]
    go_wp2_with fail
    refine bodyPost_ret (v := stV m (.slice A m.eps.length cap) (.slice AL n cL)) (Jv (cs := stC m (.slice A m.eps.length cap) (.slice AL n cL)) (g := g2 + 1 + 1) rfl rfl Ju rfl (by rw [Jo, Jj _ _ _ hsl]) bZ) rfl ?_
    rw [HC.out]
    exact ⟨_, _, rfl, HE.out.le (Bse.le_new (HW.out.below hBZ)), HT.out.le (Bse.le_new (HW.out.below hBZ)), hBZ⟩
 have h4 : 4 ≤ o.kind % 8 := by omega
 have e0 : ¬ ((o.kind : Int) % 8 = 0) := by omega
 have e1 : ¬ ((o.kind : Int) % 8 = 1) := by omega
 have e2 : ¬ ((o.kind : Int) % 8 = 2) := by omega
 have e3 : ¬ ((o.kind : Int) % 8 = 3) := by omega
 clear h0 h1 h2 h3 hk0 hk1 hk2 hk3 hk4 hk5 l3
 go_upto_region 5 with (fail)
 clear e0 e1 e2 e3
 obtain ⟨⟨M, c⟩, hx⟩ : ∃ x, x = takeM m o.rdg := ⟨_, rfl⟩
 have hM : M.seed.length = 32 := by have := Jae m o.rdg; rw [← hx] at this; rw [this]; exact hsl
 have hbw : bs.W.heap.size ≤ g2 := by have := HW.out.1; have := HG2.out; omega
 have HX := Lib.hid hx
 clear hx
 apply join26e (Q := fun A1 c1 Y => ∃ W2, Below X.heap.size X W2 ∧ EpsB ⟨W2, SS bs g2 (g2 + 1 + 1) g7 ob⟩ (.slice A1 M.eps.length c1) M.eps ∧ Put W2 Y g7 ∧ Blk Y g7 35 (mtc M (.slice A1 M.eps.length c1)).toArray)
 case h =>
  intro kk
  have KK := Lib.hid kk
  clear kk
  refine J47 8 7 undef [(1, Spec.val (mtV m (.slice A m.eps.length cap))), (2, Spec.val (.agg (opc o).toArray)), (3, Spec.val (rdV o.rdg)), (4, Spec.rel (Was (PM (SS bs g2 (g2 + 1 + 1) g7 ob) M c)) (TupM M c))] (by kernel_rfl) (by kernel_rfl) (by kernel_rfl) rfl rfl rfl rfl ⟨fit_pm, trivial⟩ ?_ ?_
  refine rg_det rfl rfl rfl (fun K hK => ?_)
  go_big_quiet_op
  refine hK _ ?_; clear hK K
  refine rg_val rfl rfl (fun W1 hW1 hF => Jf (cs := mtc m (.slice A m.eps.length cap)) J9 rfl (by rw [J5, J0 m _ hsl]) rfl rfl (Jr (st_mt b2x) b2x.lt (J8 hW1))) ?_
  intro a' ha
  simp only [PutS] at ha
  subst ha
  refine rg_val rfl rfl (fun W1 hW1 hF => Jf (cs := opc o) J5h rfl J68 rfl rfl (J4 (b3x.keep (J8 hW1)))) ?_
  intro a' ha
  simp only [PutS] at ha
  subst ha
  refine rg_val rfl rfl (fun W1 hW1 hF => J7 J1r (gReading26 o HO.out W1) rfl rfl) ?_
  intro a' ha
  simp only [PutS] at ha
  subst ha
  refine rg_rel rfl rfl (fun W1 hW1 hF => Jp J2j (((rTake26 m (HOK.out.n (by omega)) HOK.out.n5 HOK.out.cnt o.rdg (rdgIn26 HO.out) (.slice A m.eps.length cap) ⟨W1, SS bs g2 (g2 + 1 + 1) g7 ob⟩ W1 (Bse.ok_self _) (HE0.out.fwd (J8 hW1))).mono (J7p HX.out.symm (ss_new (by have := b2x.lt; have := (J8 hW1).size; omega) (Nat.lt_of_lt_of_le b4z.lt (J8 hW1).size) (Nat.lt_of_lt_of_le bX.lt (J8 hW1).size) (fun g hg => Nat.lt_of_lt_of_le (Jk HOW.out (by rw [← HOB.out]; exact hg)).2 (J8 hW1).size))))) rfl rfl) ?_
  intro n4 m4 v4 hn4 hm4 hd4 hf4 a' ha
  simp only [PutS] at ha
  subst ha
  obtain ⟨A4, cap4, rfl⟩ := hf4
  iterate 3 (refine rg_det rfl rfl rfl (fun K hK => ?_); go_big_quiet_op; refine hK _ ?_; clear hK K)
  refine rg_nil (fun w' hw' hF => ?_)
  obtain ⟨z, rfl⟩ := hw'
  simp only [List.drop_succ_cons, List.drop_zero]
  rotate_left 1
  refine rg_det rfl rfl rfl (fun K hK => ?_)
  go_big_quiet_op
  refine hK _ ?_; clear hK K
  refine rg_val rfl rfl (fun W1 hW1 hF => Jf (cs := mtc m (.slice A m.eps.length cap)) J9 rfl (by rw [J5, J0 m _ hsl]) rfl rfl (Jr (st_mt b2x) b2x.lt (J8 hW1))) ?_
  intro a' ha
  simp only [PutS] at ha
  subst ha
  refine rg_val rfl rfl (fun W1 hW1 hF => Jf (cs := opc o) J5h rfl J68 rfl rfl (J4 (b3x.keep (J8 hW1)))) ?_
  intro a' ha
  simp only [PutS] at ha
  subst ha
  refine rg_val rfl rfl (fun W1 hW1 hF => J7 J1r (gReading26 o HO.out W1) rfl rfl) ?_
  intro a' ha
  simp only [PutS] at ha
  subst ha
  refine rg_rel rfl rfl (fun W1 hW1 hF => Jp J2j (((rTake26 m (HOK.out.n (by omega)) HOK.out.n5 HOK.out.cnt o.rdg (rdgIn26 HO.out) (.slice A m.eps.length cap) ⟨W1, SS bs g2 (g2 + 1 + 1) g7 ob⟩ W1 (Bse.ok_self _) (HE0.out.fwd (J8 hW1))).mono (J7p HX.out.symm (ss_new (by have := b2x.lt; have := (J8 hW1).size; omega) (Nat.lt_of_lt_of_le b4z.lt (J8 hW1).size) (Nat.lt_of_lt_of_le bX.lt (J8 hW1).size) (fun g hg => Nat.lt_of_lt_of_le (Jk HOW.out (by rw [← HOB.out]; exact hg)).2 (J8 hW1).size))))) rfl rfl) ?_
  intro n4 m4 v4 hn4 hm4 hd4 hf4 a' ha
  simp only [PutS] at ha
  subst ha
  obtain ⟨A4, cap4, rfl⟩ := hf4
  iterate 2 (refine rg_det rfl rfl rfl (fun K hK => ?_); go_big_quiet_op; refine hK _ ?_; clear hK K)
  refine J90 rfl rfl ?_
  intro a' ha
  simp only [PutS] at ha
  subst ha
  refine rg_nil (fun w' hw' hF => ?_)
  obtain ⟨z, rfl⟩ := hw'
  simp only [List.drop_succ_cons, List.drop_zero]
  refine J5c ?_
  intro a' ha
  simp only [PutS] at ha
  subst ha
  rotate_right 1
  all_goals
   have hP := pm_of (J30 hF).2
   clear hF
   have bz := bX.keep z.h
   refine J6 rfl 35 (.tmp 6) (.tmp 35) rfl rfl (cells := mtc M (.slice A4 M.eps.length cap4)) rfl bz (by rw [List.size_toArray, J0 m _ hsl, J0 M _ hM]; exact Nat.le_refl _) (by rw [J5, J0 M _ hM]) (Ji _ _ rfl) (Ja _ _ (by rw [List.size_toArray, J0 m _ hsl, J0 M _ hM])) fun Y hY bY => ?_
   try simp only [PutS]
   go_upto_region 6 with (fail)
   rename_i K hK
   revert K
   exact KK.out A4 cap4 Y ⟨z.w, z.h, hP, hY, bY⟩
 intro A1 c1 Y hQ K hK
 obtain ⟨W2, B2, E1, hY, bY⟩ := hQ
 replace b2x := b2x.keep B2
 replace b3x := b3x.keep B2
 replace b4z := b4z.keep B2
 replace bX := bX.keep B2
 replace HE0 := Lib.hid (HE0.out.fwd B2)
 replace HU0 := Lib.hid (J3a HU0.out B2)
 replace HOW := Lib.hid (Jq HOW.out (Nat.le_refl _) B2)
 replace hBw := hBw.trans ((B2).mono hBw.size)
 have hgw : g2 + 3 ≤ g7 := HG7.out
 have hbw : bs.W.heap.size ≤ g2 := by have := HW.out.1; have := HG2.out; omega
 replace b2x := hY.blk b2x (by omega)
 replace b3x := hY.blk b3x (by omega)
 replace b4z := hY.blk b4z (by omega)
 replace HE0 := Lib.hid (HE0.out.pt hY (J2r hbw (by omega)))
 replace HU0 := Lib.hid (sts_pt HU0.out hY (J2r hbw (by omega)))
 replace E1 := (E1).pt hY (J2r hbw (by omega))
 replace HOW := Lib.hid (Jt HOW.out hY (by rw [← HOB.out]; exact HNE.out))
 replace hBw := J2 hBw hY (by have := HG2.out; omega)
 clear bX hY hgw hbw
 have hx := HX.out
 have hbw : bs.W.heap.size ≤ g2 := by have := HW.out.1; have := HG2.out; omega
 have hul : us.length = n := by rw [HU0.out.1, HN.out]
 clear HX B2
 by_cases hc : c = 0
 rotate_left 1
 ·
  have HC := Lib.hid (show stepM (m, ss) o = (m, ss) by rw [Jgm h4 hx, if_neg hc])
  clear hx
  try simp only [PutS]
  go_upto_region 24 with (fail)
  refine wp_region_lit ?_
  refine wpSk rfl (J1 (cs := stC m (.slice A m.eps.length cap) (.slice AL n cL)) Ju rfl (by rw [Jo, Jj _ _ _ hsl]) rfl rfl (J4 b2x)) fun v161 w161 hh => ?_
  obtain ⟨rfl, rfl⟩ := hh
  try simp only [PutS]
  refine J6 rfl 38 (.tmp 4) (.tmp 165) rfl rfl (cells := stC m (.slice A m.eps.length cap) (.slice AL n cL)) rfl b4z (by rw [hz4, Jj _ _ _ hsl]; exact Nat.le_refl _) (by rw [Jo, Jj _ _ _ hsl]) (J28 _ _ _ rfl rfl) (Ja _ _ (by rw [hz4, Jj _ _ _ hsl])) fun Z hZ bZ => ?_
  have hBZ := J2 hBw hZ (by have := HG2.out; omega)
  try simp only [PutS]
  go_wp2_with fail
  refine bodyPost_ret (v := stV m (.slice A m.eps.length cap) (.slice AL n cL)) (Jv (cs := stC m (.slice A m.eps.length cap) (.slice AL n cL)) (g := g2 + 1 + 1) rfl rfl Ju rfl (by rw [Jo, Jj _ _ _ hsl]) bZ) rfl ?_
  rw [HC.out]
  exact ⟨_, _, rfl, HE.out.le (Bse.le_new (HW.out.below hBZ)), HT.out.le (Bse.le_new (HW.out.below hBZ)), hBZ⟩
 subst hc
 have hn1 : 0 < n := by have := take_c hx; have := HOK.out.len; dsimp only at this; rw [HN.out]; omega
 obtain ⟨j, hj⟩ : ∃ j, j = n - 1 := ⟨_, rfl⟩
 have ej : (n : Int) - 1 = (j : Int) := by omega
 rw [ej]
 have hjn : j < n := by omega
 have hj0 : j < ss.length := by rw [← HN.out]; exact hjn
 obtain ⟨u, s1, hu, hs1, hin⟩ := HU0.out.get hj0
 obtain ⟨gR, cR, rest, hv, hcR, hgR, bR, hset⟩ := Jdd HOW.out hul hn1
 cases hv
 have hC : stepM (m, ss) o = (M, ss.set j (s1 ++ [(o.rdg, false)])) := by
  rw [Jgm h4 hx, if_pos rfl, ← HN.out, ← hj, List.getD_eq_getElem?_getD, hs1]
  rfl
 have hs1n : s1.length ≤ 1000 := by
  obtain ⟨e, he⟩ : ∃ e, m.eps[j]? = some e := ⟨_, List.getElem?_eq_getElem (by have := HOK.out.len; dsimp only at this; omega)⟩
  have hE := HOK.out.ep j e s1 he hs1
  have := hE.le
  have := pow3 e.log hE.log
  omega
 have HC := Lib.hid hC
 have HIN := Lib.hid hin
 have HSET := Lib.hid hset
 have HS1 := Lib.hid hs1n
 have HJ := Lib.hid hj
 clear hC hin hset hs1n hx ej hj
 go_upto_region 7 with (fail)
 have hg7Y : g7 < Y.heap.size := bY.lt
 have hgRY : gR < Y.heap.size := bR.lt
 have hobR : ob = some gR := HOB.out
 apply join26s (Q := fun gN x Z => Below Y.heap.size Y Z ∧ Y.heap.size ≤ gN ∧ StrIB ⟨Z, SS bs g2 (g2 + 1 + 1) g7 ob⟩ x (s1 ++ [(o.rdg, false)]) ∧ Blk Z gN 64 (smc x).toArray)
 case h =>
  intro kk
  have KK := Lib.hid kk
  clear kk
  refine J47 11 9 undef [(3, Spec.val (.agg (smc u).toArray)), (4, Spec.val (.agg (opc o).toArray)), (5, Spec.val (rdV o.rdg)), (6, Spec.rel (RstI (InB ⟨Y, SS bs g2 (g2 + 1 + 1) g7 ob⟩) (s1 ++ [(o.rdg, false)])) (TupS)), (10, Spec.rel (New 64 #[.slice none 0 0, .slice none 0 0]) (NewF))] (by kernel_rfl) (by kernel_rfl) (by kernel_rfl) rfl rfl rfl rfl ⟨Jev, J8x, trivial⟩ ?_ ?_
  iterate 3 (refine rg_det rfl rfl rfl (fun K hK => ?_); go_big_quiet_op; refine hK _ ?_; clear hK K)
  refine rg_val rfl rfl (fun W1 hW1 hF => Jf (cs := smc u) J3s rfl J25 rfl rfl (Jr (st_rng bR hu) hgRY (J8 hW1))) ?_
  intro a' ha
  simp only [PutS] at ha
  subst ha
  refine rg_val rfl rfl (fun W1 hW1 hF => Jf (cs := opc o) J5h rfl J68 rfl rfl (J4 (b3x.keep (J8 hW1)))) ?_
  intro a' ha
  simp only [PutS] at ha
  subst ha
  refine rg_val rfl rfl (fun W1 hW1 hF => J7 J1r (gReading26 o HO.out W1) rfl rfl) ?_
  intro a' ha
  simp only [PutS] at ha
  subst ha
  refine rg_rel rfl rfl (fun W1 hW1 hF => Jp J3r (((gTakeS s1 HS1.out o.rdg (Op26.rdg_ok HO.out) (rdgIn26 HO.out) ⟨Y, SS bs g2 (g2 + 1 + 1) g7 ob⟩ W1 ((Bse.ok_self _).below (J8 hW1)) u HIN.out).mono (sresI (J8 hW1).size))) rfl rfl) ?_
  intro n6 m6 v6 hn6 hm6 hd6 hf6 a' ha
  simp only [PutS] at ha
  subst ha
  obtain ⟨A6, cap6, rfl⟩ := hf6
  iterate 3 (refine rg_det rfl rfl rfl (fun K hK => ?_); go_big_quiet_op; refine hK _ ?_; clear hK K)
  refine rg_rel rfl rfl (fun W1 hW1 hF => J4m hiS iS0 rfl) ?_
  intro n10 m10 v10 hn10 hm10 hd10 hf10 a' ha
  simp only [PutS] at ha
  subst ha
  obtain rfl := hf10
  refine rg_nil (fun w' hw' hF => ?_)
  obtain ⟨z, rfl⟩ := hw'
  simp only [List.drop_succ_cons, List.drop_zero]
  rotate_left 1
  iterate 3 (refine rg_det rfl rfl rfl (fun K hK => ?_); go_big_quiet_op; refine hK _ ?_; clear hK K)
  refine rg_val rfl rfl (fun W1 hW1 hF => Jf (cs := smc u) J3s rfl J25 rfl rfl (Jr (st_rng bR hu) hgRY (J8 hW1))) ?_
  intro a' ha
  simp only [PutS] at ha
  subst ha
  refine rg_val rfl rfl (fun W1 hW1 hF => Jf (cs := opc o) J5h rfl J68 rfl rfl (J4 (b3x.keep (J8 hW1)))) ?_
  intro a' ha
  simp only [PutS] at ha
  subst ha
  refine rg_val rfl rfl (fun W1 hW1 hF => J7 J1r (gReading26 o HO.out W1) rfl rfl) ?_
  intro a' ha
  simp only [PutS] at ha
  subst ha
  refine rg_rel rfl rfl (fun W1 hW1 hF => Jp J3r (((gTakeS s1 HS1.out o.rdg (Op26.rdg_ok HO.out) (rdgIn26 HO.out) ⟨Y, SS bs g2 (g2 + 1 + 1) g7 ob⟩ W1 ((Bse.ok_self _).below (J8 hW1)) u HIN.out).mono (sresI (J8 hW1).size))) rfl rfl) ?_
  intro n6 m6 v6 hn6 hm6 hd6 hf6 a' ha
  simp only [PutS] at ha
  subst ha
  obtain ⟨A6, cap6, rfl⟩ := hf6
  iterate 2 (refine rg_det rfl rfl rfl (fun K hK => ?_); go_big_quiet_op; refine hK _ ?_; clear hK K)
  refine J90 rfl rfl ?_
  intro a' ha
  simp only [PutS] at ha
  subst ha
  refine rg_rel rfl rfl (fun W1 hW1 hF => J4m hiS iS0 rfl) ?_
  intro n10 m10 v10 hn10 hm10 hd10 hf10 a' ha
  simp only [PutS] at ha
  subst ha
  obtain rfl := hf10
  refine rg_nil (fun w' hw' hF => ?_)
  obtain ⟨z, rfl⟩ := hw'
  simp only [List.drop_succ_cons, List.drop_zero]
  refine J5c ?_
  intro a' ha
  simp only [PutS] at ha
  subst ha
  rotate_right 1
  all_goals
   obtain ⟨hm10, -, hl10, b10⟩ := J30 hF
   have hP := Jgn (hF _ (List.mem_append_left _ (List.mem_append_right _ (List.mem_singleton.2 rfl)))).2
   have hd := hd10 _ (List.mem_append_right _ (List.mem_singleton.2 rfl))
   dsimp only at hd
   clear hF hd10
   refine J6 rfl 64 (.tmp 14) (.tmp 47) rfl rfl (cells := smc A6) rfl b10 (by rw [J39]; exact Nat.le_refl _) J25 (List.all_eq_true.2 fun v hv => J94 hP v hv) rfl fun Z hZ bZ => ?_
   have hBZ : Below Y.heap.size Y Z := J2 z.h hZ hn10
   have hin2 : StrIB ⟨Z, SS bs g2 (g2 + 1 + 1) g7 ob⟩ A6 (s1 ++ [(o.rdg, false)]) := (hP.pt hZ (fun hh => by
    rcases hh with hh | hh
    ·
     have := hh.2
     dsimp only at this
     omega
    ·
     omega)).sub fun g hg hl => by
     rcases hg with hh | hh
     · exact hh.1
     · exact ss_new (N := Y.heap.size) (by have := b4z.lt; omega) b4z.lt hg7Y (fun g hg => by rw [hobR] at hg; cases hg; exact hgRY) g (by omega)
   try simp only [PutS]
   go_upto_region 8 with (fail)
   exact KK.out n10 A6 Z ⟨hBZ, hn10, hin2, bZ⟩
 intro gN x Z hQ
 obtain ⟨BZ, hgN, hin, bN⟩ := hQ
 have hbw : bs.W.heap.size ≤ g2 := by have := HW.out.1; have := HG2.out; omega
 replace b2x := b2x.keep BZ
 replace b4z := b4z.keep BZ
 replace bY := bY.keep BZ
 replace bR := bR.keep BZ
 replace HE0 := Lib.hid (HE0.out.fwd BZ)
 replace HU0 := Lib.hid (J3a HU0.out BZ)
 replace E1 := E1.fwd BZ
 replace hBw := hBw.trans (BZ.mono hBw.size)
 clear b3x BZ
 refine wp_region_lit ?_
 iterate 2 (refine wpList_plain rfl fun K hK => ?_; go_big_op; refine hK _ _ ?_; clear hK K)
 refine wpSk rfl (J1 (cs := smc x) J3s rfl J25 rfl rfl (J4 bN)) fun v56 w56 hh => ?_
 obtain ⟨rfl, rfl⟩ := hh
 try simp only [PutS]
 refine wpList_plain rfl fun K hK => ?_; go_big_op; refine hK _ _ ?_; clear hK K
 refine J6 (i := j * 2) rfl 64 (.tmp 52) (.tmp 51) rfl rfl (cells := smc x) rfl bR (by rw [List.size_toArray, List.length_append, Jz J39, hul, J39]; omega) J25 (List.all_eq_true.2 fun v hv => J94 hin v hv) (spl_st us rest j x (by omega)) fun V hV bV => ?_
 have hneR : gR ≠ g7 := fun e => HNE.out (by rw [hobR, e])
 have HOZ := HSET.out j x V hjn bV
 replace b2x := hV.blk b2x (by omega)
 replace b4z := hV.blk b4z (by omega)
 replace bY := hV.blk bY hneR.symm
 replace HE0 := Lib.hid (HE0.out.pt hV (J50 hobR hbw (by omega)))
 replace E1 := E1.pt hV (J50 hobR hbw (by omega))
 replace hBw := J2 hBw hV (by have := HG2.out; omega)
 have HU1 := Al.set (i := j) (sts_pt HU0.out hV (J50 hobR hbw (by omega))) (hin.pt hV (J50 hobR hbw (by omega)))
 clear hV bV bN bR HU0 hin HIN hbw
 try simp only [PutS]
 go_upto_region 25 with (fail)
 refine wp_region_lit ?_
 refine wpSk rfl (J1 (cs := mtc (M) (.slice A1 M.eps.length c1)) J9 rfl (by rw [J5, J0 _ _ hM]) rfl rfl (J4 bY)) fun v162 w162 hh => ?_
 obtain ⟨rfl, rfl⟩ := hh
 try simp only [PutS]
 refine wpList_plain rfl fun K hK => ?_; go_big_op; refine hK _ _ ?_; clear hK K
 refine wpSk rfl (J5g hM rfl rfl rfl) fun v164 w164 hh => ?_
 obtain ⟨rfl, rfl⟩ := hh
 try simp only [PutS]
 refine J6 rfl 38 (.tmp 4) (.tmp 168) rfl rfl (cells := stC (M) (.slice A1 M.eps.length c1) (.slice (some ⟨gR, 0, none⟩) n cap5)) rfl b4z (by rw [hz4, Jj _ _ _ hM]; exact Nat.le_refl _) (by rw [Jo, Jj _ _ _ hM]) (J28 _ _ _ rfl rfl) (Ja _ _ (by rw [hz4, Jj _ _ _ hM])) fun Z hZ bZ => ?_
 have hBZ := J2 hBw hZ (by have := HG2.out; omega)
 have hbw : bs.W.heap.size ≤ g2 := by have := HW.out.1; have := HG2.out; omega
 have EZ : EpsB (bs.new w Z) (.slice A1 M.eps.length c1) (M).eps := ((E1).pt hZ (J4h hbw (by omega))).sub fun g hg _ => by rw [← HG2.out]; exact ss_out hg
 have TZ : StmsB (bs.new w Z) (.slice (some ⟨gR, 0, none⟩) n cap5) (ss.set j (s1 ++ [(o.rdg, false)])) := J87 (Jt (HOZ) hZ (fun e => by have := (Jk (HOZ) e).1; omega)) (sts_pt (HU1) hZ (J4h hbw (by omega))) (by rw [List.length_set]; exact hul) (by omega) HG2.out (by omega)
 try simp only [PutS]
 go_wp2_with fail
 refine bodyPost_ret (v := stV (M) (.slice A1 M.eps.length c1) (.slice (some ⟨gR, 0, none⟩) n cap5)) (Jv (cs := stC (M) (.slice A1 M.eps.length c1) (.slice (some ⟨gR, 0, none⟩) n cap5)) (g := g2 + 1 + 1) rfl rfl Ju rfl (by rw [Jo, Jj _ _ _ hM]) bZ) rfl ?_
 rw [HC.out]
 exact ⟨_, _, rfl, EZ, TZ, hBZ⟩
end
end Go.Proofs.YtoiampgfnidfdaaGreatDoor
