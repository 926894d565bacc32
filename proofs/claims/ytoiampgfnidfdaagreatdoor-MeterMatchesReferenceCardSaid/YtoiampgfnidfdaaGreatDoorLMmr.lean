/-
  MeterMatchesReference: the walk.
-/
import Derived.Test.YtoiampgfnidfdaaGreatDoorNm26
import Derived.Test.YtoiampgfnidfdaaGreatDoorEnr26
import Derived.Test.YtoiampgfnidfdaaGreatDoorPs26
import Derived.Test.YtoiampgfnidfdaaGreatDoorRc26
import Derived.Test.YtoiampgfnidfdaaGreatDoorPu26
import Derived.Test.YtoiampgfnidfdaaGreatDoorOp26
import Derived.Test.YtoiampgfnidfdaaGreatDoorRo26
import Derived.Test.YtoiampgfnidfdaaGreatDoorEc26
import Derived.Test.YtoiampgfnidfdaaGreatDoorLen
set_option maxRecDepth 100000
set_option maxHeartbeats 8000000
namespace Go.Proofs.YtoiampgfnidfdaaGreatDoor
open Go.RowKit
section
open Go.RowKit

theorem Jdl : ∀ (cs : List Value) (v : Value) (w : World), cs.length = 34 → (Instr.field 38 (.agg (cs ++ [v]).toArray) 0).run Tryz.prog w = .ok (.agg cs.toArray) w
 | a0 :: a1 :: a2 :: a3 :: [a4, a5, a6, a7, a8, a9, a10, a11, a12, a13, a14, a15, a16, a17, a18, a19, a20, a21, a22, a23, a24, a25, a26, a27, a28, a29, a30, a31, a32, a33], v, w, _ => by kernel_rfl
theorem Jfh {o : Oper} {a : Act} {w : World} {x : Operand} {m : Mt} {vE vL : Value} (hs : m.seed.length = 32) (ho : o.op = .field 38 x 0) (hx : a.eval x = stV m vE vL) : stepAt Tryz.prog o a w fun v w' => v = mtV m vE ∧ w' = w := by
 have hr := Jdl (mtc m vE) vL w (J0 m vE hs)
 unfold stepAt execOp
 simp only [ho, hx]
 unfold stV stC
 simp only [Sem.run_bind, hr, Result.andThen_ok]
 exact ⟨rfl, rfl⟩
def argc (lg pt ix ep : Int) (r : Rdg) : List Value := [.int .i64 lg, .int .i64 pt, .int .i64 ix, .int .i64 ep] ++ rdc r
def I64 (n : Int) : Prop := -9223372036854775808 ≤ n ∧ n ≤ 9223372036854775807
theorem ar_rd {W : World} {g : Nat} {t : TypeId} {a b c d : Int} {r : Rdg} (h : Blk W g t (argc a b c d r).toArray) : W.rangeAt g 4 (rdc r) := fun j u hj => by
 rw [h.cell]
 simp only [List.getElem?_toArray]
 unfold argc
 rw [List.getElem?_append_right (by simp)]
 simpa using hj
def MB (S : Nat → Prop) (W : World) (x : Nat × Mt) : Prop := ∃ A c, Blk W x.1 35 (mtc x.2 (.slice A x.2.eps.length c)).toArray ∧ EpsB ⟨W, S⟩ (.slice A x.2.eps.length c) x.2.eps
def MBs (S : Nat → Prop) (W : World) (L : List (Nat × Mt)) : Prop := ∀ x ∈ L, MB S W x
theorem MBs.keep {S : Nat → Prop} {W W' : World} {L : List (Nat × Mt)} (h : MBs S W L) (hb : Below W.heap.size W W') : MBs S W' L := fun x hx => by
 obtain ⟨A, c, h1, h2⟩ := h x hx
 exact ⟨A, c, h1.keep hb, h2.fwd hb⟩
theorem MBs.cons {S : Nat → Prop} {W : World} {L : List (Nat × Mt)} {x : Nat × Mt} (h : MBs S W L) (hx : MB S W x) : MBs S W (x :: L) := fun y hy => by
 rcases List.mem_cons.1 hy with rfl | hy
 · exact hx
 · exact h y hy
def PBy (l : List Nat) (v : Value) (w : World) : Prop := RdA 1 w v l.length (byc l)
theorem Jgs {l : List Nat} : Fit (Was (PBy l)) (SlF l.length) := ⟨was_st, fun _ => ⟨.slice none l.length 0, none, 0, rfl⟩, fun n m v w h => by
 obtain ⟨w0, _, hE, _⟩ := h
 obtain ⟨A, cap, rfl⟩ := Rd.len hE
 exact ⟨A, cap, rfl⟩⟩
theorem pby_of {l : List Nat} {n m : Nat} {u : Value} {w : World} (h : Was (PBy l) n m u w) : RdA 1 w u l.length (byc l) := by
 obtain ⟨w0, h1, h3, h4⟩ := h
 subst h1
 exact RdA.keep h3 h4
theorem Jgt {l : List Nat} {w : World} : ∀ r W2, (∃ v, r = .returned v ∧ RdA 1 W2 v l.length (byc l) ∧ Below w.heap.size w W2) → RetR (Was (PBy l)) w r W2 := fun r W2 ⟨v, h1, h2, h3⟩ => ⟨_, h1, ⟨W2, rfl, h2, Below.refl _ _⟩, h3⟩
theorem Jl4 {m : Mt} (h : ∀ (i : Nat) e, m.eps[i]? = some e → ∀ d ∈ e.peaks, DgOk d) (n : Int) : DgOk (rootM m n).1 := by
 unfold rootM
 split
 · exact ⟨by simp, fun x hx => by rw [List.eq_of_mem_replicate hx]; decide⟩
 ·
  rename_i hn
  exact Jcb (h n.toNat _ (at_get m n.toNat (by omega)))
theorem MBs.get {S : Nat → Prop} {W : World} {L : List (Nat × Mt)} (h : MBs S W L) {k g : Nat} {M : Mt} (hk : L[k]? = some (g, M)) : ∃ A c, Blk W g 35 (mtc M (.slice A M.eps.length c)).toArray ∧ EpsB ⟨W, S⟩ (.slice A M.eps.length c) M.eps := h (g, M) (List.mem_of_getElem? hk)
attribute [local irreducible] wpRg keyD sha leafD pairD
theorem wkMeterMatchesReference (seed : Dg) (hs : DgOk seed) (l : List Op26) (hl : l.length ≤ 140737488355327) (ho : ∀ o ∈ l, o.ok) (vO : Value) (lg pt ix ep : Int) (hlg : I64 lg) (hpt : I64 pt) (hix : I64 ix) (hep : I64 ep) (r : Rdg) (hr : RdgIn r) (w : World) (hO : RdA 6 w vO l.length (l.flatMap opc)) (hL : Laid w) (hSh : Lsh w) (hDb : Ldb w) : Calls Tryz.prog 3 #[qv26 seed vO, .agg (argc lg pt ix ep r).toArray] w (Ret (.bool true) w) := by
 obtain ⟨AO, cO, rfl⟩ := Rd.len hO
 have HO := Lib.hid hO
 have HL := Lib.hid hL
 have HS := Lib.hid hSh
 have HD := Lib.hid hDb
 have HS0 := Lib.hid hs
 have HOO := Lib.hid ho
 have HLL := Lib.hid hl
 have hsl : seed.length = 32 := hs.1
 obtain ⟨nl, hnl⟩ : ∃ n, n = l.length := ⟨_, rfl⟩
 rw [← hnl]
 have HNL := Lib.hid hnl
 obtain ⟨Qv, hQv⟩ : ∃ S, S = qv26 seed (.slice AO nl cO) := ⟨_, rfl⟩
 obtain ⟨Av, hAv⟩ : ∃ S, S = Value.agg (argc lg pt ix ep r).toArray := ⟨_, rfl⟩
 rw [← hQv, ← hAv]
 clear hnl hO hL hSh hDb hs ho hl
 go_enter Tryz.func3, Tryz.ntmps3
 go_upto_region 1 with (fail)
 refine J1h fun W hB hz b1 b4 => ?_
 have b2 : Blk W w.heap.size 26 (qc26 seed (.slice AO nl cO)).toArray := by first | exact b1 | (rw [hQv] at b1; exact b1)
 have b3 : Blk W (w.heap.size + 1) 30 (argc lg pt ix ep r).toArray := by first | exact b4 | (rw [hAv] at b4; exact b4)
 obtain ⟨g1, hg1⟩ : ∃ g, g = w.heap.size := ⟨_, rfl⟩
 rw [← hg1] at b2 b3 ⊢
 have HG1 := Lib.hid hg1
 clear b1 b4 hz hQv hAv hg1
 refine wp_region_lit ?_
 refine wpSk rfl (J7 J5o (lSanity26 W (HL.out.keep hB) (HS.out.keep hB) (HD.out.keep hB)) rfl rfl) fun v33 w33 hh => ?_
 obtain ⟨rfl, B33⟩ := hh
 try simp only [PutS]
 replace b2 := b2.keep B33
 replace b3 := b3.keep B33
 replace hB := hB.trans (B33.mono hB.size)
 clear B33
 try simp only [PutS]
 go_upto_region 2 with (fail)
 refine wp_region_lit ?_
 refine wpSk rfl (J1 (cs := qc26 seed (.slice AO nl cO)) Jif rfl (by rw [Jkp, Jkm _ _ hsl]) rfl rfl (J4 b2)) fun v34 w34 hh => ?_
 obtain ⟨rfl, rfl⟩ := hh
 try simp only [PutS]
 obtain ⟨s, hs⟩ : ∃ s, s = playM seed l := ⟨_, rfl⟩
 have hP := lMade26 seed HS0.out l HLL.out HOO.out (.slice AO nl cO) w34 (by rw [HNL.out]; exact RdA.keep HO.out hB)
 rw [← hs] at hP
 refine wpSk rfl (Jm (R := fun v W2 => ∃ vE vL, v = stV s.1 vE vL ∧ EpsB ⟨W2, fun g => w34.heap.size ≤ g⟩ vE s.1.eps ∧ Below w34.heap.size w34 W2) J6d (hP.mono fun r W2 ⟨vE, vL, h1, h2, h3, h4⟩ => ⟨_, h1, vE, vL, rfl, h2, h4⟩) rfl rfl) fun v35 w35 hh => ?_
 obtain ⟨vE, vL, rfl, E1, B35⟩ := hh
 try simp only [PutS]
 have hok : StOk26 25 s := by rw [hs]; exact Ji2 seed HS0.out l
 have hms : s.1.seed.length = 32 := hok.seed.1
 obtain ⟨S, hSS⟩ : ∃ S : Nat → Prop, S = fun g => w34.heap.size ≤ g := ⟨_, rfl⟩
 rw [← hSS] at E1
 obtain ⟨N, hN⟩ : ∃ N, N = w34.heap.size := ⟨_, rfl⟩
 have HSS := Lib.hid (show ∀ g, N ≤ g → S g from fun g hg => by rw [hSS]; omega)
 have hNs : N ≤ w35.heap.size := by have := B35.size; omega
 replace b2 := b2.keep B35
 replace b3 := b3.keep B35
 replace hB := hB.trans (B35.mono hB.size)
 clear B35 hP hSS hN
 refine wpSk rfl (Jfh hms rfl rfl) fun v36 w36 hh => ?_
 obtain ⟨rfl, rfl⟩ := hh
 try simp only [PutS]
 obtain ⟨iM, hiM, iM0, iM1, iM2⟩ := info_parts J2q
 have hml := hok.eps
 have HNN := Lib.hid (hok.n (by omega))
 have HN5 := Lib.hid hok.n5
 have HCN := Lib.hid hok.cnt
 have HSD := Lib.hid (show DgOk s.1.seed from hok.seed)
 have HEL := Lib.hid (Jii hok (by omega) (Jex E1.now))
 obtain ⟨m, hm⟩ : ∃ m, m = s.1 := ⟨_, rfl⟩
 rw [← hm] at HNN HN5 HCN HSD HEL hms hml E1 ⊢
 have HML := Lib.hid hml
 obtain ⟨A1, c1, rfl⟩ := E1.len
 clear hm hok hs hml
 have HF : Hid (MBs S w36 []) := Lib.hid fun x hx => by cases hx
 refine wpSk rfl (Jl hiM iM0 rfl) fun vz wz hh => ?_
 obtain ⟨rfl, rfl⟩ := hh
 try simp only [PutS]
 have bz : Blk (w36.alloc (.cells (Value.agg (mtc ⟨0, List.replicate 32 0, []⟩ (.slice none 0 0)).toArray).cells 35)) w36.heap.size 35 (mtc ⟨0, List.replicate 32 0, []⟩ (.slice none 0 0)).toArray := World.alloc_heap_new w36 _
 have Bz := (Below.refl _ w36).alloc (Nat.le_refl _) (.cells (Value.agg (mtc ⟨0, List.replicate 32 0, []⟩ (.slice none 0 0)).toArray).cells 35)
 generalize w36.alloc (.cells (Value.agg (mtc ⟨0, List.replicate 32 0, []⟩ (.slice none 0 0)).toArray).cells 35) = wz at *
 refine J6 rfl 35 (.tmp 6) (.tmp 36) rfl rfl (cells := mtc m (.slice A1 (m).eps.length c1)) rfl bz (by rw [List.size_toArray, J0 ⟨0, List.replicate 32 0, []⟩ _ rfl, J0 (m) _ hms]; exact Nat.le_refl _) (by rw [J5, J0 (m) _ hms]) (Ji _ _ rfl) (Ja _ _ (by rw [List.size_toArray, J0 ⟨0, List.replicate 32 0, []⟩ _ rfl, J0 (m) _ hms])) fun X hX bX => ?_
 have BX : Below w36.heap.size w36 X := J2 Bz hX (Nat.le_refl _)
 obtain ⟨g6, hg⟩ : ∃ g, g = w36.heap.size := ⟨_, rfl⟩
 rw [← hg] at bX ⊢
 have hgX : g6 < X.heap.size := bX.lt
 replace HF := Lib.hid (MBs.keep HF.out BX)
 replace b2 := b2.keep BX
 replace b3 := b3.keep BX
 replace hB := hB.trans ((BX).mono hB.size)
 replace hNs := Nat.le_trans hNs (BX).size
 try replace Hvl1 := Lib.hid (RdA.keep Hvl1.out BX)
 try replace Hvl2 := Lib.hid (RdA.keep Hvl2.out BX)
 try replace HB29 := Lib.hid (HB29.out.keep BX)
 replace HF := Lib.hid (MBs.cons (x := (g6, m)) HF.out ⟨A1, c1, bX, E1.fwd BX⟩)
 clear bz Bz hX BX hg bX E1 hgX
 try simp only [PutS]
 go_upto_region 3 with (fail)
 refine wp_region_lit ?_
 obtain ⟨A38, c38, b38, e38⟩ := MBs.get HF.out (k := 0) rfl
 refine wpSk rfl (J1 (cs := mtc m (.slice A38 m.eps.length c38)) J9 rfl (by rw [J5, J0 m _ hms]) rfl rfl (J4 b38)) fun v38 w38 hh => ?_
 obtain ⟨rfl, rfl⟩ := hh
 try simp only [PutS]
 have k0 : w38.cell? ⟨g1 + 1, 0, none⟩ = some (.int .i64 lg) := (b3.cell 0).trans rfl
 have k1 : w38.cell? ⟨g1 + 1, 1, none⟩ = some (.int .i64 pt) := (b3.cell 1).trans rfl
 have k2 : w38.cell? ⟨g1 + 1, 2, none⟩ = some (.int .i64 ix) := (b3.cell 2).trans rfl
 have k3 : w38.cell? ⟨g1 + 1, 3, none⟩ = some (.int .i64 ep) := (b3.cell 3).trans rfl
 have l3 := b3.lt
 iterate 4 (refine wpList_plain rfl fun K hK => ?_; go_big_op; refine hK _ _ ?_; clear hK K)
 obtain ⟨⟨Mo, co⟩, hx⟩ : ∃ x, x = openM m lg pt := ⟨_, rfl⟩
 have HXMo := Lib.hid hx
 have hMo : (Mo).seed.length = 32 := by have := Jad m lg pt; rw [← hx] at this; rw [this]; exact hms
 have HDMo := Lib.hid (show DgOk (Mo).seed by have := Jad m lg pt; rw [← hx] at this; rw [this]; exact HSD.out)
 clear hx
 refine wpSk rfl (Jm J2u ((gOpenM m HNN.out (by have := HML.out; omega) lg pt hlg hpt (.slice A38 m.eps.length c38) ⟨w38, S⟩ w38 (Bse.ok_self _) (HS.out.keep hB) e38).mono (J1v HXMo.out.symm)) rfl rfl) fun v43 w43 hh => ?_
 obtain ⟨vE1, rfl, E1, B1⟩ := hh
 try simp only [PutS]
 clear b38 e38
 replace E1 := eps_to E1 (S := S) fun g hg _ => HSS.out g (Nat.le_trans hNs hg)
 obtain ⟨A1, c1, rfl⟩ := E1.len
 replace HF := Lib.hid (MBs.keep HF.out B1)
 replace b2 := b2.keep B1
 replace b3 := b3.keep B1
 replace hB := hB.trans ((B1).mono hB.size)
 replace hNs := Nat.le_trans hNs (B1).size
 try replace Hvl1 := Lib.hid (RdA.keep Hvl1.out B1)
 try replace Hvl2 := Lib.hid (RdA.keep Hvl2.out B1)
 try replace HB29 := Lib.hid (HB29.out.keep B1)
 clear B1 k0 k1 k2 k3 l3
 refine wpList_plain rfl fun K hK => ?_; go_big_op; refine hK _ _ ?_; clear hK K
 refine wpSk rfl (Jh (v := mtV Mo (.slice A1 (Mo).eps.length c1)) rfl rfl rfl) fun v44 w44 hh => ?_
 obtain ⟨rfl, rfl⟩ := hh
 try simp only [PutS]
 refine wpSk rfl (Jh (v := .int .i64 co) rfl rfl rfl) fun v45 w45 hh => ?_
 obtain ⟨rfl, rfl⟩ := hh
 try simp only [PutS]
 refine wpSk rfl (Jl hiM iM0 rfl) fun vz wz hh => ?_
 obtain ⟨rfl, rfl⟩ := hh
 try simp only [PutS]
 have bz : Blk (w45.alloc (.cells (Value.agg (mtc ⟨0, List.replicate 32 0, []⟩ (.slice none 0 0)).toArray).cells 35)) w45.heap.size 35 (mtc ⟨0, List.replicate 32 0, []⟩ (.slice none 0 0)).toArray := World.alloc_heap_new w45 _
 have Bz := (Below.refl _ w45).alloc (Nat.le_refl _) (.cells (Value.agg (mtc ⟨0, List.replicate 32 0, []⟩ (.slice none 0 0)).toArray).cells 35)
 generalize w45.alloc (.cells (Value.agg (mtc ⟨0, List.replicate 32 0, []⟩ (.slice none 0 0)).toArray).cells 35) = wz at *
 refine J6 rfl 35 (.tmp 7) (.tmp 44) rfl rfl (cells := mtc Mo (.slice A1 (Mo).eps.length c1)) rfl bz (by rw [List.size_toArray, J0 ⟨0, List.replicate 32 0, []⟩ _ rfl, J0 (Mo) _ hMo]; exact Nat.le_refl _) (by rw [J5, J0 (Mo) _ hMo]) (Ji _ _ rfl) (Ja _ _ (by rw [List.size_toArray, J0 ⟨0, List.replicate 32 0, []⟩ _ rfl, J0 (Mo) _ hMo])) fun X hX bX => ?_
 have BX : Below w45.heap.size w45 X := J2 Bz hX (Nat.le_refl _)
 obtain ⟨g7, hg⟩ : ∃ g, g = w45.heap.size := ⟨_, rfl⟩
 rw [← hg] at bX ⊢
 have hgX : g7 < X.heap.size := bX.lt
 replace HF := Lib.hid (MBs.keep HF.out BX)
 replace b2 := b2.keep BX
 replace b3 := b3.keep BX
 replace hB := hB.trans ((BX).mono hB.size)
 replace hNs := Nat.le_trans hNs (BX).size
 try replace Hvl1 := Lib.hid (RdA.keep Hvl1.out BX)
 try replace Hvl2 := Lib.hid (RdA.keep Hvl2.out BX)
 try replace HB29 := Lib.hid (HB29.out.keep BX)
 replace HF := Lib.hid (MBs.cons (x := (g7, Mo)) HF.out ⟨A1, c1, bX, E1.fwd BX⟩)
 clear bz Bz hX BX hg bX E1 hgX
 try simp only [PutS]
 go_upto_region 4 with (fail)
 refine wp_region_lit ?_
 obtain ⟨A47, c47, b47, e47⟩ := MBs.get HF.out (k := 1) rfl
 refine wpSk rfl (J1 (cs := mtc m (.slice A47 m.eps.length c47)) J9 rfl (by rw [J5, J0 m _ hms]) rfl rfl (J4 b47)) fun v47 w47 hh => ?_
 obtain ⟨rfl, rfl⟩ := hh
 try simp only [PutS]
 have k0 : w47.cell? ⟨g1 + 1, 0, none⟩ = some (.int .i64 lg) := (b3.cell 0).trans rfl
 have k1 : w47.cell? ⟨g1 + 1, 1, none⟩ = some (.int .i64 pt) := (b3.cell 1).trans rfl
 have k2 : w47.cell? ⟨g1 + 1, 2, none⟩ = some (.int .i64 ix) := (b3.cell 2).trans rfl
 have k3 : w47.cell? ⟨g1 + 1, 3, none⟩ = some (.int .i64 ep) := (b3.cell 3).trans rfl
 have l3 := b3.lt
 iterate 4 (refine wpList_plain rfl fun K hK => ?_; go_big_op; refine hK _ _ ?_; clear hK K)
 refine wpSk rfl (Jm J3t ((rOpen26 m HNN.out (by have := HML.out; omega) lg pt hlg hpt (.slice A47 m.eps.length c47) ⟨w47, S⟩ w47 (Bse.ok_self _) e47).mono (J1v HXMo.out.symm)) rfl rfl) fun v52 w52 hh => ?_
 obtain ⟨vE1, rfl, E1, B1⟩ := hh
 try simp only [PutS]
 clear b47 e47
 replace E1 := eps_to E1 (S := S) fun g hg _ => HSS.out g (Nat.le_trans hNs hg)
 obtain ⟨A1, c1, rfl⟩ := E1.len
 replace HF := Lib.hid (MBs.keep HF.out B1)
 replace b2 := b2.keep B1
 replace b3 := b3.keep B1
 replace hB := hB.trans ((B1).mono hB.size)
 replace hNs := Nat.le_trans hNs (B1).size
 try replace Hvl1 := Lib.hid (RdA.keep Hvl1.out B1)
 try replace Hvl2 := Lib.hid (RdA.keep Hvl2.out B1)
 try replace HB29 := Lib.hid (HB29.out.keep B1)
 clear B1 k0 k1 k2 k3 l3
 refine wpList_plain rfl fun K hK => ?_; go_big_op; refine hK _ _ ?_; clear hK K
 refine wpSk rfl (Jh (v := mtV Mo (.slice A1 (Mo).eps.length c1)) rfl rfl rfl) fun v53 w53 hh => ?_
 obtain ⟨rfl, rfl⟩ := hh
 try simp only [PutS]
 refine wpSk rfl (Jh (v := .int .i64 co) rfl rfl rfl) fun v54 w54 hh => ?_
 obtain ⟨rfl, rfl⟩ := hh
 try simp only [PutS]
 refine wpSk rfl (Jl hiM iM0 rfl) fun vz wz hh => ?_
 obtain ⟨rfl, rfl⟩ := hh
 try simp only [PutS]
 have bz : Blk (w54.alloc (.cells (Value.agg (mtc ⟨0, List.replicate 32 0, []⟩ (.slice none 0 0)).toArray).cells 35)) w54.heap.size 35 (mtc ⟨0, List.replicate 32 0, []⟩ (.slice none 0 0)).toArray := World.alloc_heap_new w54 _
 have Bz := (Below.refl _ w54).alloc (Nat.le_refl _) (.cells (Value.agg (mtc ⟨0, List.replicate 32 0, []⟩ (.slice none 0 0)).toArray).cells 35)
 generalize w54.alloc (.cells (Value.agg (mtc ⟨0, List.replicate 32 0, []⟩ (.slice none 0 0)).toArray).cells 35) = wz at *
 refine J6 rfl 35 (.tmp 9) (.tmp 53) rfl rfl (cells := mtc Mo (.slice A1 (Mo).eps.length c1)) rfl bz (by rw [List.size_toArray, J0 ⟨0, List.replicate 32 0, []⟩ _ rfl, J0 (Mo) _ hMo]; exact Nat.le_refl _) (by rw [J5, J0 (Mo) _ hMo]) (Ji _ _ rfl) (Ja _ _ (by rw [List.size_toArray, J0 ⟨0, List.replicate 32 0, []⟩ _ rfl, J0 (Mo) _ hMo])) fun X hX bX => ?_
 have BX : Below w54.heap.size w54 X := J2 Bz hX (Nat.le_refl _)
 obtain ⟨g9, hg⟩ : ∃ g, g = w54.heap.size := ⟨_, rfl⟩
 rw [← hg] at bX ⊢
 have hgX : g9 < X.heap.size := bX.lt
 replace HF := Lib.hid (MBs.keep HF.out BX)
 replace b2 := b2.keep BX
 replace b3 := b3.keep BX
 replace hB := hB.trans ((BX).mono hB.size)
 replace hNs := Nat.le_trans hNs (BX).size
 try replace Hvl1 := Lib.hid (RdA.keep Hvl1.out BX)
 try replace Hvl2 := Lib.hid (RdA.keep Hvl2.out BX)
 try replace HB29 := Lib.hid (HB29.out.keep BX)
 replace HF := Lib.hid (MBs.cons (x := (g9, Mo)) HF.out ⟨A1, c1, bX, E1.fwd BX⟩)
 clear bz Bz hX BX hg bX E1 hgX
 try simp only [PutS]
 go_upto_region 5 with (fail)
 refine wp_region_lit ?_
 obtain ⟨A56, c56, b56, e56⟩ := MBs.get HF.out (k := 2) rfl
 refine wpSk rfl (J1 (cs := mtc m (.slice A56 m.eps.length c56)) J9 rfl (by rw [J5, J0 m _ hms]) rfl rfl (J4 b56)) fun v56 w56 hh => ?_
 obtain ⟨rfl, rfl⟩ := hh
 try simp only [PutS]
 have k0 : w56.cell? ⟨g1 + 1, 0, none⟩ = some (.int .i64 lg) := (b3.cell 0).trans rfl
 have k1 : w56.cell? ⟨g1 + 1, 1, none⟩ = some (.int .i64 pt) := (b3.cell 1).trans rfl
 have k2 : w56.cell? ⟨g1 + 1, 2, none⟩ = some (.int .i64 ix) := (b3.cell 2).trans rfl
 have k3 : w56.cell? ⟨g1 + 1, 3, none⟩ = some (.int .i64 ep) := (b3.cell 3).trans rfl
 have l3 := b3.lt
 obtain ⟨⟨Mc, cc⟩, hx⟩ : ∃ x, x = closeM m := ⟨_, rfl⟩
 have HXMc := Lib.hid hx
 have hMc : (Mc).seed.length = 32 := by have := J9p m; rw [← hx] at this; rw [this]; exact hms
 have HDMc := Lib.hid (show DgOk (Mc).seed by have := J9p m; rw [← hx] at this; rw [this]; exact HSD.out)
 clear hx
 refine wpSk rfl (Jm J53 ((gCloseM m HNN.out (.slice A56 m.eps.length c56) ⟨w56, S⟩ w56 (Bse.ok_self _) e56).mono (J1v HXMc.out.symm)) rfl rfl) fun v57 w57 hh => ?_
 obtain ⟨vE1, rfl, E1, B1⟩ := hh
 try simp only [PutS]
 clear b56 e56
 replace E1 := eps_to E1 (S := S) fun g hg _ => HSS.out g (Nat.le_trans hNs hg)
 obtain ⟨A1, c1, rfl⟩ := E1.len
 replace HF := Lib.hid (MBs.keep HF.out B1)
 replace b2 := b2.keep B1
 replace b3 := b3.keep B1
 replace hB := hB.trans ((B1).mono hB.size)
 replace hNs := Nat.le_trans hNs (B1).size
 try replace Hvl1 := Lib.hid (RdA.keep Hvl1.out B1)
 try replace Hvl2 := Lib.hid (RdA.keep Hvl2.out B1)
 try replace HB29 := Lib.hid (HB29.out.keep B1)
 clear B1 k0 k1 k2 k3 l3
 refine wpList_plain rfl fun K hK => ?_; go_big_op; refine hK _ _ ?_; clear hK K
 refine wpSk rfl (Jh (v := mtV Mc (.slice A1 (Mc).eps.length c1)) rfl rfl rfl) fun v58 w58 hh => ?_
 obtain ⟨rfl, rfl⟩ := hh
 try simp only [PutS]
 refine wpSk rfl (Jh (v := .int .i64 cc) rfl rfl rfl) fun v59 w59 hh => ?_
 obtain ⟨rfl, rfl⟩ := hh
 try simp only [PutS]
 refine wpSk rfl (Jl hiM iM0 rfl) fun vz wz hh => ?_
 obtain ⟨rfl, rfl⟩ := hh
 try simp only [PutS]
 have bz : Blk (w59.alloc (.cells (Value.agg (mtc ⟨0, List.replicate 32 0, []⟩ (.slice none 0 0)).toArray).cells 35)) w59.heap.size 35 (mtc ⟨0, List.replicate 32 0, []⟩ (.slice none 0 0)).toArray := World.alloc_heap_new w59 _
 have Bz := (Below.refl _ w59).alloc (Nat.le_refl _) (.cells (Value.agg (mtc ⟨0, List.replicate 32 0, []⟩ (.slice none 0 0)).toArray).cells 35)
 generalize w59.alloc (.cells (Value.agg (mtc ⟨0, List.replicate 32 0, []⟩ (.slice none 0 0)).toArray).cells 35) = wz at *
 refine J6 rfl 35 (.tmp 11) (.tmp 58) rfl rfl (cells := mtc Mc (.slice A1 (Mc).eps.length c1)) rfl bz (by rw [List.size_toArray, J0 ⟨0, List.replicate 32 0, []⟩ _ rfl, J0 (Mc) _ hMc]; exact Nat.le_refl _) (by rw [J5, J0 (Mc) _ hMc]) (Ji _ _ rfl) (Ja _ _ (by rw [List.size_toArray, J0 ⟨0, List.replicate 32 0, []⟩ _ rfl, J0 (Mc) _ hMc])) fun X hX bX => ?_
 have BX : Below w59.heap.size w59 X := J2 Bz hX (Nat.le_refl _)
 obtain ⟨g11, hg⟩ : ∃ g, g = w59.heap.size := ⟨_, rfl⟩
 rw [← hg] at bX ⊢
 have hgX : g11 < X.heap.size := bX.lt
 replace HF := Lib.hid (MBs.keep HF.out BX)
 replace b2 := b2.keep BX
 replace b3 := b3.keep BX
 replace hB := hB.trans ((BX).mono hB.size)
 replace hNs := Nat.le_trans hNs (BX).size
 try replace Hvl1 := Lib.hid (RdA.keep Hvl1.out BX)
 try replace Hvl2 := Lib.hid (RdA.keep Hvl2.out BX)
 try replace HB29 := Lib.hid (HB29.out.keep BX)
 replace HF := Lib.hid (MBs.cons (x := (g11, Mc)) HF.out ⟨A1, c1, bX, E1.fwd BX⟩)
 clear bz Bz hX BX hg bX E1 hgX
 try simp only [PutS]
 go_upto_region 6 with (fail)
 refine wp_region_lit ?_
 obtain ⟨A61, c61, b61, e61⟩ := MBs.get HF.out (k := 3) rfl
 refine wpSk rfl (J1 (cs := mtc m (.slice A61 m.eps.length c61)) J9 rfl (by rw [J5, J0 m _ hms]) rfl rfl (J4 b61)) fun v61 w61 hh => ?_
 obtain ⟨rfl, rfl⟩ := hh
 try simp only [PutS]
 have k0 : w61.cell? ⟨g1 + 1, 0, none⟩ = some (.int .i64 lg) := (b3.cell 0).trans rfl
 have k1 : w61.cell? ⟨g1 + 1, 1, none⟩ = some (.int .i64 pt) := (b3.cell 1).trans rfl
 have k2 : w61.cell? ⟨g1 + 1, 2, none⟩ = some (.int .i64 ix) := (b3.cell 2).trans rfl
 have k3 : w61.cell? ⟨g1 + 1, 3, none⟩ = some (.int .i64 ep) := (b3.cell 3).trans rfl
 have l3 := b3.lt
 refine wpSk rfl (Jm J3g ((rClose26 m HNN.out (.slice A61 m.eps.length c61) ⟨w61, S⟩ w61 (Bse.ok_self _) e61).mono (J1v HXMc.out.symm)) rfl rfl) fun v62 w62 hh => ?_
 obtain ⟨vE1, rfl, E1, B1⟩ := hh
 try simp only [PutS]
 clear b61 e61
 replace E1 := eps_to E1 (S := S) fun g hg _ => HSS.out g (Nat.le_trans hNs hg)
 obtain ⟨A1, c1, rfl⟩ := E1.len
 replace HF := Lib.hid (MBs.keep HF.out B1)
 replace b2 := b2.keep B1
 replace b3 := b3.keep B1
 replace hB := hB.trans ((B1).mono hB.size)
 replace hNs := Nat.le_trans hNs (B1).size
 try replace Hvl1 := Lib.hid (RdA.keep Hvl1.out B1)
 try replace Hvl2 := Lib.hid (RdA.keep Hvl2.out B1)
 try replace HB29 := Lib.hid (HB29.out.keep B1)
 clear B1 k0 k1 k2 k3 l3
 refine wpList_plain rfl fun K hK => ?_; go_big_op; refine hK _ _ ?_; clear hK K
 refine wpSk rfl (Jh (v := mtV Mc (.slice A1 (Mc).eps.length c1)) rfl rfl rfl) fun v63 w63 hh => ?_
 obtain ⟨rfl, rfl⟩ := hh
 try simp only [PutS]
 refine wpSk rfl (Jh (v := .int .i64 cc) rfl rfl rfl) fun v64 w64 hh => ?_
 obtain ⟨rfl, rfl⟩ := hh
 try simp only [PutS]
 refine wpSk rfl (Jl hiM iM0 rfl) fun vz wz hh => ?_
 obtain ⟨rfl, rfl⟩ := hh
 try simp only [PutS]
 have bz : Blk (w64.alloc (.cells (Value.agg (mtc ⟨0, List.replicate 32 0, []⟩ (.slice none 0 0)).toArray).cells 35)) w64.heap.size 35 (mtc ⟨0, List.replicate 32 0, []⟩ (.slice none 0 0)).toArray := World.alloc_heap_new w64 _
 have Bz := (Below.refl _ w64).alloc (Nat.le_refl _) (.cells (Value.agg (mtc ⟨0, List.replicate 32 0, []⟩ (.slice none 0 0)).toArray).cells 35)
 generalize w64.alloc (.cells (Value.agg (mtc ⟨0, List.replicate 32 0, []⟩ (.slice none 0 0)).toArray).cells 35) = wz at *
 refine J6 rfl 35 (.tmp 13) (.tmp 63) rfl rfl (cells := mtc Mc (.slice A1 (Mc).eps.length c1)) rfl bz (by rw [List.size_toArray, J0 ⟨0, List.replicate 32 0, []⟩ _ rfl, J0 (Mc) _ hMc]; exact Nat.le_refl _) (by rw [J5, J0 (Mc) _ hMc]) (Ji _ _ rfl) (Ja _ _ (by rw [List.size_toArray, J0 ⟨0, List.replicate 32 0, []⟩ _ rfl, J0 (Mc) _ hMc])) fun X hX bX => ?_
 have BX : Below w64.heap.size w64 X := J2 Bz hX (Nat.le_refl _)
 obtain ⟨g13, hg⟩ : ∃ g, g = w64.heap.size := ⟨_, rfl⟩
 rw [← hg] at bX ⊢
 have hgX : g13 < X.heap.size := bX.lt
 replace HF := Lib.hid (MBs.keep HF.out BX)
 replace b2 := b2.keep BX
 replace b3 := b3.keep BX
 replace hB := hB.trans ((BX).mono hB.size)
 replace hNs := Nat.le_trans hNs (BX).size
 try replace Hvl1 := Lib.hid (RdA.keep Hvl1.out BX)
 try replace Hvl2 := Lib.hid (RdA.keep Hvl2.out BX)
 try replace HB29 := Lib.hid (HB29.out.keep BX)
 replace HF := Lib.hid (MBs.cons (x := (g13, Mc)) HF.out ⟨A1, c1, bX, E1.fwd BX⟩)
 clear bz Bz hX BX hg bX E1 hgX
 try simp only [PutS]
 go_upto_region 7 with (fail)
 refine wp_region_lit ?_
 obtain ⟨A66, c66, b66, e66⟩ := MBs.get HF.out (k := 4) rfl
 refine wpSk rfl (J1 (cs := mtc m (.slice A66 m.eps.length c66)) J9 rfl (by rw [J5, J0 m _ hms]) rfl rfl (J4 b66)) fun v66 w66 hh => ?_
 obtain ⟨rfl, rfl⟩ := hh
 try simp only [PutS]
 have k0 : w66.cell? ⟨g1 + 1, 0, none⟩ = some (.int .i64 lg) := (b3.cell 0).trans rfl
 have k1 : w66.cell? ⟨g1 + 1, 1, none⟩ = some (.int .i64 pt) := (b3.cell 1).trans rfl
 have k2 : w66.cell? ⟨g1 + 1, 2, none⟩ = some (.int .i64 ix) := (b3.cell 2).trans rfl
 have k3 : w66.cell? ⟨g1 + 1, 3, none⟩ = some (.int .i64 ep) := (b3.cell 3).trans rfl
 have l3 := b3.lt
 refine wpList_plain rfl fun K hK => ?_; go_big_op; refine hK _ _ ?_; clear hK K
 refine wpSk rfl (J1 (cs := rdc r) J1c rfl J1f rfl rfl (ar_rd b3)) fun v68 w68 hh => ?_
 obtain ⟨rfl, rfl⟩ := hh
 try simp only [PutS]
 obtain ⟨⟨Mk, ct⟩, hx⟩ : ∃ x, x = takeM m r := ⟨_, rfl⟩
 have HXMk := Lib.hid hx
 have hMk : (Mk).seed.length = 32 := by have := Jae m r; rw [← hx] at this; rw [this]; exact hms
 have HDMk := Lib.hid (show DgOk (Mk).seed by have := Jae m r; rw [← hx] at this; rw [this]; exact HSD.out)
 clear hx
 refine wpSk rfl (Jm J1t ((gTakeM m HNN.out HN5.out HCN.out r hr (.slice A66 m.eps.length c66) ⟨w68, S⟩ w68 (Bse.ok_self _) (HL.out.keep hB) (HS.out.keep hB) (HD.out.keep hB) e66).mono (J1v HXMk.out.symm)) rfl rfl) fun v69 w69 hh => ?_
 obtain ⟨vE1, rfl, E1, B1⟩ := hh
 try simp only [PutS]
 clear b66 e66
 replace E1 := eps_to E1 (S := S) fun g hg _ => HSS.out g (Nat.le_trans hNs hg)
 obtain ⟨A1, c1, rfl⟩ := E1.len
 replace HF := Lib.hid (MBs.keep HF.out B1)
 replace b2 := b2.keep B1
 replace b3 := b3.keep B1
 replace hB := hB.trans ((B1).mono hB.size)
 replace hNs := Nat.le_trans hNs (B1).size
 try replace Hvl1 := Lib.hid (RdA.keep Hvl1.out B1)
 try replace Hvl2 := Lib.hid (RdA.keep Hvl2.out B1)
 try replace HB29 := Lib.hid (HB29.out.keep B1)
 clear B1 k0 k1 k2 k3 l3
 refine wpList_plain rfl fun K hK => ?_; go_big_op; refine hK _ _ ?_; clear hK K
 refine wpSk rfl (Jh (v := mtV Mk (.slice A1 (Mk).eps.length c1)) rfl rfl rfl) fun v70 w70 hh => ?_
 obtain ⟨rfl, rfl⟩ := hh
 try simp only [PutS]
 refine wpSk rfl (Jh (v := .int .i64 ct) rfl rfl rfl) fun v71 w71 hh => ?_
 obtain ⟨rfl, rfl⟩ := hh
 try simp only [PutS]
 refine wpSk rfl (Jl hiM iM0 rfl) fun vz wz hh => ?_
 obtain ⟨rfl, rfl⟩ := hh
 try simp only [PutS]
 have bz : Blk (w71.alloc (.cells (Value.agg (mtc ⟨0, List.replicate 32 0, []⟩ (.slice none 0 0)).toArray).cells 35)) w71.heap.size 35 (mtc ⟨0, List.replicate 32 0, []⟩ (.slice none 0 0)).toArray := World.alloc_heap_new w71 _
 have Bz := (Below.refl _ w71).alloc (Nat.le_refl _) (.cells (Value.agg (mtc ⟨0, List.replicate 32 0, []⟩ (.slice none 0 0)).toArray).cells 35)
 generalize w71.alloc (.cells (Value.agg (mtc ⟨0, List.replicate 32 0, []⟩ (.slice none 0 0)).toArray).cells 35) = wz at *
 refine J6 rfl 35 (.tmp 15) (.tmp 70) rfl rfl (cells := mtc Mk (.slice A1 (Mk).eps.length c1)) rfl bz (by rw [List.size_toArray, J0 ⟨0, List.replicate 32 0, []⟩ _ rfl, J0 (Mk) _ hMk]; exact Nat.le_refl _) (by rw [J5, J0 (Mk) _ hMk]) (Ji _ _ rfl) (Ja _ _ (by rw [List.size_toArray, J0 ⟨0, List.replicate 32 0, []⟩ _ rfl, J0 (Mk) _ hMk])) fun X hX bX => ?_
 have BX : Below w71.heap.size w71 X := J2 Bz hX (Nat.le_refl _)
 obtain ⟨g15, hg⟩ : ∃ g, g = w71.heap.size := ⟨_, rfl⟩
 rw [← hg] at bX ⊢
 have hgX : g15 < X.heap.size := bX.lt
 replace HF := Lib.hid (MBs.keep HF.out BX)
 replace b2 := b2.keep BX
 replace b3 := b3.keep BX
 replace hB := hB.trans ((BX).mono hB.size)
 replace hNs := Nat.le_trans hNs (BX).size
 try replace Hvl1 := Lib.hid (RdA.keep Hvl1.out BX)
 try replace Hvl2 := Lib.hid (RdA.keep Hvl2.out BX)
 try replace HB29 := Lib.hid (HB29.out.keep BX)
 replace HF := Lib.hid (MBs.cons (x := (g15, Mk)) HF.out ⟨A1, c1, bX, E1.fwd BX⟩)
 clear bz Bz hX BX hg bX E1 hgX
 try simp only [PutS]
 go_upto_region 8 with (fail)
 refine wp_region_lit ?_
 obtain ⟨A73, c73, b73, e73⟩ := MBs.get HF.out (k := 5) rfl
 refine wpSk rfl (J1 (cs := mtc m (.slice A73 m.eps.length c73)) J9 rfl (by rw [J5, J0 m _ hms]) rfl rfl (J4 b73)) fun v73 w73 hh => ?_
 obtain ⟨rfl, rfl⟩ := hh
 try simp only [PutS]
 have k0 : w73.cell? ⟨g1 + 1, 0, none⟩ = some (.int .i64 lg) := (b3.cell 0).trans rfl
 have k1 : w73.cell? ⟨g1 + 1, 1, none⟩ = some (.int .i64 pt) := (b3.cell 1).trans rfl
 have k2 : w73.cell? ⟨g1 + 1, 2, none⟩ = some (.int .i64 ix) := (b3.cell 2).trans rfl
 have k3 : w73.cell? ⟨g1 + 1, 3, none⟩ = some (.int .i64 ep) := (b3.cell 3).trans rfl
 have l3 := b3.lt
 refine wpList_plain rfl fun K hK => ?_; go_big_op; refine hK _ _ ?_; clear hK K
 refine wpSk rfl (J1 (cs := rdc r) J1c rfl J1f rfl rfl (ar_rd b3)) fun v75 w75 hh => ?_
 obtain ⟨rfl, rfl⟩ := hh
 try simp only [PutS]
 refine wpSk rfl (Jm J2j ((rTake26 m HNN.out HN5.out HCN.out r hr (.slice A73 m.eps.length c73) ⟨w75, S⟩ w75 (Bse.ok_self _) e73).mono (J1v HXMk.out.symm)) rfl rfl) fun v76 w76 hh => ?_
 obtain ⟨vE1, rfl, E1, B1⟩ := hh
 try simp only [PutS]
 clear b73 e73
 replace E1 := eps_to E1 (S := S) fun g hg _ => HSS.out g (Nat.le_trans hNs hg)
 obtain ⟨A1, c1, rfl⟩ := E1.len
 replace HF := Lib.hid (MBs.keep HF.out B1)
 replace b2 := b2.keep B1
 replace b3 := b3.keep B1
 replace hB := hB.trans ((B1).mono hB.size)
 replace hNs := Nat.le_trans hNs (B1).size
 try replace Hvl1 := Lib.hid (RdA.keep Hvl1.out B1)
 try replace Hvl2 := Lib.hid (RdA.keep Hvl2.out B1)
 try replace HB29 := Lib.hid (HB29.out.keep B1)
 clear B1 k0 k1 k2 k3 l3
 refine wpList_plain rfl fun K hK => ?_; go_big_op; refine hK _ _ ?_; clear hK K
 refine wpSk rfl (Jh (v := mtV Mk (.slice A1 (Mk).eps.length c1)) rfl rfl rfl) fun v77 w77 hh => ?_
 obtain ⟨rfl, rfl⟩ := hh
 try simp only [PutS]
 refine wpSk rfl (Jh (v := .int .i64 ct) rfl rfl rfl) fun v78 w78 hh => ?_
 obtain ⟨rfl, rfl⟩ := hh
 try simp only [PutS]
 refine wpSk rfl (Jl hiM iM0 rfl) fun vz wz hh => ?_
 obtain ⟨rfl, rfl⟩ := hh
 try simp only [PutS]
 have bz : Blk (w78.alloc (.cells (Value.agg (mtc ⟨0, List.replicate 32 0, []⟩ (.slice none 0 0)).toArray).cells 35)) w78.heap.size 35 (mtc ⟨0, List.replicate 32 0, []⟩ (.slice none 0 0)).toArray := World.alloc_heap_new w78 _
 have Bz := (Below.refl _ w78).alloc (Nat.le_refl _) (.cells (Value.agg (mtc ⟨0, List.replicate 32 0, []⟩ (.slice none 0 0)).toArray).cells 35)
 generalize w78.alloc (.cells (Value.agg (mtc ⟨0, List.replicate 32 0, []⟩ (.slice none 0 0)).toArray).cells 35) = wz at *
 refine J6 rfl 35 (.tmp 17) (.tmp 77) rfl rfl (cells := mtc Mk (.slice A1 (Mk).eps.length c1)) rfl bz (by rw [List.size_toArray, J0 ⟨0, List.replicate 32 0, []⟩ _ rfl, J0 (Mk) _ hMk]; exact Nat.le_refl _) (by rw [J5, J0 (Mk) _ hMk]) (Ji _ _ rfl) (Ja _ _ (by rw [List.size_toArray, J0 ⟨0, List.replicate 32 0, []⟩ _ rfl, J0 (Mk) _ hMk])) fun X hX bX => ?_
 have BX : Below w78.heap.size w78 X := J2 Bz hX (Nat.le_refl _)
 obtain ⟨g17, hg⟩ : ∃ g, g = w78.heap.size := ⟨_, rfl⟩
 rw [← hg] at bX ⊢
 have hgX : g17 < X.heap.size := bX.lt
 replace HF := Lib.hid (MBs.keep HF.out BX)
 replace b2 := b2.keep BX
 replace b3 := b3.keep BX
 replace hB := hB.trans ((BX).mono hB.size)
 replace hNs := Nat.le_trans hNs (BX).size
 try replace Hvl1 := Lib.hid (RdA.keep Hvl1.out BX)
 try replace Hvl2 := Lib.hid (RdA.keep Hvl2.out BX)
 try replace HB29 := Lib.hid (HB29.out.keep BX)
 replace HF := Lib.hid (MBs.cons (x := (g17, Mk)) HF.out ⟨A1, c1, bX, E1.fwd BX⟩)
 clear bz Bz hX BX hg bX E1 hgX
 try simp only [PutS]
 go_upto_region 9 with (fail)
 refine wp_region_lit ?_
 obtain ⟨A80, c80, b80, e80⟩ := MBs.get HF.out (k := 6) rfl
 refine wpSk rfl (J1 (cs := mtc m (.slice A80 m.eps.length c80)) J9 rfl (by rw [J5, J0 m _ hms]) rfl rfl (J4 b80)) fun v80 w80 hh => ?_
 obtain ⟨rfl, rfl⟩ := hh
 try simp only [PutS]
 have k0 : w80.cell? ⟨g1 + 1, 0, none⟩ = some (.int .i64 lg) := (b3.cell 0).trans rfl
 have k1 : w80.cell? ⟨g1 + 1, 1, none⟩ = some (.int .i64 pt) := (b3.cell 1).trans rfl
 have k2 : w80.cell? ⟨g1 + 1, 2, none⟩ = some (.int .i64 ix) := (b3.cell 2).trans rfl
 have k3 : w80.cell? ⟨g1 + 1, 3, none⟩ = some (.int .i64 ep) := (b3.cell 3).trans rfl
 have l3 := b3.lt
 iterate 3 (refine wpList_plain rfl fun K hK => ?_; go_big_op; refine hK _ _ ?_; clear hK K)
 refine wpSk rfl (J1 (cs := rdc r) J1c rfl J1f rfl rfl (ar_rd b3)) fun v84 w84 hh => ?_
 obtain ⟨rfl, rfl⟩ := hh
 try simp only [PutS]
 obtain ⟨⟨Mr, cr⟩, hx⟩ : ∃ x, x = retractM m ix r := ⟨_, rfl⟩
 have HXMr := Lib.hid hx
 have hMr : (Mr).seed.length = 32 := by have := J88 m ix r; rw [← hx] at this; rw [this]; exact hms
 have HDMr := Lib.hid (show DgOk (Mr).seed by have := J88 m ix r; rw [← hx] at this; rw [this]; exact HSD.out)
 clear hx
 refine wpSk rfl (Jm J33 ((gRetractM m HNN.out HN5.out ix hix r hr (.slice A80 m.eps.length c80) ⟨w84, S⟩ w84 (Bse.ok_self _) (HL.out.keep hB) e80).mono (J1v HXMr.out.symm)) rfl rfl) fun v85 w85 hh => ?_
 obtain ⟨vE1, rfl, E1, B1⟩ := hh
 try simp only [PutS]
 clear b80 e80
 replace E1 := eps_to E1 (S := S) fun g hg _ => HSS.out g (Nat.le_trans hNs hg)
 obtain ⟨A1, c1, rfl⟩ := E1.len
 replace HF := Lib.hid (MBs.keep HF.out B1)
 replace b2 := b2.keep B1
 replace b3 := b3.keep B1
 replace hB := hB.trans ((B1).mono hB.size)
 replace hNs := Nat.le_trans hNs (B1).size
 try replace Hvl1 := Lib.hid (RdA.keep Hvl1.out B1)
 try replace Hvl2 := Lib.hid (RdA.keep Hvl2.out B1)
 try replace HB29 := Lib.hid (HB29.out.keep B1)
 clear B1 k0 k1 k2 k3 l3
 refine wpList_plain rfl fun K hK => ?_; go_big_op; refine hK _ _ ?_; clear hK K
 refine wpSk rfl (Jh (v := mtV Mr (.slice A1 (Mr).eps.length c1)) rfl rfl rfl) fun v86 w86 hh => ?_
 obtain ⟨rfl, rfl⟩ := hh
 try simp only [PutS]
 refine wpSk rfl (Jh (v := .int .i64 cr) rfl rfl rfl) fun v87 w87 hh => ?_
 obtain ⟨rfl, rfl⟩ := hh
 try simp only [PutS]
 refine wpSk rfl (Jl hiM iM0 rfl) fun vz wz hh => ?_
 obtain ⟨rfl, rfl⟩ := hh
 try simp only [PutS]
 have bz : Blk (w87.alloc (.cells (Value.agg (mtc ⟨0, List.replicate 32 0, []⟩ (.slice none 0 0)).toArray).cells 35)) w87.heap.size 35 (mtc ⟨0, List.replicate 32 0, []⟩ (.slice none 0 0)).toArray := World.alloc_heap_new w87 _
 have Bz := (Below.refl _ w87).alloc (Nat.le_refl _) (.cells (Value.agg (mtc ⟨0, List.replicate 32 0, []⟩ (.slice none 0 0)).toArray).cells 35)
 generalize w87.alloc (.cells (Value.agg (mtc ⟨0, List.replicate 32 0, []⟩ (.slice none 0 0)).toArray).cells 35) = wz at *
 refine J6 rfl 35 (.tmp 19) (.tmp 86) rfl rfl (cells := mtc Mr (.slice A1 (Mr).eps.length c1)) rfl bz (by rw [List.size_toArray, J0 ⟨0, List.replicate 32 0, []⟩ _ rfl, J0 (Mr) _ hMr]; exact Nat.le_refl _) (by rw [J5, J0 (Mr) _ hMr]) (Ji _ _ rfl) (Ja _ _ (by rw [List.size_toArray, J0 ⟨0, List.replicate 32 0, []⟩ _ rfl, J0 (Mr) _ hMr])) fun X hX bX => ?_
 have BX : Below w87.heap.size w87 X := J2 Bz hX (Nat.le_refl _)
 obtain ⟨g19, hg⟩ : ∃ g, g = w87.heap.size := ⟨_, rfl⟩
 rw [← hg] at bX ⊢
 have hgX : g19 < X.heap.size := bX.lt
 replace HF := Lib.hid (MBs.keep HF.out BX)
 replace b2 := b2.keep BX
 replace b3 := b3.keep BX
 replace hB := hB.trans ((BX).mono hB.size)
 replace hNs := Nat.le_trans hNs (BX).size
 try replace Hvl1 := Lib.hid (RdA.keep Hvl1.out BX)
 try replace Hvl2 := Lib.hid (RdA.keep Hvl2.out BX)
 try replace HB29 := Lib.hid (HB29.out.keep BX)
 replace HF := Lib.hid (MBs.cons (x := (g19, Mr)) HF.out ⟨A1, c1, bX, E1.fwd BX⟩)
 clear bz Bz hX BX hg bX E1 hgX
 try simp only [PutS]
 go_upto_region 10 with (fail)
 refine wp_region_lit ?_
 obtain ⟨A89, c89, b89, e89⟩ := MBs.get HF.out (k := 7) rfl
 refine wpSk rfl (J1 (cs := mtc m (.slice A89 m.eps.length c89)) J9 rfl (by rw [J5, J0 m _ hms]) rfl rfl (J4 b89)) fun v89 w89 hh => ?_
 obtain ⟨rfl, rfl⟩ := hh
 try simp only [PutS]
 have k0 : w89.cell? ⟨g1 + 1, 0, none⟩ = some (.int .i64 lg) := (b3.cell 0).trans rfl
 have k1 : w89.cell? ⟨g1 + 1, 1, none⟩ = some (.int .i64 pt) := (b3.cell 1).trans rfl
 have k2 : w89.cell? ⟨g1 + 1, 2, none⟩ = some (.int .i64 ix) := (b3.cell 2).trans rfl
 have k3 : w89.cell? ⟨g1 + 1, 3, none⟩ = some (.int .i64 ep) := (b3.cell 3).trans rfl
 have l3 := b3.lt
 iterate 3 (refine wpList_plain rfl fun K hK => ?_; go_big_op; refine hK _ _ ?_; clear hK K)
 refine wpSk rfl (J1 (cs := rdc r) J1c rfl J1f rfl rfl (ar_rd b3)) fun v93 w93 hh => ?_
 obtain ⟨rfl, rfl⟩ := hh
 try simp only [PutS]
 refine wpSk rfl (Jm J2a ((rRetr26 m HNN.out HN5.out ix hix r hr (.slice A89 m.eps.length c89) ⟨w93, S⟩ w93 (Bse.ok_self _) e89).mono (J1v HXMr.out.symm)) rfl rfl) fun v94 w94 hh => ?_
 obtain ⟨vE1, rfl, E1, B1⟩ := hh
 try simp only [PutS]
 clear b89 e89
 replace E1 := eps_to E1 (S := S) fun g hg _ => HSS.out g (Nat.le_trans hNs hg)
 obtain ⟨A1, c1, rfl⟩ := E1.len
 replace HF := Lib.hid (MBs.keep HF.out B1)
 replace b2 := b2.keep B1
 replace b3 := b3.keep B1
 replace hB := hB.trans ((B1).mono hB.size)
 replace hNs := Nat.le_trans hNs (B1).size
 try replace Hvl1 := Lib.hid (RdA.keep Hvl1.out B1)
 try replace Hvl2 := Lib.hid (RdA.keep Hvl2.out B1)
 try replace HB29 := Lib.hid (HB29.out.keep B1)
 clear B1 k0 k1 k2 k3 l3
 refine wpList_plain rfl fun K hK => ?_; go_big_op; refine hK _ _ ?_; clear hK K
 refine wpSk rfl (Jh (v := mtV Mr (.slice A1 (Mr).eps.length c1)) rfl rfl rfl) fun v95 w95 hh => ?_
 obtain ⟨rfl, rfl⟩ := hh
 try simp only [PutS]
 refine wpSk rfl (Jh (v := .int .i64 cr) rfl rfl rfl) fun v96 w96 hh => ?_
 obtain ⟨rfl, rfl⟩ := hh
 try simp only [PutS]
 refine wpSk rfl (Jl hiM iM0 rfl) fun vz wz hh => ?_
 obtain ⟨rfl, rfl⟩ := hh
 try simp only [PutS]
 have bz : Blk (w96.alloc (.cells (Value.agg (mtc ⟨0, List.replicate 32 0, []⟩ (.slice none 0 0)).toArray).cells 35)) w96.heap.size 35 (mtc ⟨0, List.replicate 32 0, []⟩ (.slice none 0 0)).toArray := World.alloc_heap_new w96 _
 have Bz := (Below.refl _ w96).alloc (Nat.le_refl _) (.cells (Value.agg (mtc ⟨0, List.replicate 32 0, []⟩ (.slice none 0 0)).toArray).cells 35)
 generalize w96.alloc (.cells (Value.agg (mtc ⟨0, List.replicate 32 0, []⟩ (.slice none 0 0)).toArray).cells 35) = wz at *
 refine J6 rfl 35 (.tmp 21) (.tmp 95) rfl rfl (cells := mtc Mr (.slice A1 (Mr).eps.length c1)) rfl bz (by rw [List.size_toArray, J0 ⟨0, List.replicate 32 0, []⟩ _ rfl, J0 (Mr) _ hMr]; exact Nat.le_refl _) (by rw [J5, J0 (Mr) _ hMr]) (Ji _ _ rfl) (Ja _ _ (by rw [List.size_toArray, J0 ⟨0, List.replicate 32 0, []⟩ _ rfl, J0 (Mr) _ hMr])) fun X hX bX => ?_
 have BX : Below w96.heap.size w96 X := J2 Bz hX (Nat.le_refl _)
 obtain ⟨g21, hg⟩ : ∃ g, g = w96.heap.size := ⟨_, rfl⟩
 rw [← hg] at bX ⊢
 have hgX : g21 < X.heap.size := bX.lt
 replace HF := Lib.hid (MBs.keep HF.out BX)
 replace b2 := b2.keep BX
 replace b3 := b3.keep BX
 replace hB := hB.trans ((BX).mono hB.size)
 replace hNs := Nat.le_trans hNs (BX).size
 try replace Hvl1 := Lib.hid (RdA.keep Hvl1.out BX)
 try replace Hvl2 := Lib.hid (RdA.keep Hvl2.out BX)
 try replace HB29 := Lib.hid (HB29.out.keep BX)
 replace HF := Lib.hid (MBs.cons (x := (g21, Mr)) HF.out ⟨A1, c1, bX, E1.fwd BX⟩)
 clear bz Bz hX BX hg bX E1 hgX
 try simp only [PutS]
 go_upto_region 11 with (fail)
 refine wp_region_lit ?_
 obtain ⟨A98, c98, b98, e98⟩ := MBs.get HF.out (k := 8) rfl
 refine wpSk rfl (J1 (cs := mtc m (.slice A98 m.eps.length c98)) J9 rfl (by rw [J5, J0 m _ hms]) rfl rfl (J4 b98)) fun v98 w98 hh => ?_
 obtain ⟨rfl, rfl⟩ := hh
 try simp only [PutS]
 have k0 : w98.cell? ⟨g1 + 1, 0, none⟩ = some (.int .i64 lg) := (b3.cell 0).trans rfl
 have k1 : w98.cell? ⟨g1 + 1, 1, none⟩ = some (.int .i64 pt) := (b3.cell 1).trans rfl
 have k2 : w98.cell? ⟨g1 + 1, 2, none⟩ = some (.int .i64 ix) := (b3.cell 2).trans rfl
 have k3 : w98.cell? ⟨g1 + 1, 3, none⟩ = some (.int .i64 ep) := (b3.cell 3).trans rfl
 have l3 := b3.lt
 iterate 2 (refine wpList_plain rfl fun K hK => ?_; go_big_op; refine hK _ _ ?_; clear hK K)
 obtain ⟨⟨Ms, ls, cs⟩, hx⟩ : ∃ x, x = spendM m ep := ⟨_, rfl⟩
 have HXMs := Lib.hid hx
 have hMs : (Ms).seed.length = 32 := by have := J9q m ep; rw [← hx] at this; rw [this]; exact hms
 have HDMs := Lib.hid (show DgOk (Ms).seed by have := J9q m ep; rw [← hx] at this; rw [this]; exact HSD.out)
 clear hx
 refine wpSk rfl (Jm J23 ((gSpendM m HNN.out ep hep (.slice A98 m.eps.length c98) ⟨w98, S⟩ w98 (Bse.ok_self _) e98).mono (J71 HXMs.out.symm)) rfl rfl) fun v101 w101 hh => ?_
 obtain ⟨vE1, vl1, rfl, E1, R1, B1⟩ := hh
 try simp only [PutS]
 clear b98 e98
 replace E1 := eps_to E1 (S := S) fun g hg _ => HSS.out g (Nat.le_trans hNs hg)
 obtain ⟨A1, c1, rfl⟩ := E1.len
 replace HF := Lib.hid (MBs.keep HF.out B1)
 replace b2 := b2.keep B1
 replace b3 := b3.keep B1
 replace hB := hB.trans ((B1).mono hB.size)
 replace hNs := Nat.le_trans hNs (B1).size
 try replace Hvl1 := Lib.hid (RdA.keep Hvl1.out B1)
 try replace Hvl2 := Lib.hid (RdA.keep Hvl2.out B1)
 try replace HB29 := Lib.hid (HB29.out.keep B1)
 clear B1 k0 k1 k2 k3 l3
 refine wpList_plain rfl fun K hK => ?_; go_big_op; refine hK _ _ ?_; clear hK K
 refine wpSk rfl (Jh (v := mtV Ms (.slice A1 (Ms).eps.length c1)) rfl rfl rfl) fun v102 w102 hh => ?_
 obtain ⟨rfl, rfl⟩ := hh
 try simp only [PutS]
 refine wpSk rfl (Jh (v := vl1) rfl rfl rfl) fun v103 w103 hh => ?_
 obtain ⟨rfl, rfl⟩ := hh
 try simp only [PutS]
 refine wpSk rfl (Jh (v := .int .i64 cs) rfl rfl rfl) fun v104 w104 hh => ?_
 obtain ⟨rfl, rfl⟩ := hh
 try simp only [PutS]
 have Hvl1 := Lib.hid R1
 clear R1
 refine wpSk rfl (Jl hiM iM0 rfl) fun vz wz hh => ?_
 obtain ⟨rfl, rfl⟩ := hh
 try simp only [PutS]
 have bz : Blk (w104.alloc (.cells (Value.agg (mtc ⟨0, List.replicate 32 0, []⟩ (.slice none 0 0)).toArray).cells 35)) w104.heap.size 35 (mtc ⟨0, List.replicate 32 0, []⟩ (.slice none 0 0)).toArray := World.alloc_heap_new w104 _
 have Bz := (Below.refl _ w104).alloc (Nat.le_refl _) (.cells (Value.agg (mtc ⟨0, List.replicate 32 0, []⟩ (.slice none 0 0)).toArray).cells 35)
 generalize w104.alloc (.cells (Value.agg (mtc ⟨0, List.replicate 32 0, []⟩ (.slice none 0 0)).toArray).cells 35) = wz at *
 refine J6 rfl 35 (.tmp 23) (.tmp 102) rfl rfl (cells := mtc Ms (.slice A1 (Ms).eps.length c1)) rfl bz (by rw [List.size_toArray, J0 ⟨0, List.replicate 32 0, []⟩ _ rfl, J0 (Ms) _ hMs]; exact Nat.le_refl _) (by rw [J5, J0 (Ms) _ hMs]) (Ji _ _ rfl) (Ja _ _ (by rw [List.size_toArray, J0 ⟨0, List.replicate 32 0, []⟩ _ rfl, J0 (Ms) _ hMs])) fun X hX bX => ?_
 have BX : Below w104.heap.size w104 X := J2 Bz hX (Nat.le_refl _)
 obtain ⟨g23, hg⟩ : ∃ g, g = w104.heap.size := ⟨_, rfl⟩
 rw [← hg] at bX ⊢
 have hgX : g23 < X.heap.size := bX.lt
 replace HF := Lib.hid (MBs.keep HF.out BX)
 replace b2 := b2.keep BX
 replace b3 := b3.keep BX
 replace hB := hB.trans ((BX).mono hB.size)
 replace hNs := Nat.le_trans hNs (BX).size
 try replace Hvl1 := Lib.hid (RdA.keep Hvl1.out BX)
 try replace Hvl2 := Lib.hid (RdA.keep Hvl2.out BX)
 try replace HB29 := Lib.hid (HB29.out.keep BX)
 replace HF := Lib.hid (MBs.cons (x := (g23, Ms)) HF.out ⟨A1, c1, bX, E1.fwd BX⟩)
 clear bz Bz hX BX hg bX E1 hgX
 try simp only [PutS]
 go_upto_region 12 with (fail)
 refine wp_region_lit ?_
 obtain ⟨A106, c106, b106, e106⟩ := MBs.get HF.out (k := 9) rfl
 refine wpSk rfl (J1 (cs := mtc m (.slice A106 m.eps.length c106)) J9 rfl (by rw [J5, J0 m _ hms]) rfl rfl (J4 b106)) fun v106 w106 hh => ?_
 obtain ⟨rfl, rfl⟩ := hh
 try simp only [PutS]
 have k0 : w106.cell? ⟨g1 + 1, 0, none⟩ = some (.int .i64 lg) := (b3.cell 0).trans rfl
 have k1 : w106.cell? ⟨g1 + 1, 1, none⟩ = some (.int .i64 pt) := (b3.cell 1).trans rfl
 have k2 : w106.cell? ⟨g1 + 1, 2, none⟩ = some (.int .i64 ix) := (b3.cell 2).trans rfl
 have k3 : w106.cell? ⟨g1 + 1, 3, none⟩ = some (.int .i64 ep) := (b3.cell 3).trans rfl
 have l3 := b3.lt
 iterate 2 (refine wpList_plain rfl fun K hK => ?_; go_big_op; refine hK _ _ ?_; clear hK K)
 refine wpSk rfl (Jm J3i ((rSpend26 m HNN.out ep hep (.slice A106 m.eps.length c106) ⟨w106, S⟩ w106 (Bse.ok_self _) e106).mono (J71 HXMs.out.symm)) rfl rfl) fun v109 w109 hh => ?_
 obtain ⟨vE1, vl2, rfl, E1, R1, B1⟩ := hh
 try simp only [PutS]
 clear b106 e106
 replace E1 := eps_to E1 (S := S) fun g hg _ => HSS.out g (Nat.le_trans hNs hg)
 obtain ⟨A1, c1, rfl⟩ := E1.len
 replace HF := Lib.hid (MBs.keep HF.out B1)
 replace b2 := b2.keep B1
 replace b3 := b3.keep B1
 replace hB := hB.trans ((B1).mono hB.size)
 replace hNs := Nat.le_trans hNs (B1).size
 try replace Hvl1 := Lib.hid (RdA.keep Hvl1.out B1)
 try replace Hvl2 := Lib.hid (RdA.keep Hvl2.out B1)
 try replace HB29 := Lib.hid (HB29.out.keep B1)
 clear B1 k0 k1 k2 k3 l3
 refine wpList_plain rfl fun K hK => ?_; go_big_op; refine hK _ _ ?_; clear hK K
 refine wpSk rfl (Jh (v := mtV Ms (.slice A1 (Ms).eps.length c1)) rfl rfl rfl) fun v110 w110 hh => ?_
 obtain ⟨rfl, rfl⟩ := hh
 try simp only [PutS]
 refine wpSk rfl (Jh (v := vl2) rfl rfl rfl) fun v111 w111 hh => ?_
 obtain ⟨rfl, rfl⟩ := hh
 try simp only [PutS]
 refine wpSk rfl (Jh (v := .int .i64 cs) rfl rfl rfl) fun v112 w112 hh => ?_
 obtain ⟨rfl, rfl⟩ := hh
 try simp only [PutS]
 have Hvl2 := Lib.hid R1
 clear R1
 refine wpSk rfl (Jl hiM iM0 rfl) fun vz wz hh => ?_
 obtain ⟨rfl, rfl⟩ := hh
 try simp only [PutS]
 have bz : Blk (w112.alloc (.cells (Value.agg (mtc ⟨0, List.replicate 32 0, []⟩ (.slice none 0 0)).toArray).cells 35)) w112.heap.size 35 (mtc ⟨0, List.replicate 32 0, []⟩ (.slice none 0 0)).toArray := World.alloc_heap_new w112 _
 have Bz := (Below.refl _ w112).alloc (Nat.le_refl _) (.cells (Value.agg (mtc ⟨0, List.replicate 32 0, []⟩ (.slice none 0 0)).toArray).cells 35)
 generalize w112.alloc (.cells (Value.agg (mtc ⟨0, List.replicate 32 0, []⟩ (.slice none 0 0)).toArray).cells 35) = wz at *
 refine J6 rfl 35 (.tmp 26) (.tmp 110) rfl rfl (cells := mtc Ms (.slice A1 (Ms).eps.length c1)) rfl bz (by rw [List.size_toArray, J0 ⟨0, List.replicate 32 0, []⟩ _ rfl, J0 (Ms) _ hMs]; exact Nat.le_refl _) (by rw [J5, J0 (Ms) _ hMs]) (Ji _ _ rfl) (Ja _ _ (by rw [List.size_toArray, J0 ⟨0, List.replicate 32 0, []⟩ _ rfl, J0 (Ms) _ hMs])) fun X hX bX => ?_
 have BX : Below w112.heap.size w112 X := J2 Bz hX (Nat.le_refl _)
 obtain ⟨g26, hg⟩ : ∃ g, g = w112.heap.size := ⟨_, rfl⟩
 rw [← hg] at bX ⊢
 have hgX : g26 < X.heap.size := bX.lt
 replace HF := Lib.hid (MBs.keep HF.out BX)
 replace b2 := b2.keep BX
 replace b3 := b3.keep BX
 replace hB := hB.trans ((BX).mono hB.size)
 replace hNs := Nat.le_trans hNs (BX).size
 try replace Hvl1 := Lib.hid (RdA.keep Hvl1.out BX)
 try replace Hvl2 := Lib.hid (RdA.keep Hvl2.out BX)
 try replace HB29 := Lib.hid (HB29.out.keep BX)
 replace HF := Lib.hid (MBs.cons (x := (g26, Ms)) HF.out ⟨A1, c1, bX, E1.fwd BX⟩)
 clear bz Bz hX BX hg bX E1 hgX
 try simp only [PutS]
 go_upto_region 13 with (fail)
 refine wp_region_lit ?_
 obtain ⟨A113, c113, b113, e113⟩ := MBs.get HF.out (k := 9) rfl
 obtain ⟨A114, c114, b114, e114⟩ := MBs.get HF.out (k := 8) rfl
 refine wpList_step fun K163 hK163 => ?_
 rw [if_pos (by rfl)]
 refine Jn (Jb (fun v113 w113 hh => ?_) (J1 (cs := mtc Mo (.slice A113 (Mo).eps.length c113)) J9 rfl (by rw [J5, J0 _ _ hMo]) rfl rfl (J4 b113)))
 obtain ⟨rfl, rfl⟩ := hh
 refine hK163 _ _ ?_
 clear hK163 K163
 try simp only [PutS]
 refine wpList_step fun K164 hK164 => ?_
 rw [if_pos (by rfl)]
 refine Jn (Jb (fun v114 w114 hh => ?_) (J1 (cs := mtc Mo (.slice A114 (Mo).eps.length c114)) J9 rfl (by rw [J5, J0 _ _ hMo]) rfl rfl (J4 b114)))
 obtain ⟨rfl, rfl⟩ := hh
 refine hK164 _ _ ?_
 clear hK164 K164
 try simp only [PutS]
 refine wpList_step fun K165 hK165 => ?_
 rw [if_pos (by rfl)]
 refine Jn (Jb (fun v115 w115 hh => ?_) (J7 J1d (rSameM Mo HDMo.out (.slice A113 (Mo).eps.length c113) (.slice A114 (Mo).eps.length c114) w114 e113.now e114.now) rfl rfl))
 obtain ⟨rfl, B8⟩ := hh
 refine hK165 _ _ ?_
 clear hK165 K165
 try simp only [PutS]
 clear b113 e113 b114 e114
 replace HF := Lib.hid (MBs.keep HF.out B8)
 replace b2 := b2.keep B8
 replace b3 := b3.keep B8
 replace hB := hB.trans ((B8).mono hB.size)
 replace hNs := Nat.le_trans hNs (B8).size
 try replace Hvl1 := Lib.hid (RdA.keep Hvl1.out B8)
 try replace Hvl2 := Lib.hid (RdA.keep Hvl2.out B8)
 try replace HB29 := Lib.hid (HB29.out.keep B8)
 clear B8
 refine wpList_step fun K167 hK167 => ?_
 rw [if_pos (by rfl)]
 go_big_op
 refine hK167 _ _ ?_
 clear hK167 K167
 try simp only [PutS]
 refine wpList_step fun K168 hK168 => ?_
 rw [if_pos (by rfl)]
 go_big_op
 refine hK168 _ _ ?_
 clear hK168 K168
 try simp only [PutS]
 refine wpList_step fun K169 hK169 => ?_
 rw [if_pos (by rfl)]
 go_big_op
 refine hK169 _ _ ?_
 clear hK169 K169
 try simp only [PutS]
 refine wpList_step fun K170 hK170 => ?_
 rw [if_pos (by rfl)]
 go_big_op
 refine hK170 _ _ ?_
 clear hK170 K170
 try simp only [PutS]
 refine wpList_step fun K171 hK171 => ?_
 rw [if_pos (by rfl)]
 go_big_op
 refine hK171 _ _ ?_
 clear hK171 K171
 try simp only [PutS]
 refine wpList_step fun K172 hK172 => ?_
 rw [if_pos (by rfl)]
 go_big_op
 refine hK172 _ _ ?_
 clear hK172 K172
 try simp only [PutS]
 refine wpList_step fun K173 hK173 => ?_
 rw [if_pos (by rfl)]
 go_big_op
 refine hK173 _ _ ?_
 clear hK173 K173
 try simp only [PutS]
 obtain ⟨A123, c123, b123, e123⟩ := MBs.get HF.out (k := 7) rfl
 obtain ⟨A124, c124, b124, e124⟩ := MBs.get HF.out (k := 6) rfl
 refine wpList_step fun K175 hK175 => ?_
 rw [if_pos (by rfl)]
 refine Jn (Jb (fun v123 w123 hh => ?_) (J1 (cs := mtc Mc (.slice A123 (Mc).eps.length c123)) J9 rfl (by rw [J5, J0 _ _ hMc]) rfl rfl (J4 b123)))
 obtain ⟨rfl, rfl⟩ := hh
 refine hK175 _ _ ?_
 clear hK175 K175
 try simp only [PutS]
 refine wpList_step fun K176 hK176 => ?_
 rw [if_pos (by rfl)]
 refine Jn (Jb (fun v124 w124 hh => ?_) (J1 (cs := mtc Mc (.slice A124 (Mc).eps.length c124)) J9 rfl (by rw [J5, J0 _ _ hMc]) rfl rfl (J4 b124)))
 obtain ⟨rfl, rfl⟩ := hh
 refine hK176 _ _ ?_
 clear hK176 K176
 try simp only [PutS]
 refine wpList_step fun K177 hK177 => ?_
 rw [if_pos (by rfl)]
 refine Jn (Jb (fun v125 w125 hh => ?_) (J7 J1d (rSameM Mc HDMc.out (.slice A123 (Mc).eps.length c123) (.slice A124 (Mc).eps.length c124) w124 e123.now e124.now) rfl rfl))
 obtain ⟨rfl, B8⟩ := hh
 refine hK177 _ _ ?_
 clear hK177 K177
 try simp only [PutS]
 clear b123 e123 b124 e124
 replace HF := Lib.hid (MBs.keep HF.out B8)
 replace b2 := b2.keep B8
 replace b3 := b3.keep B8
 replace hB := hB.trans ((B8).mono hB.size)
 replace hNs := Nat.le_trans hNs (B8).size
 try replace Hvl1 := Lib.hid (RdA.keep Hvl1.out B8)
 try replace Hvl2 := Lib.hid (RdA.keep Hvl2.out B8)
 try replace HB29 := Lib.hid (HB29.out.keep B8)
 clear B8
 refine wpList_step fun K179 hK179 => ?_
 rw [if_pos (by rfl)]
 go_big_op
 refine hK179 _ _ ?_
 clear hK179 K179
 try simp only [PutS]
 refine wpList_step fun K180 hK180 => ?_
 rw [if_pos (by rfl)]
 go_big_op
 refine hK180 _ _ ?_
 clear hK180 K180
 try simp only [PutS]
 refine wpList_step fun K181 hK181 => ?_
 rw [if_pos (by rfl)]
 go_big_op
 refine hK181 _ _ ?_
 clear hK181 K181
 try simp only [PutS]
 refine wpList_step fun K182 hK182 => ?_
 rw [if_pos (by rfl)]
 go_big_op
 refine hK182 _ _ ?_
 clear hK182 K182
 try simp only [PutS]
 refine wpList_step fun K183 hK183 => ?_
 rw [if_pos (by rfl)]
 go_big_op
 refine hK183 _ _ ?_
 clear hK183 K183
 try simp only [PutS]
 refine wpList_step fun K184 hK184 => ?_
 rw [if_pos (by rfl)]
 go_big_op
 refine hK184 _ _ ?_
 clear hK184 K184
 try simp only [PutS]
 refine wpList_step fun K185 hK185 => ?_
 rw [if_pos (by rfl)]
 go_big_op
 refine hK185 _ _ ?_
 clear hK185 K185
 try simp only [PutS]
 refine wpList_step fun K186 hK186 => ?_
 rw [if_pos (by rfl)]
 go_big_op
 refine hK186 _ _ ?_
 clear hK186 K186
 try simp only [PutS]
 obtain ⟨A134, c134, b134, e134⟩ := MBs.get HF.out (k := 5) rfl
 obtain ⟨A135, c135, b135, e135⟩ := MBs.get HF.out (k := 4) rfl
 refine wpList_step fun K188 hK188 => ?_
 rw [if_pos (by rfl)]
 refine Jn (Jb (fun v134 w134 hh => ?_) (J1 (cs := mtc Mk (.slice A134 (Mk).eps.length c134)) J9 rfl (by rw [J5, J0 _ _ hMk]) rfl rfl (J4 b134)))
 obtain ⟨rfl, rfl⟩ := hh
 refine hK188 _ _ ?_
 clear hK188 K188
 try simp only [PutS]
 refine wpList_step fun K189 hK189 => ?_
 rw [if_pos (by rfl)]
 refine Jn (Jb (fun v135 w135 hh => ?_) (J1 (cs := mtc Mk (.slice A135 (Mk).eps.length c135)) J9 rfl (by rw [J5, J0 _ _ hMk]) rfl rfl (J4 b135)))
 obtain ⟨rfl, rfl⟩ := hh
 refine hK189 _ _ ?_
 clear hK189 K189
 try simp only [PutS]
 refine wpList_step fun K190 hK190 => ?_
 rw [if_pos (by rfl)]
 refine Jn (Jb (fun v136 w136 hh => ?_) (J7 J1d (rSameM Mk HDMk.out (.slice A134 (Mk).eps.length c134) (.slice A135 (Mk).eps.length c135) w135 e134.now e135.now) rfl rfl))
 obtain ⟨rfl, B8⟩ := hh
 refine hK190 _ _ ?_
 clear hK190 K190
 try simp only [PutS]
 clear b134 e134 b135 e135
 replace HF := Lib.hid (MBs.keep HF.out B8)
 replace b2 := b2.keep B8
 replace b3 := b3.keep B8
 replace hB := hB.trans ((B8).mono hB.size)
 replace hNs := Nat.le_trans hNs (B8).size
 try replace Hvl1 := Lib.hid (RdA.keep Hvl1.out B8)
 try replace Hvl2 := Lib.hid (RdA.keep Hvl2.out B8)
 try replace HB29 := Lib.hid (HB29.out.keep B8)
 clear B8
 refine wpList_step fun K192 hK192 => ?_
 rw [if_pos (by rfl)]
 go_big_op
 refine hK192 _ _ ?_
 clear hK192 K192
 try simp only [PutS]
 refine wpList_step fun K193 hK193 => ?_
 rw [if_pos (by rfl)]
 go_big_op
 refine hK193 _ _ ?_
 clear hK193 K193
 try simp only [PutS]
 refine wpList_step fun K194 hK194 => ?_
 rw [if_pos (by rfl)]
 go_big_op
 refine hK194 _ _ ?_
 clear hK194 K194
 try simp only [PutS]
 refine wpList_step fun K195 hK195 => ?_
 rw [if_pos (by rfl)]
 go_big_op
 refine hK195 _ _ ?_
 clear hK195 K195
 try simp only [PutS]
 refine wpList_step fun K196 hK196 => ?_
 rw [if_pos (by rfl)]
 go_big_op
 refine hK196 _ _ ?_
 clear hK196 K196
 try simp only [PutS]
 refine wpList_step fun K197 hK197 => ?_
 rw [if_pos (by rfl)]
 go_big_op
 refine hK197 _ _ ?_
 clear hK197 K197
 try simp only [PutS]
 refine wpList_step fun K198 hK198 => ?_
 rw [if_pos (by rfl)]
 go_big_op
 refine hK198 _ _ ?_
 clear hK198 K198
 try simp only [PutS]
 refine wpList_step fun K199 hK199 => ?_
 rw [if_pos (by rfl)]
 go_big_op
 refine hK199 _ _ ?_
 clear hK199 K199
 try simp only [PutS]
 obtain ⟨A145, c145, b145, e145⟩ := MBs.get HF.out (k := 3) rfl
 obtain ⟨A146, c146, b146, e146⟩ := MBs.get HF.out (k := 2) rfl
 refine wpList_step fun K201 hK201 => ?_
 rw [if_pos (by rfl)]
 refine Jn (Jb (fun v145 w145 hh => ?_) (J1 (cs := mtc Mr (.slice A145 (Mr).eps.length c145)) J9 rfl (by rw [J5, J0 _ _ hMr]) rfl rfl (J4 b145)))
 obtain ⟨rfl, rfl⟩ := hh
 refine hK201 _ _ ?_
 clear hK201 K201
 try simp only [PutS]
 refine wpList_step fun K202 hK202 => ?_
 rw [if_pos (by rfl)]
 refine Jn (Jb (fun v146 w146 hh => ?_) (J1 (cs := mtc Mr (.slice A146 (Mr).eps.length c146)) J9 rfl (by rw [J5, J0 _ _ hMr]) rfl rfl (J4 b146)))
 obtain ⟨rfl, rfl⟩ := hh
 refine hK202 _ _ ?_
 clear hK202 K202
 try simp only [PutS]
 refine wpList_step fun K203 hK203 => ?_
 rw [if_pos (by rfl)]
 refine Jn (Jb (fun v147 w147 hh => ?_) (J7 J1d (rSameM Mr HDMr.out (.slice A145 (Mr).eps.length c145) (.slice A146 (Mr).eps.length c146) w146 e145.now e146.now) rfl rfl))
 obtain ⟨rfl, B8⟩ := hh
 refine hK203 _ _ ?_
 clear hK203 K203
 try simp only [PutS]
 clear b145 e145 b146 e146
 replace HF := Lib.hid (MBs.keep HF.out B8)
 replace b2 := b2.keep B8
 replace b3 := b3.keep B8
 replace hB := hB.trans ((B8).mono hB.size)
 replace hNs := Nat.le_trans hNs (B8).size
 try replace Hvl1 := Lib.hid (RdA.keep Hvl1.out B8)
 try replace Hvl2 := Lib.hid (RdA.keep Hvl2.out B8)
 try replace HB29 := Lib.hid (HB29.out.keep B8)
 clear B8
 refine wpList_step fun K205 hK205 => ?_
 rw [if_pos (by rfl)]
 go_big_op
 refine hK205 _ _ ?_
 clear hK205 K205
 try simp only [PutS]
 refine wpList_step fun K206 hK206 => ?_
 rw [if_pos (by rfl)]
 go_big_op
 refine hK206 _ _ ?_
 clear hK206 K206
 try simp only [PutS]
 refine wpList_step fun K207 hK207 => ?_
 rw [if_pos (by rfl)]
 go_big_op
 refine hK207 _ _ ?_
 clear hK207 K207
 try simp only [PutS]
 refine wpList_step fun K208 hK208 => ?_
 rw [if_pos (by rfl)]
 go_big_op
 refine hK208 _ _ ?_
 clear hK208 K208
 try simp only [PutS]
 refine wpList_step fun K209 hK209 => ?_
 rw [if_pos (by rfl)]
 go_big_op
 refine hK209 _ _ ?_
 clear hK209 K209
 try simp only [PutS]
 refine wpList_step fun K210 hK210 => ?_
 rw [if_pos (by rfl)]
 go_big_op
 refine hK210 _ _ ?_
 clear hK210 K210
 try simp only [PutS]
 refine wpList_step fun K211 hK211 => ?_
 rw [if_pos (by rfl)]
 go_big_op
 refine hK211 _ _ ?_
 clear hK211 K211
 try simp only [PutS]
 refine wpList_step fun K212 hK212 => ?_
 rw [if_pos (by rfl)]
 go_big_op
 refine hK212 _ _ ?_
 clear hK212 K212
 try simp only [PutS]
 obtain ⟨A156, c156, b156, e156⟩ := MBs.get HF.out (k := 1) rfl
 obtain ⟨A157, c157, b157, e157⟩ := MBs.get HF.out (k := 0) rfl
 refine wpList_step fun K214 hK214 => ?_
 rw [if_pos (by rfl)]
 refine Jn (Jb (fun v156 w156 hh => ?_) (J1 (cs := mtc Ms (.slice A156 (Ms).eps.length c156)) J9 rfl (by rw [J5, J0 _ _ hMs]) rfl rfl (J4 b156)))
 obtain ⟨rfl, rfl⟩ := hh
 refine hK214 _ _ ?_
 clear hK214 K214
 try simp only [PutS]
 refine wpList_step fun K215 hK215 => ?_
 rw [if_pos (by rfl)]
 refine Jn (Jb (fun v157 w157 hh => ?_) (J1 (cs := mtc Ms (.slice A157 (Ms).eps.length c157)) J9 rfl (by rw [J5, J0 _ _ hMs]) rfl rfl (J4 b157)))
 obtain ⟨rfl, rfl⟩ := hh
 refine hK215 _ _ ?_
 clear hK215 K215
 try simp only [PutS]
 refine wpList_step fun K216 hK216 => ?_
 rw [if_pos (by rfl)]
 refine Jn (Jb (fun v158 w158 hh => ?_) (J7 J1d (rSameM Ms HDMs.out (.slice A156 (Ms).eps.length c156) (.slice A157 (Ms).eps.length c157) w157 e156.now e157.now) rfl rfl))
 obtain ⟨rfl, B8⟩ := hh
 refine hK216 _ _ ?_
 clear hK216 K216
 try simp only [PutS]
 clear b156 e156 b157 e157
 replace HF := Lib.hid (MBs.keep HF.out B8)
 replace b2 := b2.keep B8
 replace b3 := b3.keep B8
 replace hB := hB.trans ((B8).mono hB.size)
 replace hNs := Nat.le_trans hNs (B8).size
 try replace Hvl1 := Lib.hid (RdA.keep Hvl1.out B8)
 try replace Hvl2 := Lib.hid (RdA.keep Hvl2.out B8)
 try replace HB29 := Lib.hid (HB29.out.keep B8)
 clear B8
 refine wpList_step fun K218 hK218 => ?_
 rw [if_pos (by rfl)]
 go_big_op
 refine hK218 _ _ ?_
 clear hK218 K218
 try simp only [PutS]
 refine wpList_step fun K219 hK219 => ?_
 rw [if_pos (by rfl)]
 go_big_op
 refine hK219 _ _ ?_
 clear hK219 K219
 try simp only [PutS]
 refine wpList_step fun K220 hK220 => ?_
 rw [if_pos (by rfl)]
 go_big_op
 refine hK220 _ _ ?_
 clear hK220 K220
 try simp only [PutS]
 refine wpList_step fun K221 hK221 => ?_
 rw [if_pos (by rfl)]
 go_big_op
 refine hK221 _ _ ?_
 clear hK221 K221
 try simp only [PutS]
 refine wpList_step fun K222 hK222 => ?_
 rw [if_pos (by rfl)]
 go_big_op
 refine hK222 _ _ ?_
 clear hK222 K222
 try simp only [PutS]
 refine wpList_step fun K223 hK223 => ?_
 rw [if_pos (by rfl)]
 refine Jn (Jb (fun v164 w164 hh => ?_) (J7 J57 (rInts26 ls v103 v111 w158 Hvl1.out Hvl2.out) rfl rfl))
 obtain ⟨rfl, B8⟩ := hh
 refine hK223 _ _ ?_
 clear hK223 K223
 try simp only [PutS]
 replace HF := Lib.hid (MBs.keep HF.out B8)
 replace b2 := b2.keep B8
 replace b3 := b3.keep B8
 replace hB := hB.trans ((B8).mono hB.size)
 replace hNs := Nat.le_trans hNs (B8).size
 try replace Hvl1 := Lib.hid (RdA.keep Hvl1.out B8)
 try replace Hvl2 := Lib.hid (RdA.keep Hvl2.out B8)
 try replace HB29 := Lib.hid (HB29.out.keep B8)
 clear B8 Hvl1 Hvl2
 refine wpList_step fun K225 hK225 => ?_
 rw [if_pos (by rfl)]
 go_big_op
 refine hK225 _ _ ?_
 clear hK225 K225
 try simp only [PutS]
 refine wpList_step fun K226 hK226 => ?_
 rw [if_pos (by rfl)]
 go_big_op
 refine hK226 _ _ ?_
 clear hK226 K226
 try simp only [PutS]
 refine wpList_step fun K227 hK227 => ?_
 rw [if_pos (by rfl)]
 go_big_op
 refine hK227 _ _ ?_
 clear hK227 K227
 try simp only [PutS]
 refine wpList_step fun K228 hK228 => ?_
 rw [if_pos (by rfl)]
 go_big_op
 refine hK228 _ _ ?_
 clear hK228 K228
 try simp only [PutS]
 refine wpList_step fun K229 hK229 => ?_
 rw [if_pos (by rfl)]
 go_big_op
 refine hK229 _ _ ?_
 clear hK229 K229
 try simp only [PutS]
 refine wpList_step fun K230 hK230 => ?_
 rw [if_pos (by rfl)]
 go_big_op
 refine hK230 _ _ ?_
 clear hK230 K230
 try simp only [PutS]
 refine wpList_step fun K231 hK231 => ?_
 rw [if_pos (by rfl)]
 go_big_op
 refine hK231 _ _ ?_
 clear hK231 K231
 iterate 2 (try simp only [PutS])
 go_upto_region 15 with (fail)
 refine wp_region_lit ?_
 obtain ⟨A173, c173, b173, e173⟩ := MBs.get HF.out (k := 10) rfl
 refine wpSk rfl (J1 (cs := mtc m (.slice A173 m.eps.length c173)) J9 rfl (by rw [J5, J0 m _ hms]) rfl rfl (J4 b173)) fun v173 w173 hh => ?_
 obtain ⟨rfl, rfl⟩ := hh
 try simp only [PutS]
 have k0 : w173.cell? ⟨g1 + 1, 0, none⟩ = some (.int .i64 lg) := (b3.cell 0).trans rfl
 have k1 : w173.cell? ⟨g1 + 1, 1, none⟩ = some (.int .i64 pt) := (b3.cell 1).trans rfl
 have k2 : w173.cell? ⟨g1 + 1, 2, none⟩ = some (.int .i64 ix) := (b3.cell 2).trans rfl
 have k3 : w173.cell? ⟨g1 + 1, 3, none⟩ = some (.int .i64 ep) := (b3.cell 3).trans rfl
 have l3 := b3.lt
 iterate 2 (refine wpList_plain rfl fun K hK => ?_; go_big_op; refine hK _ _ ?_; clear hK K)
 obtain ⟨⟨D, cD⟩, hx⟩ : ∃ x, x = rootM m ep := ⟨_, rfl⟩
 have HXD := Lib.hid hx
 have hDl : D.length = 32 := by have := (Jl4 (Jex e173.now) ep).1; rw [← hx] at this; exact this
 obtain ⟨iD, hiD, iD0, iD1, iD2⟩ := info_parts J2b
 clear hx
 have hR := gRootM m HNN.out ep hep (.slice A173 m.eps.length c173) w173 (HS.out.keep hB) e173.now
 rw [← HXD.out] at hR
 refine wpSk rfl (J7 J5e hR rfl rfl) fun v176 w176 hh => ?_
 obtain ⟨rfl, B8⟩ := hh
 try simp only [PutS]
 clear hR b173 e173 k0 k1 k2 k3 l3
 replace HF := Lib.hid (MBs.keep HF.out B8)
 replace b2 := b2.keep B8
 replace b3 := b3.keep B8
 replace hB := hB.trans ((B8).mono hB.size)
 replace hNs := Nat.le_trans hNs (B8).size
 try replace Hvl1 := Lib.hid (RdA.keep Hvl1.out B8)
 try replace Hvl2 := Lib.hid (RdA.keep Hvl2.out B8)
 try replace HB29 := Lib.hid (HB29.out.keep B8)
 clear B8
 refine wpList_plain rfl fun K hK => ?_; go_big_op; refine hK _ _ ?_; clear hK K
 refine wpSk rfl (Jh (v := dgv D) rfl rfl rfl) fun v177 w177 hh => ?_
 obtain ⟨rfl, rfl⟩ := hh
 try simp only [PutS]
 refine wpSk rfl (Jh (v := .int .i64 cD) rfl rfl rfl) fun v178 w178 hh => ?_
 obtain ⟨rfl, rfl⟩ := hh
 try simp only [PutS]
 refine wpSk rfl (Jl hiD iD0 rfl) fun vz wz hh => ?_
 obtain ⟨rfl, rfl⟩ := hh
 try simp only [PutS]
 have bz : Blk (w178.alloc (.cells (Value.agg (zb 32).toArray).cells 23)) w178.heap.size 23 (zb 32).toArray := World.alloc_heap_new w178 _
 have Bz := (Below.refl _ w178).alloc (Nat.le_refl _) (.cells (Value.agg (zb 32).toArray).cells 23)
 generalize w178.alloc (.cells (Value.agg (zb 32).toArray).cells 23) = wz at *
 refine J6 rfl 23 (.tmp 29) (.tmp 177) rfl rfl (cells := byc D) rfl bz (by rw [J3, hDl]; decide) (by rw [Jc, J3, hDl]) (Jw _) (Ja _ _ (by rw [J3, hDl]; rfl)) fun X hX bX => ?_
 have BX : Below w178.heap.size w178 X := J2 Bz hX (Nat.le_refl _)
 obtain ⟨g29, hg⟩ : ∃ g, g = w178.heap.size := ⟨_, rfl⟩
 rw [← hg] at bX ⊢
 replace HF := Lib.hid (MBs.keep HF.out BX)
 replace b2 := b2.keep BX
 replace b3 := b3.keep BX
 replace hB := hB.trans ((BX).mono hB.size)
 replace hNs := Nat.le_trans hNs (BX).size
 try replace Hvl1 := Lib.hid (RdA.keep Hvl1.out BX)
 try replace Hvl2 := Lib.hid (RdA.keep Hvl2.out BX)
 try replace HB29 := Lib.hid (HB29.out.keep BX)
 clear bz Bz hX BX hg
 try simp only [PutS]
 have HB29 := Lib.hid (show Blk X g29 23 (byc D).toArray from bX)
 clear bX
 go_upto_region 16 with (fail)
 refine wp_region_lit ?_
 obtain ⟨A180, c180, b180, e180⟩ := MBs.get HF.out (k := 10) rfl
 refine wpSk rfl (J1 (cs := mtc m (.slice A180 m.eps.length c180)) J9 rfl (by rw [J5, J0 m _ hms]) rfl rfl (J4 b180)) fun v180 w180 hh => ?_
 obtain ⟨rfl, rfl⟩ := hh
 try simp only [PutS]
 have k0 : w180.cell? ⟨g1 + 1, 0, none⟩ = some (.int .i64 lg) := (b3.cell 0).trans rfl
 have k1 : w180.cell? ⟨g1 + 1, 1, none⟩ = some (.int .i64 pt) := (b3.cell 1).trans rfl
 have k2 : w180.cell? ⟨g1 + 1, 2, none⟩ = some (.int .i64 ix) := (b3.cell 2).trans rfl
 have k3 : w180.cell? ⟨g1 + 1, 3, none⟩ = some (.int .i64 ep) := (b3.cell 3).trans rfl
 have l3 := b3.lt
 iterate 2 (refine wpList_plain rfl fun K hK => ?_; go_big_op; refine hK _ _ ?_; clear hK K)
 have hR := rRoot26 m HNN.out ep hep (.slice A180 m.eps.length c180) w180 e180.now
 rw [← HXD.out] at hR
 refine wpSk rfl (J7 J6a hR rfl rfl) fun v183 w183 hh => ?_
 obtain ⟨rfl, B8⟩ := hh
 try simp only [PutS]
 clear hR b180 e180 k0 k1 k2 k3 l3
 replace HF := Lib.hid (MBs.keep HF.out B8)
 replace b2 := b2.keep B8
 replace b3 := b3.keep B8
 replace hB := hB.trans ((B8).mono hB.size)
 replace hNs := Nat.le_trans hNs (B8).size
 try replace Hvl1 := Lib.hid (RdA.keep Hvl1.out B8)
 try replace Hvl2 := Lib.hid (RdA.keep Hvl2.out B8)
 try replace HB29 := Lib.hid (HB29.out.keep B8)
 clear B8
 refine wpList_plain rfl fun K hK => ?_; go_big_op; refine hK _ _ ?_; clear hK K
 refine wpSk rfl (Jh (v := dgv D) rfl rfl rfl) fun v184 w184 hh => ?_
 obtain ⟨rfl, rfl⟩ := hh
 try simp only [PutS]
 refine wpSk rfl (Jh (v := .int .i64 cD) rfl rfl rfl) fun v185 w185 hh => ?_
 obtain ⟨rfl, rfl⟩ := hh
 try simp only [PutS]
 refine wpSk rfl (Jl hiD iD0 rfl) fun vz wz hh => ?_
 obtain ⟨rfl, rfl⟩ := hh
 try simp only [PutS]
 have bz : Blk (w185.alloc (.cells (Value.agg (zb 32).toArray).cells 23)) w185.heap.size 23 (zb 32).toArray := World.alloc_heap_new w185 _
 have Bz := (Below.refl _ w185).alloc (Nat.le_refl _) (.cells (Value.agg (zb 32).toArray).cells 23)
 generalize w185.alloc (.cells (Value.agg (zb 32).toArray).cells 23) = wz at *
 refine J6 rfl 23 (.tmp 31) (.tmp 184) rfl rfl (cells := byc D) rfl bz (by rw [J3, hDl]; decide) (by rw [Jc, J3, hDl]) (Jw _) (Ja _ _ (by rw [J3, hDl]; rfl)) fun X hX bX => ?_
 have BX : Below w185.heap.size w185 X := J2 Bz hX (Nat.le_refl _)
 obtain ⟨g31, hg⟩ : ∃ g, g = w185.heap.size := ⟨_, rfl⟩
 rw [← hg] at bX ⊢
 replace HF := Lib.hid (MBs.keep HF.out BX)
 replace b2 := b2.keep BX
 replace b3 := b3.keep BX
 replace hB := hB.trans ((BX).mono hB.size)
 replace hNs := Nat.le_trans hNs (BX).size
 try replace Hvl1 := Lib.hid (RdA.keep Hvl1.out BX)
 try replace Hvl2 := Lib.hid (RdA.keep Hvl2.out BX)
 try replace HB29 := Lib.hid (HB29.out.keep BX)
 clear bz Bz hX BX hg
 try simp only [PutS]
 have HB31 := Lib.hid (show Blk X g31 23 (byc D).toArray from bX)
 clear bX
 go_upto_region 17 with (fail)
 obtain ⟨A6, c6, b6, e6⟩ := MBs.get HF.out (k := 10) rfl
 have b29 := HB29.out
 have b31 := HB31.out
 have k3 := Je b3.lt (show X.cell? ⟨g1 + 1, 3, none⟩ = some (.int .i64 ep) from (b3.cell 3).trans rfl)
 refine Jd 45 [(0, Spec.val (dgv D)), (1, Spec.val (dgv D)), (2, Spec.val (.bool true)), (9, Spec.val (mtV m (.slice A6 m.eps.length c6))), (12, Spec.val (.int .i64 (leftM m ep : Nat))), (13, Spec.val (mtV m (.slice A6 m.eps.length c6))), (16, Spec.val (.int .i64 (leftM m ep : Nat))), (20, Spec.val (mtV m (.slice A6 m.eps.length c6))), (21, Spec.val (.int .i64 (wordsM m : Nat))), (22, Spec.val (mtV m (.slice A6 m.eps.length c6))), (23, Spec.val (.int .i64 (wordsM m : Nat))), (27, Spec.val (mtV m (.slice A6 m.eps.length c6))), (28, Spec.rel (Was (PBy (encM m))) (SlF (encM m).length)), (29, Spec.val (mtV m (.slice A6 m.eps.length c6))), (30, Spec.rel (Was (PBy (encM m))) (SlF (encM m).length)), (31, Spec.val (.bool true)), (35, Spec.val (dgv seed)), (36, Spec.val ((mtV ⟨0, seed, []⟩ (.slice none 0 0)))), (38, Spec.val (dgv seed)), (39, Spec.val ((mtV ⟨0, seed, []⟩ (.slice none 0 0)))), (40, Spec.val (.bool true))] (by kernel_rfl) (by kernel_rfl) (by kernel_rfl) ⟨Jgs, Jgs, trivial⟩ ?_
 refine rg_val rfl rfl (fun W1 hW1 hF => Jf (cs := byc D) Jg rfl (by rw [Jc, J3, hDl]) rfl rfl (Jr (J4 b29) b29.lt (J8 hW1))) ?_
 intro a' ha
 simp only [PutS] at ha
 subst ha
 refine rg_val rfl rfl (fun W1 hW1 hF => Jf (cs := byc D) Jg rfl (by rw [Jc, J3, hDl]) rfl rfl (Jr (J4 b31) b31.lt (J8 hW1))) ?_
 intro a' ha
 simp only [PutS] at ha
 subst ha
 refine rg_val rfl rfl (fun W1 hW1 hF => Jd8 rfl rfl rfl hDl) ?_
 intro a' ha
 simp only [PutS] at ha
 subst ha
 iterate 6 (refine rg_det rfl rfl rfl (fun K hK => ?_); go_big_quiet_op; refine hK _ ?_; clear hK K)
 refine rg_val rfl rfl (fun W1 hW1 hF => Jf (cs := mtc m (.slice A6 m.eps.length c6)) J9 rfl (by rw [J5, J0 m _ hms]) rfl rfl (Jr (J4 b6) b6.lt (J8 hW1))) ?_
 intro a' ha
 simp only [PutS] at ha
 subst ha
 iterate 2 (refine rg_det rfl rfl rfl (fun K hK => ?_); go_big_quiet_op; refine hK _ ?_; clear hK K)
 refine rg_val rfl rfl (fun W1 hW1 hF => J7 J2v (gLeft m HNN.out ep hep (.slice A6 m.eps.length c6) W1 (EpsA.keep e6.now (J8 hW1))) rfl rfl) ?_
 intro a' ha
 simp only [PutS] at ha
 subst ha
 refine rg_val rfl rfl (fun W1 hW1 hF => Jf (cs := mtc m (.slice A6 m.eps.length c6)) J9 rfl (by rw [J5, J0 m _ hms]) rfl rfl (Jr (J4 b6) b6.lt (J8 hW1))) ?_
 intro a' ha
 simp only [PutS] at ha
 subst ha
 iterate 2 (refine rg_det rfl rfl rfl (fun K hK => ?_); go_big_quiet_op; refine hK _ ?_; clear hK K)
 refine rg_val rfl rfl (fun W1 hW1 hF => J7 J69 (rLeft26 m HNN.out ep hep (.slice A6 m.eps.length c6) W1 (EpsA.keep e6.now (J8 hW1))) rfl rfl) ?_
 intro a' ha
 simp only [PutS] at ha
 subst ha
 iterate 3 (refine rg_det rfl rfl rfl (fun K hK => ?_); go_big_quiet_op; refine hK _ ?_; clear hK K)
 refine rg_val rfl rfl (fun W1 hW1 hF => Jf (cs := mtc m (.slice A6 m.eps.length c6)) J9 rfl (by rw [J5, J0 m _ hms]) rfl rfl (Jr (J4 b6) b6.lt (J8 hW1))) ?_
 intro a' ha
 simp only [PutS] at ha
 subst ha
 refine rg_val rfl rfl (fun W1 hW1 hF => J7 J54 (gWords m HNN.out (.slice A6 m.eps.length c6) W1 (EpsA.keep e6.now (J8 hW1))) rfl rfl) ?_
 intro a' ha
 simp only [PutS] at ha
 subst ha
 refine rg_val rfl rfl (fun W1 hW1 hF => Jf (cs := mtc m (.slice A6 m.eps.length c6)) J9 rfl (by rw [J5, J0 m _ hms]) rfl rfl (Jr (J4 b6) b6.lt (J8 hW1))) ?_
 intro a' ha
 simp only [PutS] at ha
 subst ha
 refine rg_val rfl rfl (fun W1 hW1 hF => J7 J63 (rWords26 m HNN.out (.slice A6 m.eps.length c6) W1 (EpsA.keep e6.now (J8 hW1))) rfl rfl) ?_
 intro a' ha
 simp only [PutS] at ha
 subst ha
 iterate 3 (refine rg_det rfl rfl rfl (fun K hK => ?_); go_big_quiet_op; refine hK _ ?_; clear hK K)
 refine rg_val rfl rfl (fun W1 hW1 hF => Jf (cs := mtc m (.slice A6 m.eps.length c6)) J9 rfl (by rw [J5, J0 m _ hms]) rfl rfl (Jr (J4 b6) b6.lt (J8 hW1))) ?_
 intro a' ha
 simp only [PutS] at ha
 subst ha
 refine rg_rel rfl rfl (fun W1 hW1 hF => Jp J4t (((gEncodeM m HNN.out HEL.out (.slice A6 m.eps.length c6) W1 (EpsA.keep e6.now (J8 hW1))).mono Jgt)) rfl rfl) ?_
 intro n28 m28 v28 hn28 hm28 hd28 hf28 a' ha
 simp only [PutS] at ha
 subst ha
 obtain ⟨A28, cap28, rfl⟩ := hf28
 refine rg_val rfl rfl (fun W1 hW1 hF => Jf (cs := mtc m (.slice A6 m.eps.length c6)) J9 rfl (by rw [J5, J0 m _ hms]) rfl rfl (Jr (J4 b6) b6.lt (J8 hW1))) ?_
 intro a' ha
 simp only [PutS] at ha
 subst ha
 refine rg_rel rfl rfl (fun W1 hW1 hF => Jp J5q (((rEnc26 m HNN.out HEL.out HN5.out (.slice A6 m.eps.length c6) W1 (EpsA.keep e6.now (J8 hW1))).mono Jgt)) rfl rfl) ?_
 intro n30 m30 v30 hn30 hm30 hd30 hf30 a' ha
 simp only [PutS] at ha
 subst ha
 obtain ⟨A30, cap30, rfl⟩ := hf30
 refine rg_val rfl rfl (fun W1 hW1 hF => J7 J51 (rSameBytes (encM m) _ _ W1 (pby_of (J1a (J5s hF) (by kernel_rfl)).2) (pby_of (J1a hF (by kernel_rfl)).2)) rfl rfl) ?_
 intro a' ha
 simp only [PutS] at ha
 subst ha
 iterate 3 (refine rg_det rfl rfl rfl (fun K hK => ?_); go_big_quiet_op; refine hK _ ?_; clear hK K)
 refine rg_val rfl rfl (fun W1 hW1 hF => Jf (cs := byc seed) Jg rfl (by rw [Jc, J3, hsl]) rfl rfl (Jr (Jbi b2) b2.lt (J8 hW1))) ?_
 intro a' ha
 simp only [PutS] at ha
 subst ha
 refine rg_val rfl rfl (fun W1 hW1 hF => J7 J2z (gNew seed HS0.out W1) rfl rfl) ?_
 intro a' ha
 simp only [PutS] at ha
 subst ha
 refine rg_det rfl rfl rfl (fun K hK => ?_)
 go_big_quiet_op
 refine hK _ ?_; clear hK K
 refine rg_val rfl rfl (fun W1 hW1 hF => Jf (cs := byc seed) Jg rfl (by rw [Jc, J3, hsl]) rfl rfl (Jr (Jbi b2) b2.lt (J8 hW1))) ?_
 intro a' ha
 simp only [PutS] at ha
 subst ha
 refine rg_val rfl rfl (fun W1 hW1 hF => J7 J41 (rNew26 seed HS0.out W1) rfl rfl) ?_
 intro a' ha
 simp only [PutS] at ha
 subst ha
 refine rg_val rfl rfl (fun W1 hW1 hF => J7 J1d (rSameM ⟨0, seed, []⟩ HS0.out (.slice none 0 0) (.slice none 0 0) W1 (J7o ⟨W1, S⟩).now (J7o ⟨W1, S⟩).now) rfl rfl) ?_
 intro a' ha
 simp only [PutS] at ha
 subst ha
 iterate 4 (refine rg_det rfl rfl rfl (fun K hK => ?_); go_big_quiet_op; refine hK _ ?_; clear hK K)
 refine rg_nil (fun w' hw' hF => ?_)
 obtain ⟨z, rfl⟩ := hw'
 simp only [List.drop_succ_cons, List.drop_zero]
 have BZ := hB.trans (z.h.mono hB.size)
 clear hF k3
 go_wp2_with fail
 go_ret
 exact ⟨rfl, BZ⟩
end
end Go.Proofs.YtoiampgfnidfdaaGreatDoor
