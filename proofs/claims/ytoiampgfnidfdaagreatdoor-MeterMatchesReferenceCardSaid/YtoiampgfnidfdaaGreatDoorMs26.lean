/-
  The meter in mathematics: what any operations keep.
-/
import Derived.Test.YtoiampgfnidfdaaGreatDoorCut
import Derived.Deep.RegionHeld3
import Derived.Test.YtoiampgfnidfdaaGreatDoorSeq
set_option maxRecDepth 100000
set_option maxHeartbeats 8000000
namespace Go.Proofs.YtoiampgfnidfdaaGreatDoor
open Go.RowKit
section
open Go.RowKit

theorem Jg0 : Tryz.prog.elem 56 = 5 := by kernel_rfl
theorem cut_u8 (A : Option Addr) (n cap k : Nat) (hk : k ≤ n) : ∃ A' cap', (∀ w, (Instr.sliceAt 56 (.slice A n cap) (some (.int .i64 (k : Int))) none none).run Tryz.prog w = .ok (.slice A' (n - k) cap') w) ∧
  ∀ lo hi w xs, ByS lo hi w (.slice A n cap) xs → ByS lo hi w (.slice A' (n - k) cap') (xs.drop k) := by
 have ht : Tryz.prog.underlying 56 = some (.slice (Tryz.prog.elem 56)) := by rw [Jg0]; exact J10
 obtain ⟨iu8, hu8, uz0, uz1, uz2⟩ := info_parts J22
 have hsz : ∀ w, (Go.sizeOf 5).run Tryz.prog w = .ok 1 w := fun w => by simp [Go.sizeOf, typeInfo, hu8, uz1]
 refine ⟨if cap = k then A else A.map (·.add (k * 1)), cap - k, fun w => ?_, fun lo hi w xs h => ?_⟩
 ·
  rw [run_sliceAt_slice w _ _ _ _ _ ht, run_slice_l w _ A n cap ht .i64 (k : Int) (by omega) (by omega), Jg0, hsz]
  simp [Result.andThen, sliced]
 ·
  obtain ⟨h1, h2, A0, cap0, h3, h4, h5⟩ := h
  cases h3
  have hl : (xs.drop k).length = xs.length - k := List.length_drop ..
  refine ⟨by rw [J3, Nat.mul_one], by omega, _, _, by rw [hl], by omega, fun h0 => ?_⟩
  obtain ⟨g, off, rfl, q2, q3, q4, q5⟩ := h5 (by omega)
  refine ⟨g, off + k, ?_, q2, q3, q4, fun j u hj => ?_⟩
  ·
   rw [if_neg (by omega)]
   simp only [Option.map_some, Option.some.injEq]
   unfold Addr.add
   by_cases hk0 : k = 0
   · subst hk0; simp
   · rw [if_neg (by omega), Nat.mul_one]
  ·
   rw [Nat.add_assoc]
   refine q5 (k + j) u ?_
   unfold byc at hj ⊢
   rw [List.getElem?_map, List.getElem?_drop] at hj
   rw [List.getElem?_map]
   exact hj
def lzM (D : List Nat) (L m : Nat) : List Nat := padJ D (padZ L) ++ (lenB L).take m
theorem Jjd (D : List Nat) (L : Nat) : padJ D (padZ L) = lzM D L 0 := by unfold lzM; simp
theorem Jje (D : List Nat) (L m : Nat) (h : m < 8) : lzM D L m ++ [L * 8 / 2 ^ (56 - 8 * m) % 256] = lzM D L (m + 1) := by
 unfold lzM lenB
 rw [List.take_add_one, List.getElem?_map, List.getElem?_range h, List.append_assoc]
 rfl
theorem Jlv (b : List Nat) : lzM (b.drop (b.length / 64 * 64)) b.length 8 = lastB b := by
 unfold lzM padJ lastB
 rw [List.take_of_length_le (by simp [lenB])]
theorem Jlw (D : List Nat) (L m : Nat) : (lzM D L m).length ≤ D.length + 1 + padZ L + 8 := by
 unfold lzM lenB
 rw [List.length_append, J4o, List.length_take]
 simp
 omega
attribute [local go_sem] Oper.semAt_some
theorem wBlocks (b : List Nat) (hn : b.length ≤ 1000000) (v : Value) (lo n0 Bs n : Nat) (hn1 : 1 ≤ n) (w : World) (hb : ByS lo n0 w v b) (hn0 : n0 ≤ w.heap.size) (bx : Blk w Bs 56 #[v])
  (S : Nat → Nat → Prop) (hS : ∀ N g, w.heap.size ≤ N → g = Bs ∨ (lo ≤ g ∧ g < n0) ∨ N ≤ g → S N g) :
  SeqM n Tryz.prog 159 #[.pointer (some ⟨Bs, 0, none⟩)] (fun N g => N ≤ g) S 0 ((pad b).length / 64) (fun i x W => ∃ lo hi, ByS lo hi W x (blk64 (pad b) i)) w := fun l J W hW hJ1 hJ2 hY h0 => by
 obtain ⟨A, cap, rfl⟩ := hb.len
 have hop := J3n Tryz.prog
 have hbW := hb.keep hW
 have bxW := bx.keep hW
 have hn0W : n0 ≤ W.heap.size := Nat.le_trans hn0 hW.size
 obtain ⟨L, hL⟩ : ∃ L, L = b.length := ⟨_, rfl⟩
 rw [← hL] at bxW hbW hn
 have HLn := Lib.hid hL
 have HJ1 := Lib.hid hJ1
 have HJ2 := Lib.hid hJ2
 have HY := Lib.hid hY
 have HV : Hid (ByS lo n0 W (.slice A L cap) b) := Lib.hid hbW
 have HS := Lib.hid (fun g h => hS W.heap.size g hW.size h)
 have hc0 := (bxW.cell 0).trans (show (#[Value.slice A L cap] : Array Value)[0]? = some (.slice A L cap) from rfl)
 have HC0 := Lib.hid hc0
 have hBl := bxW.lt
 have hLc : L ≤ cap := by
  obtain ⟨_, _, A', c', e, h, _⟩ := hbW
  cases e
  omega
 clear hb bx bxW hbW hJ1 hJ2 hY hW hL hS
 refine callsIn_of_wp Tryz.func159 rfl trivial ?_ rfl
 simp only [Tryz.ntmps159, List.size_toArray, List.length_cons, List.length_nil, Nat.reduceAdd, Nat.reduceSub, Array.replicate_succ, Array.replicate_zero, List.push_toArray, List.append_toArray, List.nil_append, List.cons_append]
 gi_wp2_with fail
 obtain ⟨M, hM⟩ : ∃ M, M = L / 64 := ⟨_, rfl⟩
 have hM1 : 64 * M ≤ L := by omega
 have hM2 : L < 64 * M + 64 := by omega
 rw [show (L : Int) / 64 = (M : Int) by omega]
 have HM := Lib.hid hM
 have HN : Hid ((pad b).length / 64 = M + (lastB b).length / 64) := Lib.hid (by rw [Jhm, ← HLn.out, hM])
 clear hM
 have hK0 : Keeps (S W.heap.size) W W := Keeps.refl W
 clear hc0
 gi_loopw [4] (fun i wr => ∃ k : Nat, k ≤ M ∧ i = .int .i64 ((64 * k : Nat) : Int) ∧ J k wr ∧ Keeps (S W.heap.size) W wr) (fun i _ => 64 * M - (intOf i).toNat)
 case atStart => exact ⟨0, Nat.zero_le _, rfl, h0, hK0⟩
 case round =>
  obtain ⟨k, hk, rfl, hJ, hK⟩ := hrel
  clear h0 hK0
  have e1 := hK.cell (HS.out Bs (.inl rfl)) HC0.out
  by_cases hlt : k < M
  ·
   have hVr : ByS lo n0 wr (.slice A L cap) b := Keeps.rd HV.out hK (fun g h1 h2 => HS.out g (.inr (.inl ⟨h1, h2⟩)))
   obtain ⟨g, off, cap', hA, hcl, hg1, hg2, hg3, hcell⟩ := J4n hVr (by rw [← HLn.out]; omega)
   have hA1 : A = some ⟨g, off, none⟩ := by injection hA
   subst hA1
   clear hcell hcl hA
   have hcut : ByS lo n0 wr (.slice (some ⟨g, off + 64 * k, none⟩) 64 (cap - 64 * k)) (blk64 (pad b) k) := by
    rw [Jlg b k (by rw [← HLn.out, ← HM.out]; exact hlt)]
    rw [show L = b.length from HLn.out] at hVr
    exact Jby hVr (64 * k) 64 (cap - 64 * k) (by rw [← HLn.out]; omega) (by decide) (by omega)
   have hcp : 64 * k + 64 ≤ cap := by omega
   obtain ⟨fn, tmps, assign, body, hy, hR⟩ := HY.out k _ wr hJ (by have := hK.size; omega) (by rw [HN.out]; omega) ⟨_, _, hcut⟩
   clear hcut hJ hVr
   have hwr := hK.size
   gi_wp2_with fail
   refine hR.mono ?_
   rintro e W3 ⟨rfl, hJ3, hk3⟩
   have hK3 := hK.trans hk3
   clear hy hR hk3 hK e1
   gi_wp2_with fail
   exact ⟨⟨k + 1, by omega, by congr 1, hJ3, hK3⟩, by simp [intOf]; omega⟩
  ·
   obtain rfl : k = M := by omega
   gi_upto_region 5 with (fail)
   refine wpIn_wide.2 ?_
   refine wp_region_lit ?_
   obtain ⟨A2, cap2, hcut, hcb⟩ := cut_u8 A L cap (64 * k) hM1
   have hVr : ByS lo n0 wr (.slice A L cap) b := Keeps.rd HV.out hK (fun g h1 h2 => HS.out g (.inr (.inl ⟨h1, h2⟩)))
   have hV2 := hcb _ _ _ _ hVr
   iterate 2 (refine wpList_plain rfl fun K hK => ?_; go_big_op; refine hK _ _ ?_; clear hK K)
   refine wpSk rfl (Jjc (k := .int .i64 ((64 * k : Nat) : Int)) rfl rfl (by show Value.int .i64 ((k : Int) * 64) = _; congr 1; omega) hcut) fun v28 w28 hh => ?_
   obtain ⟨rfl, B28⟩ := hh
   try simp only [PutS]
   have hdl : (b.drop (64 * k)).length = L - 64 * k := by rw [List.length_drop, ← HLn.out]
   refine wpSk rfl (Jp Jbp (gClone (b.drop (64 * k)) (by rw [hdl]; omega) _ lo n0 _ (hV2.keep B28)) rfl rfl) fun v29 w29 hh => ?_
   obtain ⟨o29, B29⟩ := hh
   try simp only [PutS]
   have hC : Calm W.heap.size (fun A => J k A ∧ Keeps (S W.heap.size) W A) := Calm.and ⟨HJ1.out k, HJ2.out k⟩ (Jh9 (Nat.le_refl _))
   have hI := hC.up _ _ (hC.up _ _ ⟨hJ, hK⟩ B28) B29
   have hb28 : W.heap.size ≤ w28.heap.size := by have := hK.size; have := B28.size; omega
   have o29' : OwB W.heap.size w29 v29 (b.drop (64 * k)) := ⟨o29.1.1, o29.1.2.imp id fun ⟨g, cap, cur, q1, q2, q3⟩ => ⟨g, cap, cur, q1, Nat.le_trans hb28 q2, q3⟩⟩
   have hb29 : W.heap.size ≤ w29.heap.size := Nat.le_trans hb28 B29.size
   clear hV2 hVr hcb hcut B28 B29 o29 hb28 e1 hJ hK
   refine J7z (c := 128) rfl rfl _ _ _ rfl rfl rfl (fun _ => rfl) (fun _ => rfl) o29' hC hI (by rw [hdl]; omega) hb29 fun v30 v31 w31 o31 hI31 hb31 => ?_
   rw [show b.drop (64 * k) ++ [128] = padJ (b.drop (64 * k)) 0 from rfl] at o31
   clear o29' hI hb29
   obtain ⟨D, hD⟩ : ∃ D, D = b.drop (64 * k) := ⟨_, rfl⟩
   rw [← hD] at o31 hdl
   have hDl : D.length = L - 64 * k := hdl
   have hpz : padZ L = padZ D.length := by unfold padZ; rw [hDl]; omega
   have HD := Lib.hid hD
   clear hdl hD
   obtain ⟨A31, c31, rfl⟩ := o31.len
   go_wp2_with fail
   refine wpIn_wide.2 ?_
   go_wp2_with fail
   go_loopw [5] (fun u wr => ∃ j : Nat, j ≤ padZ L ∧ OwB W.heap.size wr u (padJ D j) ∧ (J k wr ∧ Keeps (S W.heap.size) W wr) ∧ W.heap.size ≤ wr.heap.size) (fun u _ => 100000000 - slen u)
   case atStart => exact ⟨0, Nat.zero_le _, o31, hI31, hb31⟩
   case round =>
    clear o31 hI31 hb31
    obtain ⟨j, hj, ho, hI, hbs⟩ := hrel
    obtain ⟨A3, c3, rfl⟩ := ho.len
    have hlen := J4o D j
    have hz := Jdu D.length j (by rw [← hpz]; exact hj)
    rw [← hlen] at hz
    have hsm : (padJ D j).length ≤ 1000100 := by have := J6p L; omega
    by_cases hlt : j < padZ L
    ·
     have hmod : (padJ D j).length % 64 ≠ 56 := fun h => by have := hz.1 h; omega
     obtain ⟨E, hE⟩ : ∃ E, E = (padJ D j).length := ⟨_, rfl⟩
     rw [← hE] at hmod hsm ⊢
     clear hz hlen
     go_upto_region 7 with (fail)
     refine wp_region_lit ?_
     refine wpList_plain rfl fun K hK => ?_; go_big_op; refine hK _ _ ?_; clear hK K
     rw [hE]
     rw [hE] at hsm
     refine J7z (c := 0) rfl rfl _ _ _ rfl rfl rfl (fun _ => rfl) (fun _ => rfl) ho hC hI (by omega) hbs fun v5 v6 w6 o6 hI6 hb6 => ?_
     rw [Jcq] at o6
     clear ho hI hbs
     obtain ⟨A6, c6, rfl⟩ := o6.len
     go_wp2_with fail
     have hl6 := J4o D (j + 1)
     have hl5 := J4o D j
     exact ⟨⟨j + 1, by omega, o6, hI6, hb6⟩, by simp [slen]; omega⟩
    ·
     have hmod : (padJ D j).length % 64 = 56 := hz.2 (by omega)
     obtain rfl : j = padZ L := by omega
     have hpl := J6p L
     rw [Jjd] at ho hsm hmod ⊢
     obtain ⟨E, hE⟩ : ∃ E, E = (lzM D L 0).length := ⟨_, rfl⟩
     rw [← hE] at hmod hsm ⊢
     have e1 := hI.2.cell (HS.out Bs (.inl rfl)) HC0.out
     have HE := Lib.hid hE
     clear hz hlen hE
     have hbn : ((E : Int) % 64 != 56) = false := by
      rw [show (E : Int) % 64 = 56 by omega]
      rfl
     go_wp2_with fail
     try rw [hbn]
     clear hbn e1
     go_loopw [5, 7] (fun u i wr => ∃ m : Nat, m ≤ 8 ∧ i = .int .i64 (56 - 8 * (m : Int)) ∧ OwB W.heap.size wr u (lzM D L m) ∧ (J k wr ∧ Keeps (S W.heap.size) W wr) ∧ W.heap.size ≤ wr.heap.size) (fun _ i _ => (intOf i + 8).toNat)
     case atStart => exact ⟨0, Nat.zero_le _, rfl, by rw [HE.out]; exact ho, hI, hbs⟩
     case round =>
      clear ho hI hbs
      obtain ⟨m, hm, rfl, ho, hI, hbs⟩ := hrel
      obtain ⟨A5, c5, rfl⟩ := ho.len
      have hlm := Jlw D L m
      by_cases hlt : m < 8
      ·
       obtain ⟨t, ht⟩ : ∃ t, t + 8 * m = 56 := ⟨56 - 8 * m, by omega⟩
       have hnx := Jje D L m hlt
       rw [show 56 - 8 * m = t by omega] at hnx
       rw [show (56 : Int) - 8 * (m : Int) = (t : Int) by omega]
       have ht56 : t ≤ 56 := by omega
       have HX := Lib.hid hnx
       have HT := Lib.hid ht
       clear hnx ht
       go_upto_region 12 with (fail)
       refine wp_region_lit ?_
       iterate 5 (refine wpList_plain rfl fun K hK => ?_; go_big_op; refine hK _ _ ?_; clear hK K)
       refine J7z (c := L * 8 / 2 ^ t % 256) rfl rfl _ _ _ rfl rfl (by simp [Act.eval]) (fun _ => rfl) (fun _ => rfl) ho hC hI (by omega) hbs fun v5 v6 w6 o6 hI6 hb6 => ?_
       rw [HX.out] at o6
       clear ho hI hbs
       obtain ⟨A6, c6, rfl⟩ := o6.len
       go_wp2_with fail
       have htt := HT.out
       exact ⟨⟨m + 1, by omega, by congr 1; omega, o6, hI6, hb6⟩, by simp [intOf]; omega⟩
      ·
       obtain rfl : m = 8 := by omega
       rw [show (56 : Int) - 8 * ((8 : Nat) : Int) = -8 by decide]
       have hD8 : lzM D L 8 = lastB b := by
        rw [← Jlv b, ← HLn.out, HD.out, HM.out, Nat.mul_comm]
       rw [hD8] at ho ⊢
       obtain ⟨hl1, hl2, hl3⟩ := Jiu b
       obtain ⟨N2, hN2⟩ : ∃ N2, (lastB b).length = 64 * N2 := ⟨(lastB b).length / 64, by omega⟩
       have hN2s : N2 ≤ 2 := by omega
       have HNk : Hid ((pad b).length / 64 = k + N2) := Lib.hid (by rw [HN.out, hN2]; omega)
       have HN2 := Lib.hid hN2
       have HO := Lib.hid ho
       rw [hN2]
       have hc5 : 64 * N2 ≤ c5 := by
        rcases ho.2 with ⟨h, _⟩ | ⟨g, cap, cur, h, _, _, hq, _⟩
        ·
         injection h with h1 h2 h3
         omega
        ·
         injection h with h1 h2 h3
         omega
       clear hl1 hl2 hl3 hN2 hlm hlt hm hD8 ho
       go_wp2_with fail
       refine (wpIn_wide (n := n)).1 ?_
       gi_loopw [8] (fun i wr => ∃ j : Nat, j ≤ N2 ∧ i = .int .i64 ((64 * j : Nat) : Int) ∧ OwB W.heap.size wr (.slice A5 (lastB b).length c5) (lastB b) ∧ J (k + j) wr ∧ Keeps (S W.heap.size) W wr) (fun i _ => 64 * N2 - (intOf i).toNat)
       case atStart => exact ⟨0, Nat.zero_le _, rfl, HO.out, hI.1, hI.2⟩
       case round =>
        clear hI hbs
        obtain ⟨j, hj, rfl, ho, hJ, hK⟩ := hrel
        by_cases hlt : j < N2
        ·
         have hby : ByS W.heap.size wr.heap.size wr (.slice A5 (lastB b).length c5) (lastB b) := ho.bys (by rw [HN2.out]; omega) (Nat.le_refl _)
         obtain ⟨g, off, cap', hA, hcl, hg1, hg2, hg3, hcell⟩ := J4n hby (by rw [HN2.out]; omega)
         have hA1 : A5 = some ⟨g, off, none⟩ := by injection hA
         subst hA1
         clear hcell hcl hA
         have hcut : ByS W.heap.size wr.heap.size wr (.slice (some ⟨g, off + 64 * j, none⟩) 64 (c5 - 64 * j)) (blk64 (pad b) (k + j)) := by
          have e := Jiv b j
          rw [← HLn.out, ← HM.out] at e
          rw [e]
          exact Jby hby (64 * j) 64 (c5 - 64 * j) (by rw [HN2.out]; omega) (by decide) (by omega)
         have hcp : 64 * j + 64 ≤ c5 := by omega
         obtain ⟨fn, tmps, assign, body, hy, hR⟩ := HY.out (k + j) _ wr hJ (by have := hK.size; omega) (by rw [HNk.out]; omega) ⟨_, _, hcut⟩
         clear hcut hJ hby
         have HO1 := Lib.hid ho
         clear ho HO
         gi_wp2_with fail
         refine hR.mono ?_
         rintro e W3 ⟨rfl, hJ3, hk3⟩
         have hK3 := hK.trans hk3
         have o3 := Jhz HO1.out hk3 (fun g hg => HS.out g (.inr (.inr hg)))
         have HO3 := Lib.hid o3
         clear hy hR hk3 hK o3
         gi_wp2_with fail
         exact ⟨⟨j + 1, by omega, by congr 1, HO3.out, hJ3, hK3⟩, by simp [intOf]; omega⟩
        ·
         obtain rfl : j = N2 := by omega
         gi_wp2
         go_end0
         exact ⟨⟨_, rfl⟩, by rw [HNk.out]; exact hJ⟩
end
section
open Go.RowKit

theorem Jlx {lo hi g : Nat} {W : World} {x : Value} {l : List Nat} (h : ByS lo hi W x l) (h0 : 0 < l.length) (o : Obj) (L : Loop) (hl : W.heap[g]? = some (.loop L)) : ByS lo hi (W.putObj g o) x l := by
 obtain ⟨h1, h2, A, cap, h3, h4, h5⟩ := h
 refine ⟨h1, h2, A, cap, h3, h4, fun h0' => ?_⟩
 obtain ⟨b, off, q1, q2, q3, q4, q5⟩ := h5 h0'
 have hne : g ≠ b := by
  intro e
  subst e
  obtain ⟨u, hu⟩ : ∃ u, (byc l)[0]? = some u := ⟨_, List.getElem?_eq_getElem (by rw [J3]; exact h0)⟩
  have := q5 0 u hu
  unfold World.cell? at this
  rw [hl] at this
  cases this
 exact ⟨b, off, q1, q2, q3, by simpa using q4, fun j u hu => (World.cell?_of_block (w := W) (a := ⟨b, off + j, none⟩) (World.putObj_heap_other (r := g) (k := b) (by omega))).trans (q5 j u hu)⟩
theorem Jbd {lo hi : Nat} {w : World} {v : Value} {l : List Nat} (h : ByS lo hi w v l) : ByS 0 w.heap.size w v l := by
 obtain ⟨h1, h2, A, cap, h3, h4, h5⟩ := h
 refine ⟨h1, h2, A, cap, h3, h4, fun h0 => ?_⟩
 obtain ⟨g, off, q1, q2, q3, q4, q5⟩ := h5 h0
 exact ⟨g, off, q1, Nat.zero_le _, q4, q4, q5⟩
def dgK (s : S8) (n : Nat) : List Value := arrB 32 ((digL s).take n)
theorem Jjf (s : S8) : dgK s 0 = zb 32 := by unfold dgK; rw [List.take_zero, J8k]
theorem Jly (s : S8) : dgK s 32 = byc (digL s) := by
 unfold dgK
 rw [List.take_of_length_le (by rw [J1q]; exact Nat.le_refl _), J8j 32 _ (J1q s)]
theorem Jjg (s : S8) (i k : Nat) (hi : i < 8) (hk : k < 4) : (dgK s (4 * i + k)).set (4 * i + k) (.int .u8 (((s.get i).toNat / 2 ^ (24 - 8 * k) % 256 : Nat) : Int)) = dgK s (4 * i + k + 1) := by
 have hl : ((digL s).take (4 * i + k)).length = 4 * i + k := by rw [List.length_take, J1q]; omega
 have hd : digK s (4 * i + k) = (s.get i).toNat / 2 ^ (24 - 8 * k) % 256 := by
  unfold digK S8.get
  rw [show (4 * i + k) / 4 = i by omega, show (4 * i + k) % 4 = k by omega]
 unfold dgK
 rw [Jcp s (4 * i + k) (by omega), ← J9b 32 _ _ (by omega), hl, hd]
theorem dgK_at (s : S8) (n : Nat) (h : n < 32) : (dgK s n)[n]? = some (.int .u8 0) := by
 have hl : ((digL s).take n).length = n := by rw [List.length_take, J1q]; omega
 have := J8i 32 ((digL s).take n) (by omega)
 rwa [hl] at this
theorem J2t : En Tryz.prog 123 := enters_of Tryz.func123 (by kernel_rfl) rfl
attribute [local go_sem] Oper.semAt_some
theorem gSum (b : List Nat) (hn : b.length ≤ 1000000) (hb8 : ∀ x ∈ b, x < 256) (v : Value) (lo hi : Nat) (w : World) (hL : Lsh w) (h : ByS lo hi w v b) : Calls Tryz.prog 123 #[v] w (Ret (dgv (sha b)) w) := by
 have h00 : ByS 0 w.heap.size w v b := Jbd h
 obtain ⟨A, cap, rfl⟩ := h.len
 have HV := Lib.hid h00
 have HN := Lib.hid hn
 have H8 := Lib.hid (pad_lt b hb8)
 have HL := Lib.hid hL
 have hL2 := hL.sz
 obtain ⟨L, hLe⟩ : ∃ L, L = b.length := ⟨_, rfl⟩
 have HLe := Lib.hid hLe
 rw [← hLe]
 rw [← hLe] at HV
 clear h h00 hn hb8 hLe hL
 obtain ⟨ist, hist, sz0, sz1, sz2⟩ := info_parts Jfw
 refine (callsIn_wide (n := 3)).1 ?_
 refine callsIn_of_wp_marks Tryz.func123 rfl trivial ?_ rfl
 simp only [Tryz.ntmps123, List.size_toArray, List.length_cons, List.length_nil, Nat.reduceAdd, Nat.reduceSub, Array.replicate_succ, Array.replicate_zero, List.push_toArray, List.append_toArray, List.nil_append, List.cons_append]
 gi_upto_region 1 with (fail)
 refine stk1 (M := fun W => Code.wpIn _ _ _ _ _ _ W) fun W hB hz b1 => ?_
 obtain ⟨cs0, hcs0, b2'⟩ : ∃ cs : Array Value, cs.size = 32 ∧ Blk W w.heap.size 23 cs := ⟨_, rfl, b1⟩
 have hWs : W.heap.size = w.heap.size + 1 := hz.out
 clear b1 hz
 refine wpIn_wide.2 ?_
 refine wp_region_lit ?_
 refine wpSk rfl (J1 (cs := init8.cells) J7x rfl J4y rfl rfl (HL.out.keep (hB.mono (Nat.le_refl _))).i8) fun v9 w9 hh => ?_
 obtain ⟨rfl, rfl⟩ := hh
 try simp only [PutS]
 refine wpSk rfl (Jl hist sz0 rfl) fun v3 w3 hh => ?_
 obtain ⟨rfl, rfl⟩ := hh
 try simp only [PutS]
 have b3 : Blk (w9.alloc (.cells (Value.agg (List.replicate 8 (Value.int .u32 0)).toArray).cells 178)) w9.heap.size 178 (List.replicate 8 (Value.int .u32 0)).toArray := World.alloc_heap_new w9 _
 have BA := (Below.refl _ w9).alloc (Nat.le_refl _) (.cells (Value.agg (List.replicate 8 (Value.int .u32 0)).toArray).cells 178)
 refine J6 rfl 178 (.tmp 3) (.tmp 9) rfl rfl (cells := init8.cells) rfl b3 (by simp [S8.cells]) J91 (s8_one _) (Ja _ _ (by simp [S8.cells])) fun X hX bX => ?_
 have b2X := hX.blk (b2'.keep BA) (by omega)
 have hBX := J2 (hB.trans (BA.mono hB.size)) hX (by omega)
 have hXs : X.heap.size = w.heap.size + 1 + 1 := by rw [hX.size]; simp; omega
 rw [hWs] at bX ⊢
 clear b3 BA hX hB b2' sz0 sz1 sz2 hist
 go_wp2_with fail
 gi_wp2_with fail
 refine ⟨trivial, (callsIn_wide.2 (gBlocks A L cap X)).mono ?_⟩
 rintro e w2 ⟨rfl, rfl⟩
 gi_wp2_with fail
 refine stk1 (M := fun W => Code.wpIn _ _ _ _ _ _ W) fun Y hBY hzY c1 => ?_
 have hYs : Y.heap.size = w.heap.size + 1 + 1 + 1 := by rw [hzY.out, hXs]
 rw [hXs] at c1
 have b3Y := bX.keep hBY
 have b2Y := b2X.keep hBY
 have hBw := hBX.trans (hBY.mono hBX.size)
 have HVY := Lib.hid (HV.out.keep hBw)
 clear hzY bX b2X hBY hBX
 have hAv : ∀ N g, Y.heap.size ≤ N → g = w.heap.size + 1 + 1 ∨ (0 ≤ g ∧ g < w.heap.size) ∨ N ≤ g → (g ≠ w.heap.size + 1 ∧ (g + 1 ≠ N ∨ g < Y.heap.size)) := fun N g hN hg => by omega
 refine Jhy (Av := fun i x W => ∃ lo hi, ByS lo hi W x (blk64 (pad b) i)) (N := (pad b).length / 64) (k := 0) (Own := fun N g => N ≤ g) (S := fun N g => g ≠ w.heap.size + 1 ∧ (g + 1 ≠ N ∨ g < Y.heap.size)) (w0 := Y)
  (wBlocks b HN.out (.slice A L cap) 0 w.heap.size (w.heap.size + 1 + 1) 2 (by decide) Y HVY.out (by omega) c1 _ hAv) (Below.refl _ _) (by decide) rfl (enters_of Tryz.func159 (by kernel_rfl) rfl) (fun g hg => by omega) (fun g hg => by omega)
  (fun s V => Blk V (w.heap.size + 1) 178 (shaK (pad b) s).cells.toArray ∧ Blk V w.heap.size 23 cs0 ∧ Below w.heap.size w V ∧ Y.heap.size ≤ V.heap.size)
  ?hI1 ?hI2 ?hI3 ?h0 (fun i x a' V => (∃ lo hi, ByS lo hi V x (blk64 (pad b) i)) ∧ a' = { tmps := (#[.slice A L cap, undef, .pointer (some ⟨w.heap.size, 0, none⟩), .pointer (some ⟨w.heap.size + 1, 0, none⟩), x, undef, undef, undef, undef, .agg init8.cells.toArray, .slice A L cap, .func (.func 159) #[] #[.pointer (some ⟨w.heap.size + 1 + 1, 0, none⟩)], x, undef, undef, undef, undef, undef, undef, undef, undef, undef, undef, undef, undef, undef, undef, undef, undef, undef, undef, undef, undef, undef, undef, undef, undef] : Array Value), defers := [] }) ?hAx ?assign ?body ?done
 case hI1 => exact fun s A B h hb => ⟨h.1.keep hb, h.2.1.keep hb, h.2.2.1.trans (hb.mono h.2.2.1.size), Nat.le_trans h.2.2.2 hb.size⟩
 case hI2 => exact fun s A B g hg h hp => ⟨hp.blk h.1 (by omega), hp.blk h.2.1 (by omega), J2 h.2.2.1 hp (by omega), by rw [hp.size]; exact h.2.2.2⟩
 case hI3 => exact fun s V o h => ⟨(World.putObj_heap_other (by omega)).trans h.1, (World.putObj_heap_other (by omega)).trans h.2.1, J48 h.2.2.1 _ o (by omega), by simpa using h.2.2.2⟩
 case h0 => exact ⟨b3Y, b2Y, hBw, Nat.le_refl _⟩
 case hAx =>
  rintro i x a' V o lp hlp ⟨⟨lo', hi', hby⟩, rfl⟩
  by_cases h0 : 0 < (blk64 (pad b) i).length
  · exact ⟨⟨lo', hi', Jlx hby h0 o lp hlp⟩, rfl⟩
  ·
   refine ⟨⟨lo', hi', ?_⟩, rfl⟩
   obtain ⟨q1, q2, A', c', q3, q4, q5⟩ := hby
   exact ⟨q1, q2, A', c', q3, q4, fun h => absurd h h0⟩
 case assign =>
  intro l i x V K hV hx hK
  simp only [List.setIfInBounds_toArray, List.set_cons_succ, List.set_cons_zero]
  gi_wp2_with fail
  obtain ⟨lo', hi', hby⟩ := hx
  exact hK _ _ (Below.refl _ _) ⟨⟨lo', hi', hby⟩, rfl⟩
 case body =>
  rintro l pre x V a' ⟨q1, q2, q3, q4⟩ hV ⟨⟨lo', hi', hby⟩, rfl⟩ hpre
  have hop := J7d (J3n Tryz.prog) l
  gi_wp2_with fail
  have hpl : (blk64 (pad b) pre).length = 64 := Jcr _ _ (by have := pad_64 b; omega)
  refine ⟨trivial, (J7r hop.all (hop.fn _) (gCompress (shaK (pad b) pre) (blk64 (pad b) pre) hpl (fun y hy => H8.out y (List.mem_of_mem_drop (List.mem_of_mem_take hy))) x lo' hi' (w.heap.size + 1) _ V (HL.out.below q3 hL2) q1 hby)).mono ?_⟩
  rintro e W3 ⟨rfl, hb3, hM⟩
  gi_wp2_with fail
  exact ⟨⟨hM.size, fun g hg hl => hM.other g hl (by omega)⟩, hb3, (hM.other _ q2.lt (by omega)).trans q2, ⟨hM.os.trans q3.os, hM.tape.trans q3.tape, hM.output.trans q3.output, Nat.le_trans q3.size hM.size, fun k hk => (hM.other k (Nat.lt_of_lt_of_le hk q3.size) (by omega)).trans (q3.block k hk)⟩, by have := hM.size; omega⟩
 case done =>
  intro D V hD ⟨q1, q2, q3, q4⟩ hK
  have HS := Lib.hid (show sha b = digL (shaK (pad b) ((pad b).length / 64)) from rfl)
  generalize shaK (pad b) ((pad b).length / 64) = s at *
  have hDl : D < V.heap.size := (Array.getElem?_eq_some_iff.1 hK).1
  have hDw : w.heap.size + 1 < D := by rw [hD.out]; omega
  gi_upto_region 6 with (fail)
  refine stk1 (M := fun W => Code.wpIn _ _ _ _ _ _ W) fun Z hBZ hzZ b5 => ?_
  have b5' : Blk Z V.heap.size 23 (dgK s 0).toArray := by rw [Jjf]; exact b5
  have q1Z := q1.keep hBZ
  have q2Z := q2.keep hBZ
  have hBw := q3.trans (hBZ.mono q3.size)
  have hKZ : Z.heap[D]? = some (.deferred (some [])) := (hBZ.block D hDl).trans hK
  have hgw : w.heap.size ≤ V.heap.size := q3.size
  obtain ⟨g5, hg5⟩ : ∃ g, g = V.heap.size := ⟨_, rfl⟩
  rw [← hg5] at b5' hDl hgw ⊢
  clear b5 hzZ hBZ q1 q2 q3 q4 hK hg5
  refine wpIn_wide.2 ?_
  refine wp_region_lit ?_
  refine wpSk rfl (J1 (cs := s.cells) J9f rfl J91 rfl rfl (J4 q1Z)) fun v15 w15 hh => ?_
  obtain ⟨rfl, rfl⟩ := hh
  try simp only [PutS]
  clear q1Z
  go_wp2_with fail
  gi_wp2_with fail
  gi_loopw [16] (fun i wr => ∃ k : Nat, k ≤ 8 ∧ i = .int .i64 k ∧ Blk wr g5 23 (dgK s (4 * k)).toArray ∧ Blk wr w.heap.size 23 cs0 ∧ Below w.heap.size w wr ∧ wr.heap[D]? = some (.deferred (some []))) (fun i _ => 8 - (intOf i).toNat)
  case atStart => exact ⟨0, Nat.zero_le _, rfl, b5', q2Z, hBw, hKZ⟩
  case round =>
   clear b5' q2Z hBw hKZ
   obtain ⟨k, hk, rfl, b5, b2, hBr, hKr⟩ := hrel
   by_cases hlt : k < 8
   ·
    have hix := Jfy s k hlt
    gi_wp2_with fail
    gi_loopw [20] (fun i wr => ∃ j : Nat, j ≤ 4 ∧ i = .int .i64 j ∧ Blk wr g5 23 (dgK s (4 * k + j)).toArray ∧ Blk wr w.heap.size 23 cs0 ∧ Below w.heap.size w wr ∧ wr.heap[D]? = some (.deferred (some []))) (fun i _ => 4 - (intOf i).toNat)
    case atStart => exact ⟨0, Nat.zero_le _, rfl, b5, b2, hBr, hKr⟩
    case round =>
     clear b5 b2 hBr hKr hix
     obtain ⟨j, hj, rfl, b5, b2, hBr, hKr⟩ := hrel
     by_cases hlj : j < 4
     ·
      have e1 := b5.frozen
      have e2 : wr.cell? ⟨g5, 4 * k + j, none⟩ = some (.int .u8 0) := (b5.cell (4 * k + j)).trans (by rw [List.getElem?_toArray]; exact dgK_at s (4 * k + j) (by omega))
      obtain ⟨x, hx⟩ : ∃ x, x = s.get k := ⟨_, rfl⟩
      rw [← hx]
      have HX := Lib.hid hx
      clear hx
      gi_wp2_with fail
      refine ⟨⟨j + 1, by omega, by go_num, ?_⟩, by simp [intOf]; omega⟩
      refine set1 (M := fun W => Blk W g5 23 (dgK s (4 * k + (j + 1))).toArray ∧ Blk W w.heap.size 23 cs0 ∧ Below w.heap.size w W ∧ W.heap[D]? = some (.deferred (some []))) b5 fun X hX bX => ⟨?_, hX.blk b2 (by omega), J2 hBr hX hgw, (hX.other D (by omega)).trans hKr⟩
      rw [Jfu, HX.out, List.setIfInBounds_toArray, Jjg s k j hlt hlj] at bX
      exact bX
     ·
      obtain rfl : j = 4 := by omega
      gi_wp2_with fail
      exact ⟨⟨k + 1, by omega, by go_num, by rw [show 4 * (k + 1) = 4 * k + 4 by omega]; exact b5, b2, hBr, hKr⟩, by simp [intOf]; omega⟩
   ·
    obtain rfl : k = 8 := by omega
    rw [show 4 * 8 = 32 by decide, Jly, ← HS.out] at b5
    gi_upto_region 15 with (fail)
    refine wpIn_wide.2 ?_
    refine J9e 23 (byc (sha b)) _ _ _ _ rfl rfl rfl rfl Jg rfl (by rw [Jc, J3, Js]) (Jw _) rfl (fun _ => rfl) (fun _ => rfl) b5 b2 (by rw [hcs0, J3, Js]) fun X v hX bX => ?_
    have hBX : Below w.heap.size w X := J2 hBr hX (Nat.le_refl _)
    have hKX : X.heap[D]? = some (.deferred (some [])) := (hX.other D (by omega)).trans hKr
    gi_wp2_with fail
    refine ⟨by simp, .inl ⟨_, _, rfl, run_takeDeferred hKX, ?_⟩⟩
    have bX' : Blk (X.putObj D (.deferred none)) w.heap.size 23 (byc (sha b)).toArray := (World.putObj_heap_other (by omega)).trans bX
    exact ⟨dgv (sha b), Jv (g := w.heap.size) rfl rfl Jg rfl (by rw [Jc, J3, Js]) bX', rfl, J48 hBX D _ (by omega)⟩
end
section
open Go.RowKit

attribute [local irreducible] wpRg
end
section
open Go.RowKit

theorem J24 (w : World) : Below w.heap.size w w.drew := ⟨rfl, rfl, rfl, Nat.le_refl _, fun _ _ => rfl⟩
attribute [local irreducible] wpRg
end
section
open Go.RowKit

def BylA (ps : List (List Nat)) (n m : Nat) (v : Value) (w : World) : Prop := ∃ us : List Value, us.length = ps.length ∧ Rd n m 1 w v ps.length us ∧ ∀ (i : Nat) (u : Value) (p : List Nat), us[i]? = some u → ps[i]? = some p → ByS 0 m w u p
theorem byl_st {ps : List (List Nat)} : Stable (BylA ps) := fun _ _ _ _ _ ⟨us, h1, h2, h3⟩ hb => ⟨us, h1, Rd.below h2 hb (Nat.le_refl _), fun i u p hu hp => Rd.below (h3 i u p hu hp) hb (Nat.le_refl _)⟩
theorem BylA.byl {ps : List (List Nat)} {n m : Nat} {v : Value} {w : World} (h : BylA ps n m v w) : BylS n m w v ps := by
 obtain ⟨us, h1, h2, h3⟩ := h
 exact ⟨us, h1, h2, fun i u p hu hp => ⟨_, _, h3 i u p hu hp⟩⟩
theorem Jjh {lo hi : Nat} {w w' : World} {v : Value} {l : List Nat} (h : ByS lo hi w v l) (hb : Below w.heap.size w w') : ByS 0 w'.heap.size w' v l := Jbd (h.keep hb)
theorem Ja7 : (Tryz.prog.info? 56).map (fun i => (i.zero, i.size, i.bytes)) = some (some (.slice none 0 0), 1, 24) := by kernel_rfl
theorem J7i : Tryz.prog.underlying 60 = some (.slice 56) := by kernel_rfl
theorem OwA.bys {l : List Nat} {lo hi : Nat} {v : Value} {w : World} (h : OwA l lo hi v w) (hn : l.length ≤ 10000000) : ByS lo w.heap.size w v l := h.1.bys hn (Nat.le_refl _)
attribute [local irreducible] wpRg
end
section

abbrev Dg := List Nat
def tz1 (n : Nat) : Nat := if h : n % 2 = 1 then tz1 (n / 2) + 1 else 0
termination_by n
decreasing_by omega
theorem Jg1 {n : Nat} (h : n % 2 = 1) : tz1 n = tz1 (n / 2) + 1 := by rw [tz1, dif_pos h]
theorem Jbe {n : Nat} (h : n % 2 = 0) : tz1 n = 0 := by rw [tz1, dif_neg (by omega)]
section
variable (pr : Dg → Dg → Dg)
def pushN : Nat → List Dg → Dg → List Dg
 | 0, ps, d => ps ++ [d]
 | t + 1, ps, d => pushN t ps.dropLast (pr (ps.getLastD []) d)
def peaksN : List Dg → Nat → List Dg → List Dg
 | ps, _, [] => ps
 | ps, n, d :: r => peaksN (pushN pr (tz1 n) ps d) (n + 1) r
theorem Jdk (ps : List Dg) (n : Nat) (l r : List Dg) : peaksN pr ps n (l ++ r) = peaksN pr (peaksN pr ps n l) (n + l.length) r := by
 induction l generalizing ps n with
 | nil => rfl
 | cons d l ih => simp only [List.cons_append, peaksN, List.length_cons, ih]; rw [show n + 1 + l.length = n + (l.length + 1) by omega]
def bagN : List Dg → Dg
 | [] => List.replicate 32 0
 | [d] => d
 | p :: q :: r => pr p (bagN (q :: r))
def splN (n : Nat) : Nat := 2 ^ Nat.log2 (n - 1)
theorem spl2 : splN 2 = 1 := rfl
theorem spl3 : splN 3 = 2 := rfl
theorem spl4 : splN 4 = 2 := rfl
theorem spl5 : splN 5 = 4 := rfl
theorem spl6 : splN 6 = 4 := rfl
theorem spl7 : splN 7 = 4 := rfl
theorem spl8 : splN 8 = 4 := rfl
def treeN : Nat → List Dg → Dg
 | 0, _ => []
 | f + 1, l => if l.length = 1 then l.getD 0 [] else pr (treeN f (l.take (splN l.length))) (treeN f (l.drop (splN l.length)))
theorem Jji : ∀ l : List Dg, 0 < l.length → l.length ≤ 8 → bagN pr (peaksN pr [] 0 l) = treeN pr l.length l
 | [], h, _ => absurd h (by decide)
 | [_], _, _ => by simp [peaksN, pushN, bagN, treeN, tz1]
 | [_, _], _, _ => by simp [peaksN, pushN, bagN, treeN, tz1, spl2, spl3, spl4, spl5, spl6, spl7, spl8]
 | [_, _, _], _, _ => by simp [peaksN, pushN, bagN, treeN, tz1, spl2, spl3, spl4, spl5, spl6, spl7, spl8]
 | [_, _, _, _], _, _ => by simp [peaksN, pushN, bagN, treeN, tz1, spl2, spl3, spl4, spl5, spl6, spl7, spl8]
 | [_, _, _, _, _], _, _ => by simp [peaksN, pushN, bagN, treeN, tz1, spl2, spl3, spl4, spl5, spl6, spl7, spl8]
 | [_, _, _, _, _, _], _, _ => by simp [peaksN, pushN, bagN, treeN, tz1, spl2, spl3, spl4, spl5, spl6, spl7, spl8]
 | [_, _, _, _, _, _, _], _, _ => by simp [peaksN, pushN, bagN, treeN, tz1, spl2, spl3, spl4, spl5, spl6, spl7, spl8]
 | [_, _, _, _, _, _, _, _], _, _ => by simp [peaksN, pushN, bagN, treeN, tz1, spl2, spl3, spl4, spl5, spl6, spl7, spl8]
 | _ :: _ :: _ :: _ :: _ :: _ :: _ :: _ :: _ :: _, _, h => by simp at h
def onesN (n : Nat) : Nat := if h : n = 0 then 0 else n % 2 + onesN (n / 2)
termination_by n
decreasing_by omega
theorem Jha : ∀ l : List Dg, l.length ≤ 8 → (peaksN pr [] 0 l).length = onesN l.length
 | [], _ => by simp [peaksN, onesN]
 | [_], _ => by simp [peaksN, pushN, tz1, onesN]
 | [_, _], _ => by simp [peaksN, pushN, tz1, onesN]
 | [_, _, _], _ => by simp [peaksN, pushN, tz1, onesN]
 | [_, _, _, _], _ => by simp [peaksN, pushN, tz1, onesN]
 | [_, _, _, _, _], _ => by simp [peaksN, pushN, tz1, onesN]
 | [_, _, _, _, _, _], _ => by simp [peaksN, pushN, tz1, onesN]
 | [_, _, _, _, _, _, _], _ => by simp [peaksN, pushN, tz1, onesN]
 | [_, _, _, _, _, _, _, _], _ => by simp [peaksN, pushN, tz1, onesN]
 | _ :: _ :: _ :: _ :: _ :: _ :: _ :: _ :: _ :: _, h => by simp at h
end
end
section

def maskK (key : Dg) (m : Nat) : List Nat := (key ++ List.replicate 32 0).map fun x => x ^^^ m
def keyD (key : Dg) (b : List Nat) : Dg := sha (maskK key 92 ++ sha (maskK key 54 ++ b))
def leafD (b : List Nat) : Dg := sha (0 :: b)
def pairD (a b : Dg) : Dg := sha (1 :: a ++ b)
def cdE (d : Dg) : E := ⟨fz (le8 d 0 8), fz (le8 d 8 8)⟩
def cdB (n k i : Nat) : List Nat := [112, 111, 105, 110, 116] ++ [n % 256, k % 256, i % 256]
def coordM (seed : Dg) (n k log : Nat) : List E := (List.range log).map fun i => cdE (keyD seed (cdB n k i))
theorem J1n (seed : Dg) (n k log : Nat) : (coordM seed n k log).length = log := by simp [coordM]
theorem Jav (seed : Dg) (n k log : Nat) : coordM seed n k (log + 1) = coordM seed n k log ++ [cdE (keyD seed (cdB n k log))] := by simp [coordM, List.range_succ]

structure Pt where
 R : List E
 V : List E
 used : Bool
structure Ep where
 log : Nat
 count : Nat
 closed : Bool
 pts : List Pt
 peaks : List Dg
structure Mt where
 ver : Nat
 seed : Dg
 eps : List Ep
structure Rdg where
 who : Int
 when : Int
 kind : Int
 value : Int
def Rdg.ok (r : Rdg) : Prop := (0 ≤ r.who ∧ r.who < 16) ∧ (0 ≤ r.when ∧ r.when < 256) ∧ (0 ≤ r.kind ∧ r.kind < 16) ∧ (0 ≤ r.value ∧ r.value < 256)
instance (r : Rdg) : Decidable r.ok := by unfold Rdg.ok; infer_instance
def Rdg.enc (r : Rdg) : List Nat := [(r.who + 16 * r.kind).toNat, r.when.toNat, r.value.toNat]
def Rdg.amts (r : Rdg) : List Int := [r.who, r.when, r.kind, r.value, 1]
def Mt.isOpen (m : Mt) : Bool := match m.eps.getLast? with | some e => !e.closed | none => false
def Mt.put (m : Mt) (i : Nat) (e : Ep) : Mt := ⟨m.ver + 1, m.seed, m.eps.set i e⟩
def newPts (seed : Dg) (n log pts : Nat) : List Pt := (List.range pts).map fun k => ⟨coordM seed n k log, List.replicate 5 0, false⟩
def openM (m : Mt) (log pts : Int) : Mt × Int :=
 if log < 0 ∨ log > 16 ∨ pts < 1 ∨ pts > 16 then (m, 1)
 else if m.isOpen then (m, 260)
 else if m.eps.length = 40 then (m, 2)
 else (⟨m.ver + 1, m.seed, m.eps ++ [⟨log.toNat, 0, false, newPts m.seed m.eps.length log.toNat pts.toNat, []⟩]⟩, 0)
def Mt.at (m : Mt) (i : Nat) : Ep := m.eps.getD i ⟨0, 0, false, [], []⟩
def Mt.last (m : Mt) : Nat := m.eps.length - 1
def closeM (m : Mt) : Mt × Int :=
 if m.isOpen then (m.put m.last { m.at m.last with closed := true }, 0) else (m, 260)
def addP (i : Nat) (amts : List Int) (p : Pt) : Pt := { p with V := List.zipWith (fun v n => v + eb (fz n) * eqi i p.R) p.V amts }
def takeM (m : Mt) (r : Rdg) : Mt × Int :=
 if ¬ r.ok then (m, 1) else if m.isOpen = false then (m, 260)
 else if (m.at m.last).count = 2 ^ (m.at m.last).log then (m, 2)
 else (m.put m.last { m.at m.last with pts := (m.at m.last).pts.map (addP (m.at m.last).count r.amts), peaks := pushN pairD (tz1 (m.at m.last).count) (m.at m.last).peaks (leafD r.enc), count := (m.at m.last).count + 1 }, 0)
def retractM (m : Mt) (i : Int) (r : Rdg) : Mt × Int :=
 if ¬ r.ok then (m, 1) else if m.isOpen = false then (m, 260)
 else if i < 0 ∨ i ≥ (m.at m.last).count then (m, 4)
 else (m.put m.last { m.at m.last with pts := (m.at m.last).pts.map (addP i.toNat [0, 0, 0, 0, -1]) }, 0)
def freeM (pts : List Pt) : List Nat := (List.range pts.length).filter fun k => match pts[k]? with | some p => !p.used | none => false
def useP (l : List Nat) (pts : List Pt) : List Pt := pts.mapIdx fun k p => if k ∈ l then { p with used := true } else p
def spendM (m : Mt) (n : Int) : Mt × List Nat × Int :=
 if n < 0 ∨ n ≥ m.eps.length then (m, [], 4)
 else if (m.at n.toNat).closed = false then (m, [], 260)
 else if (freeM (m.at n.toNat).pts).length < 2 then (m, [], 261)
 else (m.put n.toNat { m.at n.toNat with pts := useP ((freeM (m.at n.toNat).pts).take 2) (m.at n.toNat).pts }, (freeM (m.at n.toNat).pts).take 2, 0)
def leftM (m : Mt) (n : Int) : Nat := if n < 0 ∨ n ≥ m.eps.length then 0 else (freeM (m.at n.toNat).pts).length / 2
def rootM (m : Mt) (n : Int) : Dg × Int := if n < 0 ∨ n ≥ m.eps.length then (List.replicate 32 0, 4) else (bagN pairD (m.at n.toNat).peaks, 0)
def wordsM (m : Mt) : Nat := 5 + (m.eps.map fun e => 3 + 4 * e.peaks.length + 11 * e.pts.length).sum
def leB (x n : Nat) : List Nat := (List.range n).map fun i => x / 2 ^ (8 * i) % 256
def flB (b : Bool) : Nat := if b then 1 else 0
def extB (x : E) : List Nat := leB (fv x.a).toNat 8 ++ leB (fv x.b).toNat 8
def ptB (p : Pt) : List Nat := flB p.used :: p.V.flatMap extB
def epB (e : Ep) : List Nat := e.log % 256 :: leB e.count 4 ++ [flB e.closed, e.pts.length % 256] ++ e.pts.flatMap ptB ++ e.peaks.length % 256 :: e.peaks.flatten
def encM (m : Mt) : List Nat := leB m.ver 8 ++ m.seed ++ m.eps.length % 256 :: m.eps.flatMap epB
end
section

abbrev Stm := List (Rdg × Bool)
def amt (c : Nat) (x : Rdg × Bool) : Int := [x.1.who, x.1.when, x.1.kind, x.1.value, if x.2 then 0 else 1].getD c 0
def colM (c log : Nat) (l : Stm) : List E := (List.range (2 ^ log)).map fun i => match l[i]? with | some x => eb (fz (amt c x)) | none => 0
theorem J35 (c log : Nat) (l : Stm) : (colM c log l).length = 2 ^ log := by simp [colM]
theorem J6s (c log : Nat) (l : Stm) (i : Nat) (h : i < 2 ^ log) : (colM c log l)[i]? = some (match l[i]? with | some x => eb (fz (amt c x)) | none => 0) := by
 simp [colM, h]
theorem eb_fz0 : eb (fz 0) = 0 := rfl
theorem Jcu : eb (fz 1) + eb (fz (-1)) = 0 := rfl
theorem Jjj (c log : Nat) (l : Stm) (x : Rdg × Bool) (h : l.length < 2 ^ log) : colM c log (l ++ [x]) = (colM c log l).set l.length ((colM c log l).getD l.length 0 + eb (fz (amt c x))) := by
 have h0 : (colM c log l).getD l.length 0 = 0 := by
  rw [List.getD_eq_getElem?_getD, J6s _ _ _ _ h, List.getElem?_eq_none (Nat.le_refl _)]; rfl
 rw [h0, E.zero_add]
 refine List.ext_getElem? fun i => ?_
 rw [List.getElem?_set, J35]
 by_cases hi : i < 2 ^ log
 ·
  rw [J6s _ _ _ _ hi, J6s _ _ _ _ hi]
  by_cases h1 : l.length = i
  ·
   subst h1
   simp [h]
  ·
   rw [if_neg h1, List.getElem?_append]
   by_cases h2 : i < l.length
   · rw [if_pos h2]
   · rw [if_neg h2, List.getElem?_eq_none (l := l) (by omega), List.getElem?_eq_none (l := [x]) (by simp; omega)]
 ·
  rw [List.getElem?_eq_none (by rw [J35]; omega), List.getElem?_eq_none (l := colM c log l) (by rw [J35]; omega)]
  split
  · omega
  · rfl
theorem Jjk (c log : Nat) (l : Stm) (i : Nat) (r : Rdg) (hi : l[i]? = some (r, false)) (h : l.length ≤ 2 ^ log) : colM c log (l.set i (r, true)) = (colM c log l).set i ((colM c log l).getD i 0 + eb (fz ([0, 0, 0, 0, (-1 : Int)].getD c 0))) := by
 have hl : i < l.length := (List.getElem?_eq_some_iff.1 hi).1
 have h0 : (colM c log l).getD i 0 = eb (fz (amt c (r, false))) := by
  rw [List.getD_eq_getElem?_getD, J6s _ _ _ _ (by omega), hi]; rfl
 have h1 : eb (fz (amt c (r, false))) + eb (fz ([0, 0, 0, 0, (-1 : Int)].getD c 0)) = eb (fz (amt c (r, true))) := by
  unfold amt
  match c with
  | 0 => exact E.add_zero _
  | 1 => exact E.add_zero _
  | 2 => exact E.add_zero _
  | 3 => exact E.add_zero _
  | 4 =>
   show eb (fz 1) + eb (fz (-1)) = eb (fz 0)
   rw [Jcu]; rfl
  | _ + 5 => exact E.add_zero _
 rw [h0, h1]
 refine List.ext_getElem? fun j => ?_
 rw [List.getElem?_set, J35]
 by_cases hj : j < 2 ^ log
 ·
  rw [J6s _ _ _ _ hj, J6s _ _ _ _ hj]
  by_cases h2 : i = j
  ·
   subst h2
   simp [hl, hj]
  · rw [if_neg h2, List.getElem?_set_ne h2]
 ·
  rw [List.getElem?_eq_none (by rw [J35]; omega), List.getElem?_eq_none (l := colM c log l) (by rw [J35]; omega)]
  split
  · omega
  · rfl
def valsM (log : Nat) (l : Stm) (R : List E) : List E := (List.range 5).map fun c => mev (colM c log l) R
theorem Ji0 (log : Nat) (l : Stm) (r : Rdg) (R : List E) (hR : R.length = log) (h : l.length < 2 ^ log) (k : Pt) (hk : k.R = R) (hv : k.V = valsM log l R) : (addP l.length r.amts k).V = valsM log (l ++ [(r, false)]) R := by
 have hm : ∀ c, mev (colM c log (l ++ [(r, false)])) R = mev (colM c log l) R + eb (fz (amt c (r, false))) * eqi l.length R := fun c => by
  rw [Jjj _ _ _ _ h]
  exact Jfq _ _ _ _ (by rw [J35, hR]) (by rw [hR]; exact h)
 unfold addP
 simp only [hv, hk]
 unfold valsM
 simp only [show List.range 5 = [0, 1, 2, 3, 4] from rfl, List.map_cons, List.map_nil, hm]
 rfl
theorem Ji1 (log : Nat) (l : Stm) (i : Nat) (r : Rdg) (R : List E) (hR : R.length = log) (h : l.length ≤ 2 ^ log) (hi : l[i]? = some (r, false)) (k : Pt) (hk : k.R = R) (hv : k.V = valsM log l R) : (addP i [0, 0, 0, 0, -1] k).V = valsM log (l.set i (r, true)) R := by
 have hl : i < l.length := (List.getElem?_eq_some_iff.1 hi).1
 have hm : ∀ c, mev (colM c log (l.set i (r, true))) R = mev (colM c log l) R + eb (fz ([0, 0, 0, 0, (-1 : Int)].getD c 0)) * eqi i R := fun c => by
  rw [Jjk _ _ _ _ _ hi h]
  exact Jfq _ _ _ _ (by rw [J35, hR]) (by rw [hR]; omega)
 unfold addP
 simp only [hv, hk]
 unfold valsM
 simp only [show List.range 5 = [0, 1, 2, 3, 4] from rfl, List.map_cons, List.map_nil, hm]
 rfl
structure Op26 where
 kind : Nat
 b0 : Nat
 b1 : Nat
 b2 : Nat
 i : Nat
 n : Nat
def Op26.ok (o : Op26) : Prop := o.kind < 256 ∧ o.b0 < 256 ∧ o.b1 < 256 ∧ o.b2 < 256 ∧ o.i < 256 ∧ o.n < 256
def Op26.rdg (o : Op26) : Rdg := ⟨o.b0 % 16, o.b1, o.b0 / 16, o.b2⟩
theorem Op26.rdg_ok {o : Op26} (h : o.ok) : o.rdg.ok := by
 obtain ⟨_, h0, h1, h2, _, _⟩ := h
 unfold Rdg.ok Op26.rdg
 dsimp only
 omega
abbrev St26 := Mt × List Stm
def St26.last (s : St26) : Stm := s.2.getD (s.2.length - 1) []
def St26.put (s : St26) (m : Mt) (l : Stm) : St26 := (m, s.2.set (s.2.length - 1) l)
def stepM (s : St26) (o : Op26) : St26 :=
 match o.kind % 8 with
 | 0 => if (openM s.1 (o.i % 4 : Nat) (1 + o.n % 4 : Nat)).2 = 0 then ((openM s.1 (o.i % 4 : Nat) (1 + o.n % 4 : Nat)).1, s.2 ++ [[]]) else s
 | 1 => if (closeM s.1).2 = 0 then ((closeM s.1).1, s.2) else s
 | 2 => if (spendM s.1 (o.n % 4 : Nat)).2.2 = 0 then ((spendM s.1 (o.n % 4 : Nat)).1, s.2) else s
 | 3 => match s.last[o.i % 8]? with
  | some (r, false) => if (retractM s.1 (o.i % 8 : Nat) r).2 = 0 then s.put (retractM s.1 (o.i % 8 : Nat) r).1 (s.last.set (o.i % 8) (r, true)) else s
  | _ => s
 | _ => if (takeM s.1 o.rdg).2 = 0 then s.put (takeM s.1 o.rdg).1 (s.last ++ [(o.rdg, false)]) else s
def playM (seed : Dg) (l : List Op26) : St26 := (l.take 25).foldl stepM (⟨0, seed, []⟩, [])
structure EpOk (seed : Dg) (n : Nat) (e : Ep) (l : Stm) : Prop where
 log : e.log ≤ 3
 cnt : e.count = l.length
 le : l.length ≤ 2 ^ e.log
 p1 : 1 ≤ e.pts.length
 p4 : e.pts.length ≤ 4
 pt : ∀ k p, e.pts[k]? = some p → p.R = coordM seed n k e.log ∧ p.V = valsM e.log l p.R ∧ (p.used = true → e.closed = true)
 pk : e.peaks = peaksN pairD [] 0 (l.map fun x => leafD x.1.enc)
 rd : ∀ x ∈ l, x.1.ok
structure StOk26 (k : Nat) (s : St26) : Prop where
 seed : s.1.seed.length = 32 ∧ ∀ x ∈ s.1.seed, x < 256
 ver : s.1.ver ≤ k
 len : s.2.length = s.1.eps.length
 eps : s.1.eps.length ≤ k
 ep : ∀ i e l, s.1.eps[i]? = some e → s.2[i]? = some l → EpOk s.1.seed i e l
 cl : ∀ i e, s.1.eps[i]? = some e → i + 1 < s.1.eps.length → e.closed = true
theorem at_get (m : Mt) (i : Nat) (h : i < m.eps.length) : m.eps[i]? = some (m.at i) := by
 unfold Mt.at
 rw [List.getD_eq_getElem?_getD, List.getElem?_eq_getElem h]
 rfl
theorem J36 {m : Mt} (h : m.isOpen = true) : 0 < m.eps.length ∧ (m.at m.last).closed = false := by
 unfold Mt.isOpen at h
 rw [List.getLast?_eq_getElem?] at h
 rcases Nat.eq_zero_or_pos m.eps.length with h0 | h0
 ·
  rw [List.getElem?_eq_none (by omega)] at h
  cases h
 ·
  refine ⟨h0, ?_⟩
  rw [at_get m (m.eps.length - 1) (by omega)] at h
  unfold Mt.last
  simpa using h
theorem StOk26.mono {k k' : Nat} {s : St26} (h : StOk26 k s) (hk : k ≤ k') : StOk26 k' s := ⟨h.seed, Nat.le_trans h.ver hk, h.len, Nat.le_trans h.eps hk, h.ep, h.cl⟩
theorem J9g {k : Nat} {s : St26} (h : StOk26 k s) (i : Nat) (e' : Ep) (l' : Stm) (hi : i < s.1.eps.length) (he : EpOk s.1.seed i e' l') (hc : i + 1 < s.1.eps.length → e'.closed = true) : StOk26 (k + 1) (s.1.put i e', s.2.set i l') := by
 refine ⟨h.seed, Nat.succ_le_succ h.ver, ?_, ?_, ?_, ?_⟩
 ·
  simp only [Mt.put, List.length_set]
  exact h.len
 ·
  simp only [Mt.put, List.length_set]
  exact Nat.le_succ_of_le h.eps
 ·
  intro j e l hj hl
  simp only [Mt.put] at hj hl ⊢
  by_cases hji : i = j
  ·
   subst hji
   rw [List.getElem?_set_self hi] at hj
   rw [List.getElem?_set_self (by rw [h.len]; exact hi)] at hl
   cases hj
   cases hl
   exact he
  ·
   rw [List.getElem?_set_ne hji] at hj hl
   exact h.ep j e l hj hl
 ·
  intro j e hj hl
  simp only [Mt.put, List.length_set] at hj hl
  by_cases hji : i = j
  ·
   subst hji
   rw [List.getElem?_set_self hi] at hj
   cases hj
   exact hc hl
  ·
   rw [List.getElem?_set_ne hji] at hj
   exact h.cl j e hj hl
theorem J64 {α : Type} (l : List α) (i : Nat) (x : α) (h : l[i]? = some x) : l.set i x = l := by
 refine List.ext_getElem? fun j => ?_
 by_cases hj : i = j
 ·
  subst hj
  rw [List.getElem?_set_self (List.getElem?_eq_some_iff.1 h).1, h]
 · rw [List.getElem?_set_ne hj]
theorem StOk26.at {k : Nat} {s : St26} (h : StOk26 k s) (i : Nat) (hi : i < s.1.eps.length) : ∃ l, s.2[i]? = some l ∧ EpOk s.1.seed i (s.1.at i) l := by
 have hl : i < s.2.length := by rw [h.len]; exact hi
 exact ⟨s.2[i], List.getElem?_eq_getElem hl, h.ep i _ _ (at_get _ _ hi) (List.getElem?_eq_getElem hl)⟩
theorem Jhb (seed : Dg) (n log pts k : Nat) (p : Pt) (h : (newPts seed n log pts)[k]? = some p) : k < pts ∧ p = ⟨coordM seed n k log, List.replicate 5 0, false⟩ := by
 unfold newPts at h
 rw [List.getElem?_map] at h
 by_cases hk : k < pts
 ·
  rw [List.getElem?_range hk] at h
  cases h
  exact ⟨hk, rfl⟩
 ·
  rw [List.getElem?_eq_none (by simp; omega)] at h
  cases h
theorem Jjl (log : Nat) (R : List E) (hR : R.length = log) : valsM log [] R = List.replicate 5 0 := by
 have h : ∀ c, mev (colM c log []) R = 0 := fun c => by
  have : colM c log [] = List.replicate (2 ^ log) 0 := by
   unfold colM
   refine List.ext_getElem? fun j => ?_
   by_cases hj : j < 2 ^ log
   · simp [hj]
   · rw [List.getElem?_eq_none (by simp; omega), List.getElem?_eq_none (by simp; omega)]
  rw [this]
  exact Jj1 _ _ (by rw [hR])
 unfold valsM
 simp only [h]
 rfl
theorem stepOpen {k : Nat} {s : St26} (h : StOk26 k s) (log pts : Int) (hl : 0 ≤ log ∧ log ≤ 3) (hp : 1 ≤ pts ∧ pts ≤ 4) (he : (openM s.1 log pts).2 = 0) : StOk26 (k + 1) ((openM s.1 log pts).1, s.2 ++ [[]]) := by
 unfold openM at he ⊢
 split at he
 · cases he
 ·
  split at he
  · cases he
  ·
   split at he
   · cases he
   ·
    rename_i h1 h2 h3
    rw [if_neg h1, if_neg h2, if_neg h3]
    dsimp only
    refine ⟨h.seed, Nat.succ_le_succ h.ver, by simp [h.len], by simp; exact h.eps, ?_, ?_⟩
    ·
     intro i e l hi hl'
     dsimp only at hi hl' ⊢
     by_cases hlt : i < s.1.eps.length
     ·
      rw [List.getElem?_append_left hlt] at hi
      rw [List.getElem?_append_left (by rw [h.len]; exact hlt)] at hl'
      exact h.ep i e l hi hl'
     ·
      have hi2 := (List.getElem?_eq_some_iff.1 hi).1
      simp only [List.length_append, List.length_singleton] at hi2
      obtain rfl : i = s.1.eps.length := by omega
      rw [List.getElem?_append_right (Nat.le_refl _), Nat.sub_self] at hi
      rw [List.getElem?_append_right (by rw [h.len]; exact Nat.le_refl _), h.len, Nat.sub_self] at hl'
      cases hi
      cases hl'
      refine ⟨by dsimp only; omega, rfl, Nat.zero_le _, by simp [newPts]; omega, by simp [newPts]; omega, ?_, rfl, fun x hx => (by cases hx)⟩
      intro j p hj
      obtain ⟨_, rfl⟩ := Jhb _ _ _ _ _ _ hj
      exact ⟨rfl, (Jjl _ _ (J1n _ _ _ _)).symm, fun hu => (by cases hu)⟩
    ·
     intro i e hi hlt
     simp only [List.length_append, List.length_singleton] at hlt
     dsimp only at hi
     rw [List.getElem?_append_left (by omega)] at hi
     by_cases h4 : i + 1 < s.1.eps.length
     · exact h.cl i e hi h4
     ·
      have h5 : i = s.1.eps.length - 1 := by omega
      have h6 : s.1.isOpen = false := by simpa using h2
      unfold Mt.isOpen at h6
      rw [List.getLast?_eq_getElem?, ← h5, hi] at h6
      simpa using h6
theorem stepClose {k : Nat} {s : St26} (h : StOk26 k s) (he : (closeM s.1).2 = 0) : StOk26 (k + 1) ((closeM s.1).1, s.2) := by
 unfold closeM at he ⊢
 split at he
 ·
  rename_i h1
  rw [if_pos h1]
  obtain ⟨h0, -⟩ := J36 h1
  have hi : s.1.last < s.1.eps.length := by unfold Mt.last; omega
  obtain ⟨l, hl, hE⟩ := h.at _ hi
  have := J9g h s.1.last { s.1.at s.1.last with closed := true } l hi ⟨hE.log, hE.cnt, hE.le, hE.p1, hE.p4, fun j p hj => ⟨(hE.pt j p hj).1, (hE.pt j p hj).2.1, fun _ => rfl⟩, hE.pk, hE.rd⟩ (fun _ => rfl)
  rwa [J64 _ _ _ hl] at this
 · cases he
theorem Jjm (l : List Nat) (pts : List Pt) (j : Nat) (p : Pt) (h : (useP l pts)[j]? = some p) : ∃ q, pts[j]? = some q ∧ p.R = q.R ∧ p.V = q.V := by
 unfold useP at h
 rw [List.getElem?_mapIdx] at h
 cases hq : pts[j]? with
 | none => rw [hq] at h; cases h
 | some q =>
  rw [hq] at h
  simp only [Option.map_some, Option.some.injEq] at h
  refine ⟨q, rfl, ?_⟩
  rw [← h]
  split <;> exact ⟨rfl, rfl⟩
theorem stepSpend {k : Nat} {s : St26} (h : StOk26 k s) (n : Int) (he : (spendM s.1 n).2.2 = 0) : StOk26 (k + 1) ((spendM s.1 n).1, s.2) := by
 unfold spendM at he ⊢
 split at he
 · cases he
 ·
  split at he
  · cases he
  ·
   split at he
   · cases he
   ·
    rename_i h1 h2 h3
    rw [if_neg h1, if_neg h2, if_neg h3]
    have hi : n.toNat < s.1.eps.length := by omega
    obtain ⟨l, hl, hE⟩ := h.at _ hi
    have hcl : (s.1.at n.toNat).closed = true := by simpa using h2
    have := J9g h n.toNat { s.1.at n.toNat with pts := useP ((freeM (s.1.at n.toNat).pts).take 2) (s.1.at n.toNat).pts } l hi ⟨hE.log, hE.cnt, hE.le, by simp [useP]; exact hE.p1, by simp [useP]; exact hE.p4, fun j p hj => by
     obtain ⟨q, hq, e1, e2⟩ := Jjm _ _ _ _ hj
     obtain ⟨r1, r2, _⟩ := hE.pt j q hq
     exact ⟨e1.trans r1, by rw [e1, e2]; exact r2, fun _ => hcl⟩, hE.pk, hE.rd⟩ (fun _ => hcl)
    rwa [J64 _ _ _ hl] at this
theorem Je9 {k : Nat} {s : St26} (h : StOk26 k s) {l : Stm} (hl : s.2[s.1.last]? = some l) : s.last = l := by
 unfold St26.last
 rw [List.getD_eq_getElem?_getD, h.len]
 unfold Mt.last at hl
 rw [hl]
 rfl
theorem stepTake {k : Nat} {s : St26} (h : StOk26 k s) (r : Rdg) (he : (takeM s.1 r).2 = 0) : StOk26 (k + 1) (s.put (takeM s.1 r).1 (s.last ++ [(r, false)])) := by
 unfold takeM at he ⊢
 split at he
 · cases he
 ·
  split at he
  · cases he
  ·
   split at he
   · cases he
   ·
    rename_i h1 h2 h3
    rw [if_neg h1, if_neg h2, if_neg h3]
    have h1 : r.ok := Decidable.not_not.1 h1
    obtain ⟨h0, ho⟩ := J36 (m := s.1) (by simpa using h2)
    have hi : s.1.last < s.1.eps.length := by unfold Mt.last; omega
    obtain ⟨l, hl, hE⟩ := h.at _ hi
    rw [Je9 h hl]
    unfold St26.put
    rw [h.len]
    have hlt : l.length < 2 ^ (s.1.at s.1.last).log := by
     have := hE.le
     have := hE.cnt
     omega
    refine J9g h s.1.last _ (l ++ [(r, false)]) hi ⟨hE.log, by simp [hE.cnt], by simp; omega, by simp; exact hE.p1, by simp; exact hE.p4, ?_, ?_, ?_⟩ (fun hc => ?_)
    ·
     intro j p hj
     dsimp only at hj
     rw [List.getElem?_map] at hj
     cases hq : (s.1.at s.1.last).pts[j]? with
     | none => rw [hq] at hj; cases hj
     | some q =>
      rw [hq] at hj
      simp only [Option.map_some, Option.some.injEq] at hj
      subst hj
      obtain ⟨r1, r2, r3⟩ := hE.pt j q hq
      refine ⟨r1, ?_, r3⟩
      rw [hE.cnt]
      exact Ji0 _ _ _ _ (by rw [show (addP l.length r.amts q).R = q.R from rfl, r1, J1n]) hlt q rfl r2
    ·
     dsimp only
     rw [List.map_append, Jdk, ← hE.pk, List.length_map, hE.cnt]
     simp only [List.map_cons, List.map_nil, peaksN, Nat.zero_add]
    ·
     intro x hx
     rcases List.mem_append.1 hx with hx | hx
     · exact hE.rd x hx
     ·
      rw [List.mem_singleton.1 hx]
      exact h1
    ·
     unfold Mt.last at hc
     omega
theorem stepRetract {k : Nat} {s : St26} (h : StOk26 k s) (i : Nat) (r : Rdg) (hr : s.last[i]? = some (r, false)) (he : (retractM s.1 (i : Int) r).2 = 0) : StOk26 (k + 1) (s.put (retractM s.1 (i : Int) r).1 (s.last.set i (r, true))) := by
 unfold retractM at he ⊢
 split at he
 · cases he
 ·
  split at he
  · cases he
  ·
   split at he
   · cases he
   ·
    rename_i h1 h2 h3
    rw [if_neg h1, if_neg h2, if_neg h3]
    obtain ⟨h0, ho⟩ := J36 (m := s.1) (by simpa using h2)
    have hi : s.1.last < s.1.eps.length := by unfold Mt.last; omega
    obtain ⟨l, hl, hE⟩ := h.at _ hi
    rw [Je9 h hl] at hr ⊢
    unfold St26.put
    rw [h.len]
    refine J9g h s.1.last _ (l.set i (r, true)) hi ⟨hE.log, by simp [hE.cnt], by simp; exact hE.le, by simp; exact hE.p1, by simp; exact hE.p4, ?_, ?_, ?_⟩ (fun hc => ?_)
    ·
     intro j p hj
     dsimp only at hj
     rw [List.getElem?_map] at hj
     cases hq : (s.1.at s.1.last).pts[j]? with
     | none => rw [hq] at hj; cases hj
     | some q =>
      rw [hq] at hj
      simp only [Option.map_some, Option.some.injEq, Int.toNat_natCast] at hj
      subst hj
      obtain ⟨r1, r2, r3⟩ := hE.pt j q hq
      exact ⟨r1, Ji1 _ _ _ _ _ (by rw [show (addP i [0, 0, 0, 0, -1] q).R = q.R from rfl, r1, J1n]) hE.le hr q rfl r2, r3⟩
    ·
     dsimp only
     rw [hE.pk, List.map_set]
     congr 1
     refine (J64 _ _ _ ?_).symm
     rw [List.getElem?_map, hr]
     rfl
    ·
     intro x hx
     rcases List.mem_or_eq_of_mem_set hx with hx | hx
     · exact hE.rd x hx
     ·
      rw [hx]
      exact hE.rd (r, false) (List.mem_of_getElem? hr)
    ·
     unfold Mt.last at hc
     omega
theorem Jcv {k : Nat} {s : St26} (h : StOk26 k s) (o : Op26) : StOk26 (k + 1) (stepM s o) := by
 have hk := h.mono (Nat.le_succ k)
 unfold stepM
 split
 ·
  split
  · exact stepOpen h _ _ (by omega) (by omega) (by assumption)
  · exact hk
 ·
  split
  · exact stepClose h (by assumption)
  · exact hk
 ·
  split
  · exact stepSpend h _ (by assumption)
  · exact hk
 ·
  split
  ·
   split
   · exact stepRetract h _ _ (by assumption) (by assumption)
   · exact hk
  · exact hk
 ·
  split
  · exact stepTake h _ (by assumption)
  · exact hk
theorem Ja8 : ∀ (l : List Op26) (k : Nat) (s : St26), StOk26 k s → StOk26 (k + l.length) (l.foldl stepM s)
 | [], _, _, h => h
 | o :: l, k, s, h => by
  rw [List.foldl_cons, List.length_cons, show k + (l.length + 1) = k + 1 + l.length by omega]
  exact Ja8 l _ _ (Jcv h o)
theorem Ji2 (seed : Dg) (hs : seed.length = 32 ∧ ∀ x ∈ seed, x < 256) (l : List Op26) : StOk26 25 (playM seed l) :=
 (Ja8 (l.take 25) 0 _ ⟨hs, Nat.le_refl _, rfl, Nat.le_refl _, fun i e l h => (by cases h), fun i e h => (by cases h)⟩).mono (by simp; omega)
end
end Go.Proofs.YtoiampgfnidfdaaGreatDoor
