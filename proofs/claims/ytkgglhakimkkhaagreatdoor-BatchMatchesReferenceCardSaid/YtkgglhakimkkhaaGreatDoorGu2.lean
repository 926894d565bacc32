/-
  The program's SHA-256: the iterator over the blocks of the padded message, by contract.
  The program's SHA-256, whole.
  The program's transcripts: the tagged hash.
  The program's transcripts: the bytes of elements.
  The program's transcripts: absorbing.
-/
import Derived.Test.YtkgglhakimkkhaaGreatDoorCut
import Derived.Deep.RegionHeld3
namespace Go.Proofs.YtkgglhakimkkhaaGreatDoor
open Go.RowKit

theorem elem_u8 : Tryz.prog.elem 92 = 5 := by kernel_rfl
theorem cut_u8 (A : Option Addr) (n cap k : Nat) (hk : k ≤ n) : ∃ A' cap', (∀ w, (Instr.sliceAt 92 (.slice A n cap) (some (.int .i64 (k : Int))) none none).run Tryz.prog w = .ok (.slice A' (n - k) cap') w) ∧
    ∀ lo hi w xs, ByS lo hi w (.slice A n cap) xs → ByS lo hi w (.slice A' (n - k) cap') (xs.drop k) := by
  have ht : Tryz.prog.underlying 92 = some (.slice (Tryz.prog.elem 92)) := by rw [elem_u8]; exact u8_slice
  obtain ⟨iu8, hu8, uz0, uz1, uz2⟩ := info_parts u8_info
  have hsz : ∀ w, (Go.sizeOf 5).run Tryz.prog w = .ok 1 w := fun w => by simp [Go.sizeOf, typeInfo, hu8, uz1]
  refine ⟨if cap = k then A else A.map (·.add (k * 1)), cap - k, fun w => ?_, fun lo hi w xs h => ?_⟩
  · rw [run_sliceAt_slice w _ _ _ _ _ ht, run_slice_l w _ A n cap ht .i64 (k : Int) (by omega) (by omega), elem_u8, hsz]
    simp [Result.andThen, sliced]
  · obtain ⟨h1, h2, A0, cap0, h3, h4, h5⟩ := h
    cases h3
    have hl : (xs.drop k).length = xs.length - k := List.length_drop ..
    refine ⟨by rw [byc_length, Nat.mul_one], by omega, _, _, by rw [hl], by omega, fun h0 => ?_⟩
    obtain ⟨g, off, rfl, q2, q3, q4, q5⟩ := h5 (by omega)
    refine ⟨g, off + k, ?_, q2, q3, q4, fun j u hj => ?_⟩
    · rw [if_neg (by omega)]
      simp only [Option.map_some, Option.some.injEq]
      unfold Addr.add
      by_cases hk0 : k = 0
      · subst hk0; simp
      · rw [if_neg (by omega), Nat.mul_one]
    · rw [Nat.add_assoc]
      refine q5 (k + j) u ?_
      unfold byc at hj ⊢
      rw [List.getElem?_map, List.getElem?_drop] at hj
      rw [List.getElem?_map]
      exact hj
def lzM (D : List Nat) (L m : Nat) : List Nat := padJ D (padZ L) ++ (lenB L).take m
theorem lzM_zero (D : List Nat) (L : Nat) : padJ D (padZ L) = lzM D L 0 := by unfold lzM; simp
theorem lzM_next (D : List Nat) (L m : Nat) (h : m < 8) : lzM D L m ++ [L * 8 / 2 ^ (56 - 8 * m) % 256] = lzM D L (m + 1) := by
  unfold lzM lenB
  rw [List.take_add_one, List.getElem?_map, List.getElem?_range h, List.append_assoc]
  rfl
theorem lzM_all (b : List Nat) : lzM (b.drop (b.length / 64 * 64)) b.length 8 = lastB b := by
  unfold lzM padJ lastB
  rw [List.take_of_length_le (by simp [lenB])]
theorem lzM_len (D : List Nat) (L m : Nat) : (lzM D L m).length ≤ D.length + 1 + padZ L + 8 := by
  unfold lzM lenB
  rw [List.length_append, padJ_len, List.length_take]
  simp
  omega
attribute [local go_sem] Oper.semAt_some
set_option maxRecDepth 100000 in
set_option maxHeartbeats 4000000 in
theorem wBlocks (b : List Nat) (hn : b.length ≤ 1000000) (v : Value) (lo n0 Bs n : Nat) (hn1 : 1 ≤ n) (w : World) (hb : ByS lo n0 w v b) (hn0 : n0 ≤ w.heap.size) (bx : Blk w Bs 92 #[v])
    (S : Nat → Nat → Prop) (hS : ∀ N g, w.heap.size ≤ N → g = Bs ∨ (lo ≤ g ∧ g < n0) ∨ N ≤ g → S N g) :
    SeqM n Tryz.prog 154 #[.pointer (some ⟨Bs, 0, none⟩)] (fun N g => N ≤ g) S 0 ((pad b).length / 64) (fun i x W => ∃ lo hi, ByS lo hi W x (blk64 (pad b) i)) w := fun l J W hW hJ1 hJ2 hY h0 => by
  obtain ⟨A, cap, rfl⟩ := hb.len
  have hop := open_wide Tryz.prog
  have hbW := hb.keep hW
  have bxW := bx.keep hW
  have hn0W : n0 ≤ W.heap.size := Nat.le_trans hn0 hW.size
  obtain ⟨L, hL⟩ : ∃ L, L = b.length := ⟨_, rfl⟩
  rw [← hL] at bxW hbW hn
  have HLn := Lib.hid hL
  have HJ1 := Lib.hid hJ1
  have HJ2 := Lib.hid hJ2
  have HY := Lib.hid hY
  have HV : Hid (ByS lo n0 W (.slice A L cap) b) := Lib.hid hbW
  have HS := Lib.hid (fun g h => hS W.heap.size g hW.size h)
  have hc0 := (bxW.cell 0).trans (show (#[Value.slice A L cap] : Array Value)[0]? = some (.slice A L cap) from rfl)
  have HC0 := Lib.hid hc0
  have hBl := bxW.lt
  have hLc : L ≤ cap := by
    obtain ⟨_, _, A', c', e, h, _⟩ := hbW
    cases e
    omega
  clear hb bx bxW hbW hJ1 hJ2 hY hW hL hS
  refine callsIn_of_wp Tryz.func154 rfl trivial ?_ rfl
  simp only [Tryz.ntmps154, List.size_toArray, List.length_cons, List.length_nil, Nat.reduceAdd, Nat.reduceSub, Array.replicate_succ, Array.replicate_zero, List.push_toArray, List.append_toArray, List.nil_append, List.cons_append]
  gi_wp2_with fail
  obtain ⟨M, hM⟩ : ∃ M, M = L / 64 := ⟨_, rfl⟩
  have hM1 : 64 * M ≤ L := by omega
  have hM2 : L < 64 * M + 64 := by omega
  rw [show (L : Int) / 64 = (M : Int) by omega]
  have HM := Lib.hid hM
  have HN : Hid ((pad b).length / 64 = M + (lastB b).length / 64) := Lib.hid (by rw [blk_count, ← HLn.out, hM])
  clear hM
  have hK0 : Keeps (S W.heap.size) W W := Keeps.refl W
  clear hc0
  gi_loopw [4] (fun i wr => ∃ k : Nat, k ≤ M ∧ i = .int .i64 ((64 * k : Nat) : Int) ∧ J k wr ∧ Keeps (S W.heap.size) W wr) (fun i _ => 64 * M - (intOf i).toNat)
  case atStart => exact ⟨0, Nat.zero_le _, rfl, h0, hK0⟩
  case round =>
    obtain ⟨k, hk, rfl, hJ, hK⟩ := hrel
    clear h0 hK0
    have e1 := hK.cell (HS.out Bs (.inl rfl)) HC0.out
    by_cases hlt : k < M
    · have hVr : ByS lo n0 wr (.slice A L cap) b := Keeps.rd HV.out hK (fun g h1 h2 => HS.out g (.inr (.inl ⟨h1, h2⟩)))
      obtain ⟨g, off, cap', hA, hcl, hg1, hg2, hg3, hcell⟩ := bys_cells hVr (by rw [← HLn.out]; omega)
      have hA1 : A = some ⟨g, off, none⟩ := by injection hA
      subst hA1
      clear hcell hcl hA
      have hcut : ByS lo n0 wr (.slice (some ⟨g, off + 64 * k, none⟩) 64 (cap - 64 * k)) (blk64 (pad b) k) := by
        rw [blk_low b k (by rw [← HLn.out, ← HM.out]; exact hlt)]
        rw [show L = b.length from HLn.out] at hVr
        exact bys_cut hVr (64 * k) 64 (cap - 64 * k) (by rw [← HLn.out]; omega) (by decide) (by omega)
      have hcp : 64 * k + 64 ≤ cap := by omega
      obtain ⟨fn, tmps, assign, body, hy, hR⟩ := HY.out k _ wr hJ (by have := hK.size; omega) (by rw [HN.out]; omega) ⟨_, _, hcut⟩
      clear hcut hJ hVr
      have hwr := hK.size
      gi_wp2_with fail
      refine hR.mono ?_
      rintro e W3 ⟨rfl, hJ3, hk3⟩
      have hK3 := hK.trans hk3
      clear hy hR hk3 hK e1
      gi_wp2_with fail
      exact ⟨⟨k + 1, by omega, by congr 1, hJ3, hK3⟩, by simp [intOf]; omega⟩
    · obtain rfl : k = M := by omega
      gi_upto_region 5 with (fail)
      refine wpIn_wide.2 ?_
      refine wp_region_lit ?_
      obtain ⟨A2, cap2, hcut, hcb⟩ := cut_u8 A L cap (64 * k) hM1
      have hVr : ByS lo n0 wr (.slice A L cap) b := Keeps.rd HV.out hK (fun g h1 h2 => HS.out g (.inr (.inl ⟨h1, h2⟩)))
      have hV2 := hcb _ _ _ _ hVr
      iterate 2 (refine wpList_plain rfl fun K hK => ?_; go_big_op; refine hK _ _ ?_; clear hK K)
      refine wpList_plain rfl fun K2 hK2 => wp_of_step (stepAt_mono (fun v28 w28 hh => ?_) (step_cut (k := .int .i64 ((64 * k : Nat) : Int)) rfl rfl (by show Value.int .i64 ((k : Int) * 64) = _; congr 1; omega) hcut))
      obtain ⟨rfl, B28⟩ := hh
      refine hK2 _ _ ?_
      clear hK2 K2
      try simp only [Act.put, List.setIfInBounds_toArray, List.set_cons_succ, List.set_cons_zero]
      have hdl : (b.drop (64 * k)).length = L - 64 * k := by rw [List.length_drop, ← HLn.out]
      refine wpList_plain rfl fun K3 hK3 => wp_of_step (stepAt_mono (fun v29 w29 hh => ?_) (step_callr en_slices_Clone (gClone (b.drop (64 * k)) (by rw [hdl]; omega) _ lo n0 _ (hV2.keep B28)) rfl rfl))
      obtain ⟨o29, B29⟩ := hh
      refine hK3 _ _ ?_
      clear hK3 K3
      try simp only [Act.put, List.setIfInBounds_toArray, List.set_cons_succ, List.set_cons_zero]
      have hC : Calm W.heap.size (fun A => J k A ∧ Keeps (S W.heap.size) W A) := Calm.and ⟨HJ1.out k, HJ2.out k⟩ (calm_keeps (Nat.le_refl _))
      have hI := hC.up _ _ (hC.up _ _ ⟨hJ, hK⟩ B28) B29
      have hb28 : W.heap.size ≤ w28.heap.size := by have := hK.size; have := B28.size; omega
      have o29' : OwB W.heap.size w29 v29 (b.drop (64 * k)) := ⟨o29.1.1, o29.1.2.imp id fun ⟨g, cap, cur, q1, q2, q3⟩ => ⟨g, cap, cur, q1, Nat.le_trans hb28 q2, q3⟩⟩
      have hb29 : W.heap.size ≤ w29.heap.size := Nat.le_trans hb28 B29.size
      clear hV2 hVr hcb hcut B28 B29 o29 hb28 e1 hJ hK
      refine wpList_pushJ (c := 128) rfl rfl _ _ _ rfl rfl rfl (fun _ => rfl) (fun _ => rfl) o29' hC hI (by rw [hdl]; omega) hb29 fun v30 v31 w31 o31 hI31 hb31 => ?_
      rw [show b.drop (64 * k) ++ [128] = padJ (b.drop (64 * k)) 0 from rfl] at o31
      clear o29' hI hb29
      obtain ⟨D, hD⟩ : ∃ D, D = b.drop (64 * k) := ⟨_, rfl⟩
      rw [← hD] at o31 hdl
      have hDl : D.length = L - 64 * k := hdl
      have hpz : padZ L = padZ D.length := by unfold padZ; rw [hDl]; omega
      have HD := Lib.hid hD
      clear hdl hD
      obtain ⟨A31, c31, rfl⟩ := o31.len
      go_wp2_with fail
      refine wpIn_wide.2 ?_
      go_wp2_with fail
      go_loopw [5] (fun u wr => ∃ j : Nat, j ≤ padZ L ∧ OwB W.heap.size wr u (padJ D j) ∧ (J k wr ∧ Keeps (S W.heap.size) W wr) ∧ W.heap.size ≤ wr.heap.size) (fun u _ => 100000000 - slen u)
      case atStart => exact ⟨0, Nat.zero_le _, o31, hI31, hb31⟩
      case round =>
        clear o31 hI31 hb31
        obtain ⟨j, hj, ho, hI, hbs⟩ := hrel
        obtain ⟨A3, c3, rfl⟩ := ho.len
        have hlen := padJ_len D j
        have hz := padZ_iff D.length j (by rw [← hpz]; exact hj)
        rw [← hlen] at hz
        have hsm : (padJ D j).length ≤ 1000100 := by have := padZ_lt L; omega
        by_cases hlt : j < padZ L
        · have hmod : (padJ D j).length % 64 ≠ 56 := fun h => by have := hz.1 h; omega
          obtain ⟨E, hE⟩ : ∃ E, E = (padJ D j).length := ⟨_, rfl⟩
          rw [← hE] at hmod hsm ⊢
          clear hz hlen
          go_upto_region 7 with (fail)
          refine wp_region_lit ?_
          iterate 1 (refine wpList_plain rfl fun K hK => ?_; go_big_op; refine hK _ _ ?_; clear hK K)
          rw [hE]
          rw [hE] at hsm
          refine wpList_pushJ (c := 0) rfl rfl _ _ _ rfl rfl rfl (fun _ => rfl) (fun _ => rfl) ho hC hI (by omega) hbs fun v5 v6 w6 o6 hI6 hb6 => ?_
          rw [padJ_next] at o6
          clear ho hI hbs
          obtain ⟨A6, c6, rfl⟩ := o6.len
          go_wp2_with fail
          have hl6 := padJ_len D (j + 1)
          have hl5 := padJ_len D j
          exact ⟨⟨j + 1, by omega, o6, hI6, hb6⟩, by simp [slen]; omega⟩
        · have hmod : (padJ D j).length % 64 = 56 := hz.2 (by omega)
          obtain rfl : j = padZ L := by omega
          have hpl := padZ_lt L
          rw [lzM_zero] at ho hsm hmod ⊢
          obtain ⟨E, hE⟩ : ∃ E, E = (lzM D L 0).length := ⟨_, rfl⟩
          rw [← hE] at hmod hsm ⊢
          have e1 := hI.2.cell (HS.out Bs (.inl rfl)) HC0.out
          have HE := Lib.hid hE
          clear hz hlen hE
          have hbn : ((E : Int) % 64 != 56) = false := by
            rw [show (E : Int) % 64 = 56 by omega]
            rfl
          go_wp2_with fail
          try rw [hbn]
          clear hbn e1
          go_loopw [5, 7] (fun u i wr => ∃ m : Nat, m ≤ 8 ∧ i = .int .i64 (56 - 8 * (m : Int)) ∧ OwB W.heap.size wr u (lzM D L m) ∧ (J k wr ∧ Keeps (S W.heap.size) W wr) ∧ W.heap.size ≤ wr.heap.size) (fun _ i _ => (intOf i + 8).toNat)
          case atStart => exact ⟨0, Nat.zero_le _, rfl, by rw [HE.out]; exact ho, hI, hbs⟩
          case round =>
            clear ho hI hbs
            obtain ⟨m, hm, rfl, ho, hI, hbs⟩ := hrel
            obtain ⟨A5, c5, rfl⟩ := ho.len
            have hlm := lzM_len D L m
            by_cases hlt : m < 8
            · obtain ⟨t, ht⟩ : ∃ t, t + 8 * m = 56 := ⟨56 - 8 * m, by omega⟩
              have hnx := lzM_next D L m hlt
              rw [show 56 - 8 * m = t by omega] at hnx
              rw [show (56 : Int) - 8 * (m : Int) = (t : Int) by omega]
              have ht56 : t ≤ 56 := by omega
              have HX := Lib.hid hnx
              have HT := Lib.hid ht
              clear hnx ht
              go_upto_region 12 with (fail)
              refine wp_region_lit ?_
              iterate 5 (refine wpList_plain rfl fun K hK => ?_; go_big_op; refine hK _ _ ?_; clear hK K)
              refine wpList_pushJ (c := L * 8 / 2 ^ t % 256) rfl rfl _ _ _ rfl rfl (by simp [Act.eval]) (fun _ => rfl) (fun _ => rfl) ho hC hI (by omega) hbs fun v5 v6 w6 o6 hI6 hb6 => ?_
              rw [HX.out] at o6
              clear ho hI hbs
              obtain ⟨A6, c6, rfl⟩ := o6.len
              go_wp2_with fail
              have htt := HT.out
              exact ⟨⟨m + 1, by omega, by congr 1; omega, o6, hI6, hb6⟩, by simp [intOf]; omega⟩
            · obtain rfl : m = 8 := by omega
              rw [show (56 : Int) - 8 * ((8 : Nat) : Int) = -8 by decide]
              have hD8 : lzM D L 8 = lastB b := by
                rw [← lzM_all b, ← HLn.out, HD.out, HM.out, Nat.mul_comm]
              rw [hD8] at ho ⊢
              obtain ⟨hl1, hl2, hl3⟩ := lastB_64 b
              obtain ⟨N2, hN2⟩ : ∃ N2, (lastB b).length = 64 * N2 := ⟨(lastB b).length / 64, by omega⟩
              have hN2s : N2 ≤ 2 := by omega
              have HNk : Hid ((pad b).length / 64 = k + N2) := Lib.hid (by rw [HN.out, hN2]; omega)
              have HN2 := Lib.hid hN2
              have HO := Lib.hid ho
              rw [hN2]
              have hc5 : 64 * N2 ≤ c5 := by
                rcases ho.2 with ⟨h, _⟩ | ⟨g, cap, cur, h, _, _, hq, _⟩
                · injection h with h1 h2 h3
                  omega
                · injection h with h1 h2 h3
                  omega
              clear hl1 hl2 hl3 hN2 hlm hlt hm hD8 ho
              go_wp2_with fail
              refine (wpIn_wide (n := n)).1 ?_
              gi_loopw [8] (fun i wr => ∃ j : Nat, j ≤ N2 ∧ i = .int .i64 ((64 * j : Nat) : Int) ∧ OwB W.heap.size wr (.slice A5 (lastB b).length c5) (lastB b) ∧ J (k + j) wr ∧ Keeps (S W.heap.size) W wr) (fun i _ => 64 * N2 - (intOf i).toNat)
              case atStart => exact ⟨0, Nat.zero_le _, rfl, HO.out, hI.1, hI.2⟩
              case round =>
                clear hI hbs
                obtain ⟨j, hj, rfl, ho, hJ, hK⟩ := hrel
                by_cases hlt : j < N2
                · have hby : ByS W.heap.size wr.heap.size wr (.slice A5 (lastB b).length c5) (lastB b) := ho.bys (by rw [HN2.out]; omega) (Nat.le_refl _)
                  obtain ⟨g, off, cap', hA, hcl, hg1, hg2, hg3, hcell⟩ := bys_cells hby (by rw [HN2.out]; omega)
                  have hA1 : A5 = some ⟨g, off, none⟩ := by injection hA
                  subst hA1
                  clear hcell hcl hA
                  have hcut : ByS W.heap.size wr.heap.size wr (.slice (some ⟨g, off + 64 * j, none⟩) 64 (c5 - 64 * j)) (blk64 (pad b) (k + j)) := by
                    have e := blk_high b j
                    rw [← HLn.out, ← HM.out] at e
                    rw [e]
                    exact bys_cut hby (64 * j) 64 (c5 - 64 * j) (by rw [HN2.out]; omega) (by decide) (by omega)
                  have hcp : 64 * j + 64 ≤ c5 := by omega
                  obtain ⟨fn, tmps, assign, body, hy, hR⟩ := HY.out (k + j) _ wr hJ (by have := hK.size; omega) (by rw [HNk.out]; omega) ⟨_, _, hcut⟩
                  clear hcut hJ hby
                  have HO1 := Lib.hid ho
                  clear ho HO
                  gi_wp2_with fail
                  refine hR.mono ?_
                  rintro e W3 ⟨rfl, hJ3, hk3⟩
                  have hK3 := hK.trans hk3
                  have o3 := own_keeps HO1.out hk3 (fun g hg => HS.out g (.inr (.inr hg)))
                  have HO3 := Lib.hid o3
                  clear hy hR hk3 hK o3
                  gi_wp2_with fail
                  exact ⟨⟨j + 1, by omega, by congr 1, HO3.out, hJ3, hK3⟩, by simp [intOf]; omega⟩
                · obtain rfl : j = N2 := by omega
                  gi_wp2
                  go_end0
                  exact ⟨⟨_, rfl⟩, by rw [HNk.out]; exact hJ⟩
end Go.Proofs.YtkgglhakimkkhaaGreatDoor
namespace Go.Proofs.YtkgglhakimkkhaaGreatDoor
open Go.RowKit

theorem byS_put {lo hi g : Nat} {W : World} {x : Value} {l : List Nat} (h : ByS lo hi W x l) (h0 : 0 < l.length) (o : Obj) (L : Loop) (hl : W.heap[g]? = some (.loop L)) : ByS lo hi (W.putObj g o) x l := by
  obtain ⟨h1, h2, A, cap, h3, h4, h5⟩ := h
  refine ⟨h1, h2, A, cap, h3, h4, fun h0' => ?_⟩
  obtain ⟨b, off, q1, q2, q3, q4, q5⟩ := h5 h0'
  have hne : g ≠ b := by
    intro e
    subst e
    obtain ⟨u, hu⟩ : ∃ u, (byc l)[0]? = some u := ⟨_, List.getElem?_eq_getElem (by rw [byc_length]; exact h0)⟩
    have := q5 0 u hu
    unfold World.cell? at this
    rw [hl] at this
    cases this
  exact ⟨b, off, q1, q2, q3, by simpa using q4, fun j u hu => (World.cell?_of_block (w := W) (a := ⟨b, off + j, none⟩) (World.putObj_heap_other (r := g) (k := b) (by omega))).trans (q5 j u hu)⟩
theorem bys_base {lo hi : Nat} {w : World} {v : Value} {l : List Nat} (h : ByS lo hi w v l) : ByS 0 w.heap.size w v l := by
  obtain ⟨h1, h2, A, cap, h3, h4, h5⟩ := h
  refine ⟨h1, h2, A, cap, h3, h4, fun h0 => ?_⟩
  obtain ⟨g, off, q1, q2, q3, q4, q5⟩ := h5 h0
  exact ⟨g, off, q1, Nat.zero_le _, q4, q4, q5⟩
def dgK (s : S8) (n : Nat) : List Value := arrB 32 ((digL s).take n)
theorem dgK_zero (s : S8) : dgK s 0 = zb 32 := by unfold dgK; rw [List.take_zero, arrB_zero]
theorem dgK_all (s : S8) : dgK s 32 = byc (digL s) := by
  unfold dgK
  rw [List.take_of_length_le (by rw [digL_length]; exact Nat.le_refl _), arrB_full 32 _ (digL_length s)]
theorem dgK_next (s : S8) (i k : Nat) (hi : i < 8) (hk : k < 4) : (dgK s (4 * i + k)).set (4 * i + k) (.int .u8 (((s.get i).toNat / 2 ^ (24 - 8 * k) % 256 : Nat) : Int)) = dgK s (4 * i + k + 1) := by
  have hl : ((digL s).take (4 * i + k)).length = 4 * i + k := by rw [List.length_take, digL_length]; omega
  have hd : digK s (4 * i + k) = (s.get i).toNat / 2 ^ (24 - 8 * k) % 256 := by
    unfold digK S8.get
    rw [show (4 * i + k) / 4 = i by omega, show (4 * i + k) % 4 = k by omega]
  unfold dgK
  rw [digL_take s (4 * i + k) (by omega), ← arrB_set 32 _ _ (by omega), hl, hd]
theorem dgK_at (s : S8) (n : Nat) (h : n < 32) : (dgK s n)[n]? = some (.int .u8 0) := by
  have hl : ((digL s).take n).length = n := by rw [List.length_take, digL_length]; omega
  have := arrB_next 32 ((digL s).take n) (by omega)
  rwa [hl] at this
theorem en_attestor_sha256_Sum : ∀ args w, (callFunc 136 args).run Tryz.prog w = .ok (.enter 136 args) w := enters_of Tryz.func136 (by kernel_rfl) rfl
attribute [local go_sem] Oper.semAt_some
set_option maxRecDepth 100000 in
set_option maxHeartbeats 4000000 in
theorem gSum (b : List Nat) (hn : b.length ≤ 1000000) (hb8 : ∀ x ∈ b, x < 256) (v : Value) (lo hi : Nat) (w : World) (hL : Lsh w) (h : ByS lo hi w v b) : Calls Tryz.prog 136 #[v] w (Ret (dgv (sha b)) w) := by
  have h00 : ByS 0 w.heap.size w v b := bys_base h
  obtain ⟨A, cap, rfl⟩ := h.len
  have HV := Lib.hid h00
  have HN := Lib.hid hn
  have H8 := Lib.hid (pad_lt b hb8)
  have HL := Lib.hid hL
  have hL2 := hL.sz
  obtain ⟨L, hLe⟩ : ∃ L, L = b.length := ⟨_, rfl⟩
  have HLe := Lib.hid hLe
  rw [← hLe]
  rw [← hLe] at HV
  clear h h00 hn hb8 hLe hL
  obtain ⟨ist, hist, sz0, sz1, sz2⟩ := info_parts st_info
  refine (callsIn_wide (n := 3)).1 ?_
  refine callsIn_of_wp_marks Tryz.func136 rfl trivial ?_ rfl
  simp only [Tryz.ntmps136, List.size_toArray, List.length_cons, List.length_nil, Nat.reduceAdd, Nat.reduceSub, Array.replicate_succ, Array.replicate_zero, List.push_toArray, List.append_toArray, List.nil_append, List.cons_append]
  gi_upto_region 1 with (fail)
  refine stk1 (M := fun W => Code.wpIn _ _ _ _ _ _ W) fun W hB hz b1 => ?_
  obtain ⟨cs0, hcs0, b2'⟩ : ∃ cs : Array Value, cs.size = 32 ∧ Blk W w.heap.size 58 cs := ⟨_, rfl, b1⟩
  have hWs : W.heap.size = w.heap.size + 1 := hz.out
  clear b1 hz
  refine wpIn_wide.2 ?_
  refine wp_region_lit ?_
  refine wpList_plain rfl fun K1 hK1 => wp_of_step (stepAt_mono (fun v9 w9 hh => ?_) (step_loadR0 (cs := init8.cells) w8_under rfl w8_size rfl rfl (HL.out.keep (hB.mono (Nat.le_refl _))).i8))
  obtain ⟨rfl, rfl⟩ := hh
  refine hK1 _ _ ?_
  clear hK1 K1
  try simp only [Act.put, List.setIfInBounds_toArray, List.set_cons_succ, List.set_cons_zero]
  refine wpList_plain rfl fun K2 hK2 => wp_of_step (stepAt_mono (fun v3 w3 hh => ?_) (step_new0 hist sz0 rfl))
  obtain ⟨rfl, rfl⟩ := hh
  refine hK2 _ _ ?_
  clear hK2 K2
  try simp only [Act.put, List.setIfInBounds_toArray, List.set_cons_succ, List.set_cons_zero]
  have b3 : Blk (w9.alloc (.cells (Value.agg (List.replicate 8 (Value.int .u32 0)).toArray).cells 159)) w9.heap.size 159 (List.replicate 8 (Value.int .u32 0)).toArray := World.alloc_heap_new w9 _
  have BA := (Below.refl _ w9).alloc (Nat.le_refl _) (.cells (Value.agg (List.replicate 8 (Value.int .u32 0)).toArray).cells 159)
  refine wpList_put rfl 159 (.tmp 3) (.tmp 9) rfl rfl (cells := init8.cells) rfl b3 (by simp [S8.cells]) st_size (s8_one _) (spl_all _ _ (by simp [S8.cells])) fun X hX bX => ?_
  have b2X := hX.blk (b2'.keep BA) (by omega)
  have hBX := below_put (hB.trans (BA.mono hB.size)) hX (by omega)
  have hXs : X.heap.size = w.heap.size + 1 + 1 := by rw [hX.size]; simp; omega
  rw [hWs] at bX ⊢
  clear b3 BA hX hB b2' sz0 sz1 sz2 hist
  go_wp2_with fail
  gi_wp2_with fail
  refine ⟨trivial, (callsIn_wide.2 (gBlocks A L cap X)).mono ?_⟩
  rintro e w2 ⟨rfl, rfl⟩
  gi_wp2_with fail
  refine stk1 (M := fun W => Code.wpIn _ _ _ _ _ _ W) fun Y hBY hzY c1 => ?_
  have hYs : Y.heap.size = w.heap.size + 1 + 1 + 1 := by rw [hzY.out, hXs]
  rw [hXs] at c1
  have b3Y := bX.keep hBY
  have b2Y := b2X.keep hBY
  have hBw := hBX.trans (hBY.mono hBX.size)
  have HVY := Lib.hid (HV.out.keep hBw)
  clear hzY bX b2X hBY hBX
  have hAv : ∀ N g, Y.heap.size ≤ N → g = w.heap.size + 1 + 1 ∨ (0 ≤ g ∧ g < w.heap.size) ∨ N ≤ g → (g ≠ w.heap.size + 1 ∧ (g + 1 ≠ N ∨ g < Y.heap.size)) := fun N g hN hg => by omega
  refine wpIn_seqM (Av := fun i x W => ∃ lo hi, ByS lo hi W x (blk64 (pad b) i)) (N := (pad b).length / 64) (k := 0) (Own := fun N g => N ≤ g) (S := fun N g => g ≠ w.heap.size + 1 ∧ (g + 1 ≠ N ∨ g < Y.heap.size)) (w0 := Y)
    (wBlocks b HN.out (.slice A L cap) 0 w.heap.size (w.heap.size + 1 + 1) 2 (by decide) Y HVY.out (by omega) c1 _ hAv) (Below.refl _ _) (by decide) rfl (enters_of Tryz.func154 (by kernel_rfl) rfl) (fun g hg => by omega) (fun g hg => by omega)
    (fun s V => Blk V (w.heap.size + 1) 159 (shaK (pad b) s).cells.toArray ∧ Blk V w.heap.size 58 cs0 ∧ Below w.heap.size w V ∧ Y.heap.size ≤ V.heap.size)
    ?hI1 ?hI2 ?hI3 ?h0 (fun i x a' V => (∃ lo hi, ByS lo hi V x (blk64 (pad b) i)) ∧ a' = { tmps := (#[.slice A L cap, undef, .pointer (some ⟨w.heap.size, 0, none⟩), .pointer (some ⟨w.heap.size + 1, 0, none⟩), x, undef, undef, undef, undef, .agg init8.cells.toArray, .slice A L cap, .func (.func 154) #[] #[.pointer (some ⟨w.heap.size + 1 + 1, 0, none⟩)], x, undef, undef, undef, undef, undef, undef, undef, undef, undef, undef, undef, undef, undef, undef, undef, undef, undef, undef, undef, undef, undef, undef, undef, undef] : Array Value), defers := [] }) ?hAx ?assign ?body ?done
  case hI1 => exact fun s A B h hb => ⟨h.1.keep hb, h.2.1.keep hb, h.2.2.1.trans (hb.mono h.2.2.1.size), Nat.le_trans h.2.2.2 hb.size⟩
  case hI2 => exact fun s A B g hg h hp => ⟨hp.blk h.1 (by omega), hp.blk h.2.1 (by omega), below_put h.2.2.1 hp (by omega), by rw [hp.size]; exact h.2.2.2⟩
  case hI3 => exact fun s V o h => ⟨(World.putObj_heap_other (by omega)).trans h.1, (World.putObj_heap_other (by omega)).trans h.2.1, below_putObj h.2.2.1 _ o (by omega), by simpa using h.2.2.2⟩
  case h0 => exact ⟨b3Y, b2Y, hBw, Nat.le_refl _⟩
  case hAx =>
    rintro i x a' V o lp hlp ⟨⟨lo', hi', hby⟩, rfl⟩
    by_cases h0 : 0 < (blk64 (pad b) i).length
    · exact ⟨⟨lo', hi', byS_put hby h0 o lp hlp⟩, rfl⟩
    · refine ⟨⟨lo', hi', ?_⟩, rfl⟩
      obtain ⟨q1, q2, A', c', q3, q4, q5⟩ := hby
      exact ⟨q1, q2, A', c', q3, q4, fun h => absurd h h0⟩
  case assign =>
    intro l i x V K hV hx hK
    simp only [List.setIfInBounds_toArray, List.set_cons_succ, List.set_cons_zero]
    gi_wp2_with fail
    obtain ⟨lo', hi', hby⟩ := hx
    exact hK _ _ (Below.refl _ _) ⟨⟨lo', hi', hby⟩, rfl⟩
  case body =>
    rintro l pre x V a' ⟨q1, q2, q3, q4⟩ hV ⟨⟨lo', hi', hby⟩, rfl⟩ hpre
    have hop := open_round (open_wide Tryz.prog) l
    gi_wp2_with fail
    have hpl : (blk64 (pad b) pre).length = 64 := blk64_len _ _ (by have := pad_64 b; omega)
    refine ⟨trivial, (callsIn_of_calls hop.all (hop.fn _) (gCompress (shaK (pad b) pre) (blk64 (pad b) pre) hpl (fun y hy => H8.out y (List.mem_of_mem_drop (List.mem_of_mem_take hy))) x lo' hi' (w.heap.size + 1) _ V (HL.out.below q3 hL2) q1 hby)).mono ?_⟩
    rintro e W3 ⟨rfl, hb3, hM⟩
    gi_wp2_with fail
    exact ⟨⟨hM.size, fun g hg hl => hM.other g hl (by omega)⟩, hb3, (hM.other _ q2.lt (by omega)).trans q2, ⟨hM.os.trans q3.os, hM.tape.trans q3.tape, hM.output.trans q3.output, Nat.le_trans q3.size hM.size, fun k hk => (hM.other k (Nat.lt_of_lt_of_le hk q3.size) (by omega)).trans (q3.block k hk)⟩, by have := hM.size; omega⟩
  case done =>
    intro D V hD ⟨q1, q2, q3, q4⟩ hK
    have HS := Lib.hid (show sha b = digL (shaK (pad b) ((pad b).length / 64)) from rfl)
    generalize shaK (pad b) ((pad b).length / 64) = s at *
    have hDl : D < V.heap.size := (Array.getElem?_eq_some_iff.1 hK).1
    have hDw : w.heap.size + 1 < D := by rw [hD.out]; omega
    gi_upto_region 6 with (fail)
    refine stk1 (M := fun W => Code.wpIn _ _ _ _ _ _ W) fun Z hBZ hzZ b5 => ?_
    have b5' : Blk Z V.heap.size 58 (dgK s 0).toArray := by rw [dgK_zero]; exact b5
    have q1Z := q1.keep hBZ
    have q2Z := q2.keep hBZ
    have hBw := q3.trans (hBZ.mono q3.size)
    have hKZ : Z.heap[D]? = some (.deferred (some [])) := (hBZ.block D hDl).trans hK
    have hgw : w.heap.size ≤ V.heap.size := q3.size
    obtain ⟨g5, hg5⟩ : ∃ g, g = V.heap.size := ⟨_, rfl⟩
    rw [← hg5] at b5' hDl hgw ⊢
    clear b5 hzZ hBZ q1 q2 q3 q4 hK hg5
    refine wpIn_wide.2 ?_
    refine wp_region_lit ?_
    refine wpList_plain rfl fun K3 hK3 => wp_of_step (stepAt_mono (fun v15 w15 hh => ?_) (step_loadR0 (cs := s.cells) st_under rfl st_size rfl rfl (blk_range q1Z)))
    obtain ⟨rfl, rfl⟩ := hh
    refine hK3 _ _ ?_
    clear hK3 K3
    try simp only [Act.put, List.setIfInBounds_toArray, List.set_cons_succ, List.set_cons_zero]
    clear q1Z
    go_wp2_with fail
    gi_wp2_with fail
    gi_loopw [16] (fun i wr => ∃ k : Nat, k ≤ 8 ∧ i = .int .i64 k ∧ Blk wr g5 58 (dgK s (4 * k)).toArray ∧ Blk wr w.heap.size 58 cs0 ∧ Below w.heap.size w wr ∧ wr.heap[D]? = some (.deferred (some []))) (fun i _ => 8 - (intOf i).toNat)
    case atStart => exact ⟨0, Nat.zero_le _, rfl, b5', q2Z, hBw, hKZ⟩
    case round =>
      clear b5' q2Z hBw hKZ
      obtain ⟨k, hk, rfl, b5, b2, hBr, hKr⟩ := hrel
      by_cases hlt : k < 8
      · have hix := run_ix8 s k hlt
        gi_wp2_with fail
        gi_loopw [20] (fun i wr => ∃ j : Nat, j ≤ 4 ∧ i = .int .i64 j ∧ Blk wr g5 58 (dgK s (4 * k + j)).toArray ∧ Blk wr w.heap.size 58 cs0 ∧ Below w.heap.size w wr ∧ wr.heap[D]? = some (.deferred (some []))) (fun i _ => 4 - (intOf i).toNat)
        case atStart => exact ⟨0, Nat.zero_le _, rfl, b5, b2, hBr, hKr⟩
        case round =>
          clear b5 b2 hBr hKr hix
          obtain ⟨j, hj, rfl, b5, b2, hBr, hKr⟩ := hrel
          by_cases hlj : j < 4
          · have e1 := b5.frozen
            have e2 : wr.cell? ⟨g5, 4 * k + j, none⟩ = some (.int .u8 0) := (b5.cell (4 * k + j)).trans (by rw [List.getElem?_toArray]; exact dgK_at s (4 * k + j) (by omega))
            obtain ⟨x, hx⟩ : ∃ x, x = s.get k := ⟨_, rfl⟩
            rw [← hx]
            have HX := Lib.hid hx
            clear hx
            gi_wp2_with fail
            refine ⟨⟨j + 1, by omega, by go_num, ?_⟩, by simp [intOf]; omega⟩
            refine set1 (M := fun W => Blk W g5 58 (dgK s (4 * k + (j + 1))).toArray ∧ Blk W w.heap.size 58 cs0 ∧ Below w.heap.size w W ∧ W.heap[D]? = some (.deferred (some []))) b5 fun X hX bX => ⟨?_, hX.blk b2 (by omega), below_put hBr hX hgw, (hX.other D (by omega)).trans hKr⟩
            rw [dig_val, HX.out, List.setIfInBounds_toArray, dgK_next s k j hlt hlj] at bX
            exact bX
          · obtain rfl : j = 4 := by omega
            gi_wp2_with fail
            exact ⟨⟨k + 1, by omega, by go_num, by rw [show 4 * (k + 1) = 4 * k + 4 by omega]; exact b5, b2, hBr, hKr⟩, by simp [intOf]; omega⟩
      · obtain rfl : k = 8 := by omega
        rw [show 4 * 8 = 32 by decide, dgK_all, ← HS.out] at b5
        gi_upto_region 15 with (fail)
        refine wpIn_wide.2 ?_
        refine wp_carry 58 (byc (sha b)) _ _ _ _ rfl rfl rfl rfl b32_under rfl (by rw [b32_size, byc_length, sha_length]) (byc_all _) rfl (fun _ => rfl) (fun _ => rfl) b5 b2 (by rw [hcs0, byc_length, sha_length]) fun X v hX bX => ?_
        have hBX : Below w.heap.size w X := below_put hBr hX (Nat.le_refl _)
        have hKX : X.heap[D]? = some (.deferred (some [])) := (hX.other D (by omega)).trans hKr
        gi_wp2_with fail
        refine ⟨by simp, .inl ⟨_, _, rfl, run_takeDeferred hKX, ?_⟩⟩
        have bX' : Blk (X.putObj D (.deferred none)) w.heap.size 58 (byc (sha b)).toArray := (World.putObj_heap_other (by omega)).trans bX
        exact ⟨dgv (sha b), res_row (g := w.heap.size) rfl rfl b32_under rfl (by rw [b32_size, byc_length, sha_length]) bX', rfl, below_putObj hBX D _ (by omega)⟩
end Go.Proofs.YtkgglhakimkkhaaGreatDoor
namespace Go.Proofs.YtkgglhakimkkhaaGreatDoor
open Go.RowKit

theorem bys_tsc {W : World} {g lo hi : Nat} {t : TypeId} {st : List Nat} {cnt : Nat} (h : Blk W g t (tsc st cnt).toArray) (hst : st.length = 32) (hlo : lo ≤ g) (hhi : g < hi) : ByS lo hi W (.slice (some ⟨g, 0, none⟩) 32 32) st := by
  refine ⟨by rw [byc_length]; omega, by omega, some ⟨g, 0, none⟩, 32, by rw [hst], by omega, fun _ => ⟨g, 0, rfl, hlo, hhi, h.lt, fun j u hu => tsc_state h j u hu⟩⟩
theorem en_attestor_transcript_tagged : ∀ args w, (callFunc 116 args).run Tryz.prog w = .ok (.enter 116 args) w := enters_of Tryz.func116 (by kernel_rfl) rfl
attribute [local irreducible] wpRg
set_option maxRecDepth 100000 in
set_option maxHeartbeats 4000000 in
theorem gTagged (st : List Nat) (cnt tag : Nat) (hst : StOk st) (htag : tag < 256) (b : ByteArray) (hb : b.size ≤ 200) (ps : List (List Nat)) (hp : ps.length ≤ 1000) (hps : ps.flatten.length ≤ 400000) (hp8 : ∀ x ∈ ps.flatten, x < 256) (v : Value) (lo hi : Nat) (w : World) (hL : Lsh w) (h : BylS lo hi w v ps) :
    Calls Tryz.prog 116 #[tsV st cnt, .int .u8 (tag : Int), .string b, v] w (Ret (dgv (sha (tagL st tag (stB b) ps.flatten))) w) := by
  obtain ⟨S, hS⟩ : ∃ S, S = tsV st cnt := ⟨_, rfl⟩
  rw [← hS]
  obtain ⟨A, cap, rfl⟩ := h.len
  have hlb : (stB b).length = b.size := stB_len b
  have HT8 := Lib.hid (tagL_lt st (stB b) ps.flatten tag hst.lt htag (by omega) (stB_lt b) hp8)
  have HTL := Lib.hid (tagL_len st (stB b) ps.flatten tag)
  have HLB := Lib.hid hlb
  have HST := Lib.hid hst
  have HSZ := Lib.hid hb
  have HV := Lib.hid h
  have HPS := Lib.hid hps
  have HL := Lib.hid hL
  clear hst h hps hL hlb hp8
  go_enter Tryz.func116, Tryz.ntmps116
  go_upto_region 1 with (fail)
  refine wp_stk2 fun W hB hz b1 b2 => ?_
  have b1' : Blk W w.heap.size 60 (tsc st cnt).toArray := by first | exact b1 | (rw [hS] at b1; exact b1)
  obtain ⟨cs0, hcs0, b2'⟩ : ∃ cs : Array Value, cs.size = 32 ∧ Blk W (w.heap.size + 1) 58 cs := ⟨_, rfl, b2⟩
  have hWs : W.heap.size = w.heap.size + 1 + 1 := hz.out
  clear b1 b2 hz
  have hsl := bys_tsc (lo := 0) (hi := W.heap.size) b1' HST.out.len (Nat.zero_le _) b1'.lt
  refine wp_region_lit ?_
  iterate 2 (refine wpList_plain rfl fun K hK => ?_; go_big_op; refine hK _ _ ?_; clear hK K)
  refine wpList_plain rfl fun K2 hK2 => wp_of_step (stepAt_mono (fun v12 w12 hh => ?_) (step_callr en_slices_Clone (gClone st (by rw [HST.out.len]; decide) _ 0 _ W hsl) rfl rfl))
  obtain ⟨o12, B12⟩ := hh
  refine hK2 _ _ ?_
  clear hK2 K2
  try simp only [Act.put, List.setIfInBounds_toArray, List.set_cons_succ, List.set_cons_zero]
  have b12 := b2'.keep B12
  have hB12 := hB.trans (B12.mono hB.size)
  iterate 4 (refine wpList_plain rfl fun K hK => ?_; go_big_op; refine hK _ _ ?_; clear hK K)
  refine wpList_plain rfl fun K4 hK4 => wp_of_step (stepAt_mono (fun v17 w17 hh => ?_) (step_litB [tag, b.size] rfl (by simp) (by simp) rfl (by simp [Act.eval, Act.put, byc])))
  obtain ⟨s17, B17⟩ := hh
  refine hK4 _ _ ?_
  clear hK4 K4
  try simp only [Act.put, List.setIfInBounds_toArray, List.set_cons_succ, List.set_cons_zero]
  have b17 := b12.keep B17
  have hB17 := hB12.trans (B17.mono hB12.size)
  have hsz17 : W.heap.size ≤ w17.heap.size := by have := B12.size; have := B17.size; omega
  refine wpList_cat rfl _ _ rfl rfl rfl s17 (o12.1.keep B17) (by rw [HST.out.len]; decide) (by simp) hsz17 fun v18 w18 o18 B18 => ?_
  have b18 := b17.below B18 (by omega)
  have hB18 := hB17.trans (B18.mono (by omega))
  have hsz18 : W.heap.size ≤ w18.heap.size := by have := B18.size; omega
  clear b12 b17 hB12 hB17 B12 B17 B18 s17 o12 hsz17 hsl b1' b2'
  go_upto_region 2 with (fail)
  refine wp_region_lit ?_
  try simp only [Act.put, List.setIfInBounds_toArray, List.set_cons_succ, List.set_cons_zero]
  iterate 2 (refine wpList_plain rfl fun K hK => ?_; go_big_op; refine hK _ _ ?_; clear hK K)
  refine wpList_catS rfl _ _ rfl rfl rfl o18 (by simp [HST.out.len]) (by omega) hsz18 fun v21 w21 o21 B21 => ?_
  have b21 := b18.below B21 (by omega)
  have hB21 := hB18.trans (B21.mono (by omega))
  have hsz21 : W.heap.size ≤ w21.heap.size := by have := B21.size; omega
  clear b18 hB18 hsz18 B21 o18
  go_upto_region 3 with (fail)
  refine wp_region_lit ?_
  try simp only [Act.put, List.setIfInBounds_toArray, List.set_cons_succ, List.set_cons_zero]
  iterate 2 (refine wpList_plain rfl fun K hK => ?_; go_big_op; refine hK _ _ ?_; clear hK K)
  refine wpList_plain rfl fun K9 hK9 => wp_of_step (stepAt_mono (fun v24 w24 hh => ?_) (step_callr en_slices_Concat (gConcat ps (by have := HPS.out; omega) (by omega) _ lo hi _ (HV.out.keep hB21)) rfl rfl))
  obtain ⟨o24, B24⟩ := hh
  refine hK9 _ _ ?_
  clear hK9 K9
  try simp only [Act.put, List.setIfInBounds_toArray, List.set_cons_succ, List.set_cons_zero]
  have b24 := b21.keep B24
  have hB24 := hB21.trans (B24.mono hB21.size)
  have hsz24 : W.heap.size ≤ w24.heap.size := by have := B24.size; omega
  refine wpList_cat rfl _ _ rfl rfl rfl (o24.1.bys (by have := HPS.out; omega) (Nat.le_refl _)) (o21.keep B24) (by simp [HST.out.len, HLB.out]; omega) (by have := HPS.out; omega) hsz24 fun v25 w25 o25 B25 => ?_
  rw [show st ++ [tag, b.size] ++ stB b ++ ps.flatten = tagL st tag (stB b) ps.flatten by unfold tagL; rw [HLB.out]] at o25
  have b25 := b24.below B25 (by omega)
  have hB25 := hB24.trans (B25.mono (by omega))
  have hlen : (tagL st tag (stB b) ps.flatten).length ≤ 1000000 := by rw [HTL.out, HST.out.len, HLB.out]; have := HPS.out; omega
  try simp only [Act.put, List.setIfInBounds_toArray, List.set_cons_succ, List.set_cons_zero]
  refine wpList_plain rfl fun K11 hK11 => wp_of_step (stepAt_mono (fun v26 w26 hh => ?_) (step_callv en_attestor_sha256_Sum (gSum _ hlen HT8.out _ W.heap.size w25.heap.size _ (HL.out.keep hB25) (o25.bys (by omega) (Nat.le_refl _))) rfl rfl))
  obtain ⟨rfl, B26⟩ := hh
  refine hK11 _ _ ?_
  clear hK11 K11
  try simp only [Act.put, List.setIfInBounds_toArray, List.set_cons_succ, List.set_cons_zero]
  have b26 := b25.keep B26
  have hB26 := hB25.trans (B26.mono hB25.size)
  refine wpList_put rfl 58 (.tmp 8) (.tmp 26) rfl rfl (cells := byc (sha (tagL st tag (stB b) ps.flatten))) rfl b26 (by rw [byc_length, sha_length, hcs0]; decide) (by rw [b32_size, byc_length, sha_length]) (byc_all _) (spl_all _ _ (by rw [hcs0, byc_length, sha_length])) fun Y hY bY => ?_
  have hBY := below_put hB26 hY (Nat.le_succ _)
  clear b26 hB26 b25 hB25 b24 hB24 b21 hB21 o21 o24 o25 B24 B25 B26 hlen
  go_wp2_with fail
  exact bodyPost_ret (v := dgv (sha (tagL st tag (stB b) ps.flatten))) (res_row (g := w.heap.size + 1) rfl rfl b32_under rfl (by rw [b32_size, byc_length, sha_length]) bY) rfl ⟨rfl, hBY⟩
end Go.Proofs.YtkgglhakimkkhaaGreatDoor
namespace Go.Proofs.YtkgglhakimkkhaaGreatDoor
open Go.RowKit

theorem gAppK (l : List Nat) (x : Nat) (hx : x < 18446744073709551616) (hl : l.length ≤ 1000000) (u : Value) (base : Nat) (w : World) (h : OwB base w u l) (hb : base ≤ w.heap.size) :
    Calls Tryz.prog 117 #[u, .int .u64 (x : Int)] w fun e w' => ∃ v', e = .returned v' ∧ OwB base w' v' (l ++ w8 x) ∧ (∀ g t cs, Blk w g t cs → u.ownBlock ≠ some g → Blk w' g t cs ∧ v'.ownBlock ≠ some g) ∧ Below base w w' := by
  cases hu : u.ownBlock with
  | none =>
    refine (gAppW l x hx hl u base w.heap.size w h (fun g hg => by rw [hu] at hg; cases hg) hb).mono ?_
    rintro e w' ⟨v', rfl, ho, hat, hg⟩
    refine ⟨v', rfl, ho, fun g t cs hk _ => ⟨(hg.block g hk.lt (fun e => by cases e; exact Nat.lt_irrefl _ hk.lt)).trans hk, fun e => ?_⟩, hg.os, hg.tape, hg.output, hg.size, fun k hk => hg.block k (by omega) (fun e => by cases e; omega)⟩
    have := hk.lt
    rcases hat g e with h | h <;> omega
  | some g0 =>
    have hg0 := own_block h hu
    refine (gAppW l x hx hl u base g0 w h (fun g hg => by rw [hu] at hg; cases hg; exact .inl rfl) hb).mono ?_
    rintro e w' ⟨v', rfl, ho, hat, hg⟩
    refine ⟨v', rfl, ho, fun g t cs hk hne => ⟨(hg.block g hk.lt (fun e => hne e.symm)).trans hk, fun e => ?_⟩, hg.os, hg.tape, hg.output, hg.size, fun k hk => hg.block k (by omega) (fun e => by cases e; omega)⟩
    have := hk.lt
    rcases hat g e with h | h
    · exact hne (by rw [h])
    · omega
theorem below_Dw (w : World) : Below w.heap.size w w.drew := ⟨rfl, rfl, rfl, Nat.le_refl _, fun _ _ => rfl⟩
theorem gAppF (l : List Nat) (x : Fp) (hl : l.length ≤ 1000000) (u : Value) (base : Nat) (w : World) (h : OwB base w u l) (hb : base ≤ w.heap.size) :
    Calls Tryz.prog 117 #[u, .int .u64 (fv x)] w fun e w' => ∃ v', e = .returned v' ∧ OwB base w' v' (l ++ w8 (fv x).toNat) ∧ (∀ g t cs, Blk w g t cs → u.ownBlock ≠ some g → Blk w' g t cs ∧ v'.ownBlock ≠ some g) ∧ Below base w w' := by
  have := gAppK l (fv x).toNat (fv_nat x).2 hl u base w h hb
  rwa [(fv_nat x).1] at this
theorem en_attestor_transcript_Bytes : ∀ args w, (callFunc 121 args).run Tryz.prog w = .ok (.enter 121 args) w := enters_of Tryz.func121 (by kernel_rfl) rfl
attribute [local irreducible] wpRg
set_option maxRecDepth 100000 in
set_option maxHeartbeats 4000000 in
theorem gExB (l : List E) (hl : l.length ≤ 10000) (v : Value) (lo hi : Nat) (w : World) (h : ExtS lo hi w v l) : Calls Tryz.prog 121 #[v] w (RetR (fun lo hi v w => ByS lo hi w v (exB l)) w) := by
  obtain ⟨A, cap, rfl⟩ := Rd.len h
  have HV := Lib.hid h
  clear h
  go_enter Tryz.func121, Tryz.ntmps121
  go_wp2_with fail
  go_loopw [3, 8] (fun u i wr => ∃ k : Nat, k ≤ l.length ∧ i = .int .i64 k ∧ OwB w.heap.size wr u (exK k l) ∧ Below w.heap.size w wr) (fun _ i _ => l.length - (intOf i).toNat)
  case atStart => exact ⟨0, Nat.zero_le _, rfl, by rw [exK_zero]; exact ⟨rfl, .inl ⟨rfl, rfl⟩⟩, Below.refl _ _⟩
  case round =>
    obtain ⟨k, hk, rfl, ho, hBr⟩ := hrel
    obtain ⟨A1, c1, rfl⟩ := ho.len
    by_cases hlt : k < l.length
    · obtain ⟨g, off, cap', hA, hc, hg1, hg2, hg3, hcell⟩ := exts_cells HV.out (by omega)
      cases hA
      obtain ⟨x, hx⟩ : ∃ x, l[k]? = some x := ⟨_, List.getElem?_eq_getElem hlt⟩
      obtain ⟨q1, q2⟩ := hcell k x hx
      have e1 := hBr.cell (p := ⟨g, off + k * 2, none⟩) hg3
      have e2 := hBr.cell (p := ⟨g, off + k * 2 + 1, none⟩) hg3
      rw [q1] at e1
      rw [q2] at e2
      have hex := exK_len l k
      have hnx := exK_next l k x hx
      have HK := Lib.hid hnx
      clear hcell q1 q2 hnx
      go_upto_region 5 with (fail)
      refine wp_stk1 fun W hBW hz b5 => ?_
      have hBw := hBr.trans (hBW.mono hBr.size)
      have hWs := hBw.size
      have hWsD : w.heap.size ≤ W.drew.heap.size := hWs
      have hoW := Lib.hid ((ho.keep hBW).keep (below_Dw W))
      have hne : (Value.slice A1 (exK k l).length c1).ownBlock ≠ some wr.heap.size := fun e => absurd (own_block ho e).2 (Nat.lt_irrefl _)
      have HNE := Lib.hid hne
      have b5D := Lib.hid (b5.keep (below_Dw W))
      obtain ⟨n5, hn5⟩ : ∃ n, n = wr.heap.size := ⟨_, rfl⟩
      rw [← hn5] at b5 b5D HNE ⊢
      have K0 : W.cell? ⟨n5, 0, none⟩ = some (.int .u64 (fv x.a)) ∧ W.cell? ⟨n5, 1, none⟩ = some (.int .u64 (fv x.b)) := ⟨(b5.cell 0).trans rfl, (b5.cell 1).trans rfl⟩
      have KD : W.drew.cell? ⟨n5, 0, none⟩ = some (.int .u64 (fv x.a)) ∧ W.drew.cell? ⟨n5, 1, none⟩ = some (.int .u64 (fv x.b)) := ⟨(b5D.out.cell 0).trans rfl, (b5D.out.cell 1).trans rfl⟩
      clear hz e1 e2 ho hne hn5 hBW hBr b5
      go_region_held3 (fun X => X.cell? ⟨n5, 0, none⟩ = some (.int .u64 (fv x.a)) ∧ X.cell? ⟨n5, 1, none⟩ = some (.int .u64 (fv x.b)))
        (first | with_reducible exact KD | with_reducible exact K4 | with_reducible exact K7 | with_reducible exact K0)
        (first
          | (go_at_call 117
             with_reducible refine Calls.mono (gAppF (exK k l) x.a (by omega) _ w.heap.size W.drew hoW.out hWsD) ?_
             rintro e w4 ⟨v4, he, o4, hk4, B4⟩
             subst he
             have ⟨b54, hne4⟩ := hk4 _ _ _ b5D.out HNE.out
             have K4 : w4.cell? ⟨n5, 0, none⟩ = some (.int .u64 (fv x.a)) ∧ w4.cell? ⟨n5, 1, none⟩ = some (.int .u64 (fv x.b)) := ⟨(b54.cell 0).trans rfl, (b54.cell 1).trans rfl⟩
             have B4w := (hBw.trans ((below_Dw W).mono hWs)).trans B4
             clear hk4)
          | (go_at_call 117
             with_reducible refine Calls.mono (gAppF (exK k l ++ w8 (fv x.a).toNat) x.b (by rw [List.length_append, w8_length]; omega) _ w.heap.size w4 o4 B4w.size) ?_
             rintro e w7 ⟨v7, he, o7, hk7, B7⟩
             subst he
             rw [List.append_assoc, HK.out] at o7
             have ⟨b57, hne7⟩ := hk7 _ _ _ b54 hne4
             have K7 : w7.cell? ⟨n5, 0, none⟩ = some (.int .u64 (fv x.a)) ∧ w7.cell? ⟨n5, 1, none⟩ = some (.int .u64 (fv x.b)) := ⟨(b57.cell 0).trans rfl, (b57.cell 1).trans rfl⟩
             have B7w := B4w.trans B7
             clear hk7))
      all_goals
        clear KD K0 K4 K7 b54 b57 hne4 hne7
        obtain ⟨A7, c7, rfl⟩ := o7.len
        go_wp2_with fail
        exact ⟨⟨k + 1, by omega, by go_num, o7, B7w⟩, by simp [intOf]; omega⟩
    · obtain rfl : k = l.length := by omega
      have hlen := exK_len l l.length
      rw [exK_all] at ho hlen ⊢
      obtain ⟨D, hD⟩ : ∃ D, D = exB l := ⟨_, rfl⟩
      rw [← hD] at ho hlen ⊢
      have HD := Lib.hid hD
      clear hD
      go_wp2_with fail
      refine bodyPost_ret (v := .slice A1 D.length c1) (by simp [results, Tryz.results121, go_sem]) rfl ⟨_, rfl, ?_, hBr⟩
      show ByS _ _ _ _ (exB l)
      rw [← HD.out]
      exact ho.bys (by omega) (Nat.le_refl _)
end Go.Proofs.YtkgglhakimkkhaaGreatDoor
namespace Go.Proofs.YtkgglhakimkkhaaGreatDoor
open Go.RowKit

theorem fit_w8 {x : Nat} : Fit (OwA (w8 x)) (SlF 8) := ⟨ow_st, fun _ => ⟨.slice none 8 0, none, 0, rfl⟩, fun _ _ _ _ h => by
  obtain ⟨A, cap, e⟩ := h.1.len
  rw [w8_length] at e
  exact ⟨A, cap, e⟩⟩
def BylA (ps : List (List Nat)) (n m : Nat) (v : Value) (w : World) : Prop := ∃ us : List Value, us.length = ps.length ∧ Rd n m 1 w v ps.length us ∧ ∀ (i : Nat) (u : Value) (p : List Nat), us[i]? = some u → ps[i]? = some p → ByS 0 m w u p
theorem byl_st {ps : List (List Nat)} : Stable (BylA ps) := fun _ _ _ _ _ ⟨us, h1, h2, h3⟩ hb => ⟨us, h1, Rd.below h2 hb (Nat.le_refl _), fun i u p hu hp => Rd.below (h3 i u p hu hp) hb (Nat.le_refl _)⟩
theorem BylA.byl {ps : List (List Nat)} {n m : Nat} {v : Value} {w : World} (h : BylA ps n m v w) : BylS n m w v ps := by
  obtain ⟨us, h1, h2, h3⟩ := h
  exact ⟨us, h1, h2, fun i u p hu hp => ⟨_, _, h3 i u p hu hp⟩⟩
theorem bys_upto {lo hi : Nat} {w w' : World} {v : Value} {l : List Nat} (h : ByS lo hi w v l) (hb : Below w.heap.size w w') : ByS 0 w'.heap.size w' v l := bys_base (h.keep hb)
theorem byl_two {w w' : World} {n m : Nat} {x v u : Value} {a b : List Nat} {l1 h1 l2 h2 : Nat} (h : Lit 92 2 #[v, u] n m x w') (hm : m = w'.heap.size) (ha : ByS l1 h1 w v a) (hb : ByS l2 h2 w u b) (hB : Below w.heap.size w w') : BylA [a, b] n m x w' := by
  obtain ⟨rfl, hn, hk⟩ := h
  subst hm
  refine ⟨[v, u], rfl, ⟨rfl, by simp, some ⟨n, 0, none⟩, 2, rfl, Nat.le_refl _, fun _ => ⟨n, 0, rfl, Nat.le_refl _, hn, hk.lt, fun j x hj => ?_⟩⟩, fun i x p hx hp => ?_⟩
  · rw [Nat.zero_add, hk.cell]
    simpa using hj
  · rcases i with _ | _ | i
    · cases hx; cases hp; exact bys_upto ha hB
    · cases hx; cases hp; exact bys_upto hb hB
    · cases hx
theorem byl_one {w w' : World} {n m : Nat} {x v : Value} {a : List Nat} {l1 h1 : Nat} (h : Lit 92 1 #[v] n m x w') (hm : m = w'.heap.size) (ha : ByS l1 h1 w v a) (hB : Below w.heap.size w w') : BylA [a] n m x w' := by
  obtain ⟨rfl, hn, hk⟩ := h
  subst hm
  refine ⟨[v], rfl, ⟨rfl, by simp, some ⟨n, 0, none⟩, 1, rfl, Nat.le_refl _, fun _ => ⟨n, 0, rfl, Nat.le_refl _, hn, hk.lt, fun j x hj => ?_⟩⟩, fun i x p hx hp => ?_⟩
  · rw [Nat.zero_add, hk.cell]
    simpa using hj
  · rcases i with _ | i
    · cases hx; cases hp; exact bys_upto ha hB
    · cases hx
theorem byls_info : (Tryz.prog.info? 92).map (fun i => (i.zero, i.size, i.bytes)) = some (some (.slice none 0 0), 1, 24) := by kernel_rfl
theorem byls_slice : Tryz.prog.underlying 152 = some (.slice 92) := by kernel_rfl
theorem OwA.bys {l : List Nat} {lo hi : Nat} {v : Value} {w : World} (h : OwA l lo hi v w) (hn : l.length ≤ 10000000) : ByS lo w.heap.size w v l := h.1.bys hn (Nat.le_refl _)
theorem en_attestor_transcript_Absorb : ∀ args w, (callFunc 120 args).run Tryz.prog w = .ok (.enter 120 args) w := enters_of Tryz.func120 (by kernel_rfl) rfl
theorem en_attestor_transcript_AbsorbExt : ∀ args w, (callFunc 92 args).run Tryz.prog w = .ok (.enter 92 args) w := enters_of Tryz.func92 (by kernel_rfl) rfl
attribute [local irreducible] wpRg
set_option maxRecDepth 100000 in
set_option maxHeartbeats 4000000 in
theorem gAbsorb (st l : List Nat) (cnt : Nat) (hst : StOk st) (b : ByteArray) (hb : b.size ≤ 200) (hl : l.length ≤ 200000) (hl8 : ∀ x ∈ l, x < 256) (v : Value) (lo hi : Nat) (w : World) (hL : Lsh w) (h : ByS lo hi w v l) :
    Calls Tryz.prog 120 #[tsV st cnt, .string b, v] w (Ret (tsV (absT st (stB b) l) 0) w) := by
  obtain ⟨S, hS⟩ : ∃ S, S = tsV st cnt := ⟨_, rfl⟩
  rw [← hS]
  obtain ⟨A, cap, rfl⟩ := h.len
  obtain ⟨isl, hsl, sz0, sz1, sz2⟩ := info_parts byls_info
  have HV := Lib.hid h
  have HST := Lib.hid hst
  have HSZ := Lib.hid hb
  have HL := Lib.hid hL
  have H8 := Lib.hid (show ∀ x ∈ [w8 l.length, l].flatten, x < 256 by
    intro x hx
    simp only [List.flatten_cons, List.flatten_nil, List.append_nil, List.mem_append] at hx
    rcases hx with hx | hx
    · exact w8_lt _ x hx
    · exact hl8 x hx)
  have HF := Lib.hid (show [w8 l.length, l].flatten.length ≤ 400000 by simp [w8_length]; omega)
  have HE := Lib.hid (show sha (tagL st 1 (stB b) [w8 l.length, l].flatten) = absT st (stB b) l by unfold absT; simp)
  clear h hst hL hl8
  go_enter Tryz.func120, Tryz.ntmps120
  go_upto_region 1 with (fail)
  refine wp_stk2 fun W hB hz b1 b2 => ?_
  have b1' : Blk W w.heap.size 60 (tsc st cnt).toArray := by first | exact b1 | (rw [hS] at b1; exact b1)
  obtain ⟨cs0, hcs0, b2'⟩ : ∃ cs : Array Value, cs.size = 33 ∧ Blk W (w.heap.size + 1) 60 cs := ⟨_, rfl, b2⟩
  clear b1 b2 hz
  refine wp_region_rg 10 [(0, Spec.val (tsV st cnt)), (5, Spec.rel (OwA (w8 l.length)) (SlF 8)), (7, Spec.rel (BylA [w8 l.length, l]) AnyV), (8, Spec.val (dgv (sha (tagL st 1 (stB b) [w8 l.length, l].flatten)))), (9, Spec.val (tsV (sha (tagL st 1 (stB b) [w8 l.length, l].flatten)) 0))] (by kernel_rfl) (by kernel_rfl) (by kernel_rfl) ⟨fit_w8, fit_of (byl_st), trivial⟩ ?_
  refine rg_val rfl rfl (fun W1 hW1 hF => step_loadR (cs := tsc st cnt) Tryz.underlying60 rfl (by rw [tr_size, tsc_len _ _ HST.out.len]) rfl rfl (blk_range (b1'.below (grw_below hW1) b1'.lt))) ?_
  intro a' ha
  simp only [Act.put, List.setIfInBounds_toArray, List.set_cons_succ, List.set_cons_zero] at ha
  subst ha
  iterate 4 (refine rg_det rfl rfl rfl (fun K hK => ?_); go_big_quiet_op; refine hK _ ?_; clear hK K)
  refine rg_rel rfl rfl (fun W1 hW1 hF => step_callr en_attestor_transcript_appendWord (gAppW0 l.length (by omega) W1) rfl rfl) ?_
  intro n5 m5 v5 hn5 hm5 hd5 hf5 a' ha
  simp only [Act.put, List.setIfInBounds_toArray, List.set_cons_succ, List.set_cons_zero] at ha
  subst ha
  obtain ⟨A5, cap5, rfl⟩ := hf5
  refine rg_det rfl rfl rfl (fun K hK => ?_)
  go_big_quiet_op
  refine hK _ ?_; clear hK K
  refine rg_rel rfl rfl (fun W1 hW1 hF => stepAt_mono (fun v w' hh => ⟨byl_two hh.1 rfl ((pick_last hF (by kernel_rfl)).2.bys (by rw [w8_length]; decide)) (HV.out.keep (hB.trans ((grw_below hW1).mono hB.size))) hh.2, hh.2⟩) (step_litF (parts := [(0, .tmp 12), (1, .tmp 13)]) (vs := [.slice A5 8 cap5, .slice A l.length cap]) byls_slice hsl sz0 sz1 rfl (by simp) (by simp) rfl rfl (by simp [Value.cells]))) ?_
  intro n7 m7 v7 hn7 hm7 hd7 hf7 a' ha
  simp only [Act.put, List.setIfInBounds_toArray, List.set_cons_succ, List.set_cons_zero] at ha
  subst ha
  refine rg_val rfl rfl (fun W1 hW1 hF => step_callv en_attestor_transcript_tagged (gTagged st cnt 1 HST.out (by decide) b HSZ.out [w8 l.length, l] (by simp) HF.out H8.out _ _ _ W1 (HL.out.keep (hB.trans ((grw_below hW1).mono hB.size))) (pick_last hF (by kernel_rfl)).2.byl) rfl rfl) ?_
  intro a' ha
  simp only [Act.put, List.setIfInBounds_toArray, List.set_cons_succ, List.set_cons_zero] at ha
  subst ha
  refine rg_val rfl rfl (fun W1 hW1 hF => stepAt_mono (fun v w' hh => ⟨hh.1, by rw [hh.2]; exact Below.refl _ _⟩) (step_trB (sha (tagL st 1 (stB b) [w8 l.length, l].flatten)) (sha_length _) rfl rfl)) ?_
  intro a' ha
  simp only [Act.put, List.setIfInBounds_toArray, List.set_cons_succ, List.set_cons_zero] at ha
  subst ha
  refine rg_nil (fun w' hw' hF => ?_)
  obtain ⟨z, rfl⟩ := hw'
  simp only [List.drop_succ_cons, List.drop_zero]
  rw [HE.out]
  have b2z := b2'.gw z
  have hBz := hB.trans (z.h.mono hB.size)
  refine wpList_put rfl 60 (.tmp 6) (.tmp 16) rfl rfl (cells := tsc (absT st (stB b) l) 0) rfl b2z (by rw [tsc_len _ _ (absT_len _ _ _), hcs0]; decide) (by rw [tr_size, tsc_len _ _ (absT_len _ _ _)]) (ts_one _ _) (spl_all _ _ (by rw [hcs0, tsc_len _ _ (absT_len _ _ _)])) fun Y hY bY => ?_
  have hBY := below_put hBz hY (Nat.le_succ _)
  clear hF hd5 hd7 hf7 b2z hBz b2' b1' sz0 sz1 sz2 hsl
  go_wp2_with fail
  exact bodyPost_ret (v := tsV (absT st (stB b) l) 0) (res_row (g := w.heap.size + 1) rfl rfl Tryz.underlying60 rfl (by rw [tr_size, tsc_len _ _ (absT_len _ _ _)]) bY) rfl ⟨rfl, hBY⟩
set_option maxRecDepth 100000 in
set_option maxHeartbeats 4000000 in
theorem gAbsExt (st : List Nat) (cnt : Nat) (hst : StOk st) (b : ByteArray) (hb : b.size ≤ 200) (l : List E) (hl : l.length ≤ 10000) (v : Value) (lo hi : Nat) (w : World) (hL : Lsh w) (h : ExtS lo hi w v l) :
    Calls Tryz.prog 92 #[tsV st cnt, .string b, v] w (Ret (tsV (absT st (stB b) (exB l)) 0) w) := by
  obtain ⟨S, hS⟩ : ∃ S, S = tsV st cnt := ⟨_, rfl⟩
  rw [← hS]
  obtain ⟨A, cap, rfl⟩ := Rd.len h
  have HV := Lib.hid h
  have HST := Lib.hid hst
  have HL := Lib.hid hL
  clear h hst hL
  go_enter Tryz.func92, Tryz.ntmps92
  go_upto_region 1 with (fail)
  refine wp_stk2 fun W hB hz b1 b2 => ?_
  have b1' : Blk W w.heap.size 60 (tsc st cnt).toArray := by first | exact b1 | (rw [hS] at b1; exact b1)
  obtain ⟨cs0, hcs0, b2'⟩ : ∃ cs : Array Value, cs.size = 33 ∧ Blk W (w.heap.size + 1) 60 cs := ⟨_, rfl, b2⟩
  clear b1 b2 hz
  refine wp_region_rg 5 [(0, Spec.val (tsV st cnt)), (3, Spec.rel (ByA (exB l)) AnyV), (4, Spec.val (tsV (absT st (stB b) (exB l)) 0))] (by kernel_rfl) (by kernel_rfl) (by kernel_rfl) ⟨fit_of (by_st), trivial⟩ ?_
  refine rg_val rfl rfl (fun W1 hW1 hF => step_loadR (cs := tsc st cnt) Tryz.underlying60 rfl (by rw [tr_size, tsc_len _ _ HST.out.len]) rfl rfl (blk_range (b1'.below (grw_below hW1) b1'.lt))) ?_
  intro a' ha
  simp only [Act.put, List.setIfInBounds_toArray, List.set_cons_succ, List.set_cons_zero] at ha
  subst ha
  iterate 2 (refine rg_det rfl rfl rfl (fun K hK => ?_); go_big_quiet_op; refine hK _ ?_; clear hK K)
  refine rg_rel rfl rfl (fun W1 hW1 hF => step_callr en_attestor_transcript_Bytes (gExB l hl _ _ _ W1 (Rd.keep HV.out (hB.trans ((grw_below hW1).mono hB.size)))) rfl rfl) ?_
  intro n3 m3 v3 hn3 hm3 hd3 hf3 a' ha
  simp only [Act.put, List.setIfInBounds_toArray, List.set_cons_succ, List.set_cons_zero] at ha
  subst ha
  refine rg_val rfl rfl (fun W1 hW1 hF => step_callv en_attestor_transcript_Absorb (gAbsorb st (exB l) cnt HST.out b hb (by rw [exB_len]; omega) (exB_lt l) _ _ _ W1 (HL.out.keep (hB.trans ((grw_below hW1).mono hB.size))) (pick_last hF (by kernel_rfl)).2) rfl rfl) ?_
  intro a' ha
  simp only [Act.put, List.setIfInBounds_toArray, List.set_cons_succ, List.set_cons_zero] at ha
  subst ha
  refine rg_nil (fun w' hw' hF => ?_)
  obtain ⟨z, rfl⟩ := hw'
  simp only [List.drop_succ_cons, List.drop_zero]
  have b2z := b2'.gw z
  have hBz := hB.trans (z.h.mono hB.size)
  refine wpList_put rfl 60 (.tmp 6) (.tmp 11) rfl rfl (cells := tsc (absT st (stB b) (exB l)) 0) rfl b2z (by rw [tsc_len _ _ (absT_len _ _ _), hcs0]; decide) (by rw [tr_size, tsc_len _ _ (absT_len _ _ _)]) (ts_one _ _) (spl_all _ _ (by rw [hcs0, tsc_len _ _ (absT_len _ _ _)])) fun Y hY bY => ?_
  have hBY := below_put hBz hY (Nat.le_succ _)
  clear hF hd3 b2z hBz b2' b1'
  go_wp2_with fail
  exact bodyPost_ret (v := tsV (absT st (stB b) (exB l)) 0) (res_row (g := w.heap.size + 1) rfl rfl Tryz.underlying60 rfl (by rw [tr_size, tsc_len _ _ (absT_len _ _ _)]) bY) rfl ⟨rfl, hBY⟩
end Go.Proofs.YtkgglhakimkkhaaGreatDoor
