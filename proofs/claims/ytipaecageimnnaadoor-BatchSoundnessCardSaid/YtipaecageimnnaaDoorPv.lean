/-
  Prove of package sumcheck, by contract.
-/
import Derived.Test.YtipaecageimnnaaDoorRow
import Derived.Test.YtipaecageimnnaaDoorRd
namespace Go.Proofs.YtipaecageimnnaaDoor
open Go.RowKit

theorem TrmS.base {lo hi : Nat} {w : World} {v : Value} {ps : List Trm} (h : TrmS lo hi w v ps) : TrmS 0 w.heap.size w v ps := by
  obtain ⟨us, h1, h2, h3⟩ := h
  have key : ∀ {n size : Nat} {v : Value} {cs : List Value}, Rd lo hi size w v n cs → Rd 0 w.heap.size size w v n cs := fun ⟨q1, q2, A, cap, q3, q4, q5⟩ => ⟨q1, q2, A, cap, q3, q4, fun h0 => by
    obtain ⟨g, off, r1, r2, r3, r4, r5⟩ := q5 h0
    exact ⟨g, off, r1, Nat.zero_le _, r4, r4, r5⟩⟩
  exact ⟨us, h1, key h2, fun k u t hu ht => key (h3 k u t hu ht)⟩
theorem bndAll_length (tabs : List (List E)) : ∀ cs : List E, (bndAll tabs cs).length = tabs.length := by
  intro cs
  unfold bndAll
  induction cs generalizing tabs with
  | nil => rfl
  | cons c cs ih => rw [List.foldl_cons, ih, bndE_length]
theorem bndAll_len (n : Nat) : ∀ (cs : List E) (tabs : List (List E)), cs.length ≤ n → AllLen tabs (2 ^ n) → AllLen (bndAll tabs cs) (2 ^ (n - cs.length))
  | [], tabs, _, h => h
  | c :: cs, tabs, hl, h => by
    obtain ⟨m, rfl⟩ : ∃ m, n = m + 1 := ⟨n - 1, by simp only [List.length_cons] at hl; omega⟩
    have h' : AllLen tabs (2 * 2 ^ m) := by rw [← Nat.pow_succ']; exact h
    have h2 := bndAll_len m cs (bndE tabs c) (by simp only [List.length_cons] at hl; omega) (h'.bnd c)
    rw [List.length_cons, show m + 1 - (cs.length + 1) = m - cs.length by omega]
    exact h2
theorem bndAll_at (tabs : List (List E)) (coins : List E) (n j : Nat) (h : AllLen tabs (2 ^ n)) (hc : coins.length = n) (hj : j < n) : AllLen (bndAll tabs (coins.take j)) (2 * 2 ^ (n - 1 - j)) := by
  have h1 := bndAll_len n (coins.take j) tabs (by rw [List.length_take]; omega) h
  rw [List.length_take, Nat.min_eq_left (by omega)] at h1
  have e : 2 * 2 ^ (n - 1 - j) = 2 ^ (n - j) := by rw [← Nat.pow_succ']; congr 1; omega
  rw [e]
  exact h1
theorem pow_le_of (n j : Nat) (h : n ≤ 16) : 2 ^ (n - 1 - j) ≤ 65536 := Nat.le_trans (Nat.pow_le_pow_right (by decide) (show n - 1 - j ≤ 16 by omega)) (by decide)
/-- What Prove hands back. -/
def PrvR (w : World) (rs : List (List E)) (vs : List E) (e : Ending) (w' : World) : Prop := ∃ v1 v2, e = .returned (.tuple #[v1, v2]) ∧ TabS w.heap.size w'.heap.size w' v1 rs ∧ ExtS w.heap.size w'.heap.size w' v2 vs ∧ Below w.heap.size w w'
set_option maxRecDepth 100000 in
set_option maxHeartbeats 8000000 in
theorem gProve (tabs : List (List E)) (ps : List Trm) (coins : List E) (n : Nat) (hc : coins.length = n) (hn : n ≤ 16) (hall : AllLen tabs (2 ^ n)) (h0 : 0 < tabs.length) (hl : tabs.length ≤ 1000) (vt vp vc : Value) (lo hi lo2 hi2 : Nat) (w : World) (h : SumS lo hi w vt vp tabs ps) (hcs : ExtS lo2 hi2 w vc coins) :
    Calls Tryd.prog 31 #[sv vt vp, vc] w (PrvR w (prvR tabs ps coins) (prvV tabs coins) · ·) := by
  obtain ⟨AC, capC, rfl⟩ := Rd.len hcs
  obtain ⟨AP, capP, rfl⟩ := h.hp.len
  have HAl := Lib.hid (fun j (hj : j < n) => bndAll_at tabs coins n j hall hc hj)
  have HAe := Lib.hid (show AllLen (bndAll tabs coins) 1 by have := bndAll_len n coins tabs (by omega) hall; rwa [hc, Nat.sub_self] at this)
  have HH := Lib.hid h
  have HCS := Lib.hid hcs
  have HPL := Lib.hid (prvR_length ps coins tabs)
  have HBl := Lib.hid (bndAll_length tabs)
  have HC := Lib.hid hc
  rw [hc]
  clear hall h hcs hc
  obtain ⟨np, hnp⟩ : ∃ np, np = ps.length := ⟨_, rfl⟩
  rw [← hnp]
  have HNP := Lib.hid hnp
  clear hnp
  unfold sv
  go_enter Tryd.func31, Tryd.ntmps31
  go_wp2_with fail
  refine wp_stk1 fun W hB hz b1 => ?_
  have hW := hz.out
  clear hz
  go_loopw [6, 14] (fun u i wr => ∃ j : Nat, j ≤ n ∧ i = .int .i64 j ∧ RowT (w.heap.size + 1) wr u (prvR tabs ps (coins.take j)) ∧ ∃ vt L H, Blk wr w.heap.size 61 #[vt, .slice AP np capP] ∧ TabS L H wr vt (bndAll tabs (coins.take j)) ∧ Outside L H u ∧ H ≤ wr.heap.size ∧ Below w.heap.size w wr ∧ w.heap.size + 1 ≤ wr.heap.size) (fun _ i _ => n - (intOf i).toNat)
  case atStart => exact ⟨0, Nat.zero_le _, rfl, RowT.first _ _, vt, 0, W.heap.size, b1, ((HH.out.ht.keep hB).base), fun b hb => by simp [Value.ownBlock] at hb, Nat.le_refl _, hB, by omega⟩
  case round =>
    obtain ⟨j, hj, rfl, hrow, vt', L, H, bb, hT, hout, hH, hBr, hsz⟩ := hrel
    clear b1 hB
    by_cases hlt : j < n
    · have hEc := Rd.keep HCS.out hBr
      obtain ⟨g, off, cap', hv, q1, q2, q3, q4, q5⟩ := exts_cells hEc (by rw [HC.out]; omega)
      rw [HC.out] at hv
      cases hv
      obtain ⟨r, hr, hrd⟩ := get_of (l := coins) (k := j) (by rw [HC.out]; exact hlt)
      obtain ⟨d1, d2⟩ := q5 j r hr
      have HPS := Lib.hid (prvR_succ ps r coins j tabs hr)
      have HBS := Lib.hid (bndAll_succ tabs coins j r hr)
      have hal := HAl.out j hlt
      have hlt2 := HBl.out (coins.take j)
      have hlr : (prvR tabs ps (coins.take j)).length = j := by rw [prvR_length, List.length_take, HC.out, Nat.min_eq_left (by omega)]
      obtain ⟨m, hm⟩ : ∃ m, m = 2 ^ (n - 1 - j) := ⟨_, rfl⟩
      have hm1 : m ≤ 65536 := by rw [hm]; exact pow_le_of n j hn
      have hm0 : 0 < m := by rw [hm]; exact Nat.two_pow_pos _
      rw [← hm] at hal
      have HAL := Lib.hid hal
      have HL2 := Lib.hid hlt2
      have HLR := Lib.hid hlr
      clear q5 hr hrd hal hlt2 hEc hm hlr
      generalize bndAll tabs (coins.take j) = T at *
      generalize prvR tabs ps (coins.take j) = R at *
      obtain ⟨wo, hwo⟩ : ∃ wo, wo = wr := ⟨_, rfl⟩
      subst hwo
      obtain ⟨AT, capT, rfl⟩ := hT.len
      go_upto_region 5 with (fail)
      refine wp_stk1 fun X hBX hzX b8 => ?_
      have hX := hzX.out
      have bbX := bb.keep hBX
      have hTX := hT.keep hBX
      have hrX := hrow.keep hBX
      have hBX2 := hBr.trans (hBX.mono hBr.size)
      have e0 := bbX.cell
      have hblk : ∀ b, u6.ownBlock = some b → b < wo.heap.size := fun b hb => (hrow.block hb).2
      clear hzX d1 d2 bb hT hrow
      go_wp2_with fail
      have hSX := HH.out.keep hBX2
      refine (gRound T ps m HAL.out (by rw [HL2.out]; exact h0) (by rw [HL2.out]; exact hl) (by omega) _ _ 0 X.heap.size X ⟨hTX.base, by have := hSX.hp.base; rwa [← HNP.out] at this, by rw [HL2.out]; exact hSX.ix, hSX.few, hSX.short⟩).mono ?_
      rintro e w2 ⟨v2, rfl, t2, hb2⟩
      replace t2 : ExtS X.heap.size w2.heap.size w2 v2 (rndE T ps) := t2
      obtain ⟨A2, c2, rfl⟩ := Rd.len t2
      generalize rndE T ps = y at *
      have hs2 := hb2.size
      clear e0
      go_wp2_with (at_builtin; refine wpList_appT (x := .slice A2 y.length c2) (y := y) (lo := X.heap.size) (hi := w2.heap.size) (base := w.heap.size + 1) (ts := R) rfl _ _ rfl Tryd.underlying36 rfl rfl ?hrow ?hsrc rfl ?hE ?hlo ?hhi ?hout ?hk ?hbase ?_)
      case hrow => exact (hrX.keep hb2).keep ((Below.refl _ _).alloc (Nat.le_refl _) _)
      case hsrc => exact Blk.new_at _ _ _ rfl
      case hE => exact Rd.keep t2 ((Below.refl _ _).alloc (Nat.le_refl _) _)
      case hlo => omega
      case hhi => simp
      case hout => exact hrX.out (Nat.le_refl _)
      case hk => rw [HLR.out]; omega
      case hbase => simp; omega
      intro u' w3 hrow3 hB3 hg3 hob3
      have hal2 : Below w2.heap.size w2 (w2.alloc (.cells #[.slice A2 y.length c2] 22)) := (Below.refl _ _).alloc (Nat.le_refl _) _
      have hXa := hb2.trans (hal2.mono hs2)
      have bb3 := (bbX.keep hXa).below hB3 (by omega)
      have hT3 := tabs_kept (hTX.keep hXa) (Kept.of_grown hg3 hout (by simp; omega)) hg3.size
      have b83 : Blk w3 wo.heap.size 26 #[.int .u64 (fv r.a), .int .u64 (fv r.b)] := grown_blk hg3 (b8.keep hXa) (fun e => absurd (hblk _ e.symm) (Nat.lt_irrefl _))
      have hBw3 : Below w.heap.size w w3 := (hBX2.trans (hXa.mono hBX2.size)).trans (hB3.mono (by omega))
      have hs3 := hB3.size
      have e0 := bb3.cell
      have e1 := b83.cell
      rw [← HPS.out] at hrow3
      clear hrX hTX bbX b8 hg3 hout hob3 t2 hb2
      go_wp2_with fail
      refine (gBndSum T r m HAL.out hm0 (by omega) (by rw [HL2.out]; exact hl) _ (.slice AP np capP) L H w3 hT3 ⟨_, _, _, rfl⟩).mono ?_
      rintro e w4 ⟨v4, rfl, ⟨vt4, rfl, hT4⟩, hb4⟩
      rw [← HBS.out] at hT4
      obtain ⟨A4, cap4, rfl⟩ := hT4.len
      have bb4 := bb3.keep hb4
      have hrow4 := hrow3.keep hb4
      have hB4 := hBw3.trans (hb4.mono hBw3.size)
      have e2 := bb4.frozen
      have e3 := bb4.cell
      unfold sv
      clear e0 e1
      go_wp2_with fail
      have hp : ∀ x y, Put w4 ((w4.setCell ⟨w.heap.size, 0, none⟩ x).setCell ⟨w.heap.size, 1, none⟩ y) w.heap.size := fun x y => (Put.set _ _ _ _).trans (Put.set _ _ _ _)
      refine ⟨⟨j + 1, by omega, by go_num, hrow4.put (hp _ _) (by omega), _, w3.heap.size, w4.heap.size, blk_set2 bb4, hT4.put (hp _ _) (.inl bb3.lt), hrow3.out (Nat.le_refl _), by rw [(hp _ _).size]; exact Nat.le_refl _, below_put hB4 (hp _ _) (Nat.le_refl _), by rw [(hp _ _).size]; exact bb4.lt⟩, by simp [intOf]; omega⟩
    · obtain rfl : j = n := by omega
      have htk : coins.take j = coins := by rw [← HC.out, List.take_length]
      rw [htk] at hrow hT
      have hlT : (bndAll tabs coins).length = tabs.length := HBl.out coins
      have HV := Lib.hid (show rngL tabs.length (fun k => valT (bndAll tabs coins) 0 k) = prvV tabs coins by
        unfold prvV
        rw [← hlT]
        apply List.ext_getElem?
        intro k
        by_cases hk : k < (bndAll tabs coins).length
        · rw [rngL_get _ _ k hk, List.getElem?_map, List.getElem?_eq_getElem hk]
          simp [valT, List.getD, hk]
        · rw [List.getElem?_eq_none (by rw [rngL_length]; omega), List.getElem?_eq_none (by rw [List.length_map]; omega)])
      have HT := Lib.hid hT
      obtain ⟨AT, capT, rfl⟩ := hT.len
      rw [hlT] at bb HT
      have HLT := Lib.hid hlT
      have HRW := Lib.hid hrow
      have HMK := Lib.hid (mk_ext tabs.length (by omega))
      have e0 := bb.cell
      have HT0 := Lib.hid (fun k (hk : k < tabs.length) => show ∃ t, (bndAll tabs coins)[k]? = some t ∧ t.length = 1 from ⟨_, List.getElem?_eq_getElem (by rw [hlT]; exact hk), HAe.out _ (List.getElem_mem ..)⟩)
      clear hT hlT htk hrow
      generalize bndAll tabs coins = T at *
      obtain ⟨wo, hwo⟩ : ∃ wo, wo = wr := ⟨_, rfl⟩
      subst hwo
      go_upto_region 9 with (simp only [HMK.out])
      refine wp_stk1 fun X hBX hzX bv => ?_
      have bbX := bb.keep hBX
      have HTX := Lib.hid (HT.out.keep hBX)
      have hRX := Lib.hid ((HRW.out.tabs (by rw [HPL.out, HC.out]; omega)).keep hBX)
      have hBXw := hBr.trans (hBX.mono hBr.size)
      have hbl := bb.lt
      clear e0 bb HT HRW hzX
      have e0 := bbX.cell
      go_wp2_with fail
      clear e0
      rw [rngL_zero] at bv
      have bv0 : Blk X wo.heap.size 26 ((rngL tabs.length (mixF 0 (fun k => valT T 0 k) (fun _ => 0))).flatMap ec).toArray := by
        rw [rngL_congr _ (mixF 0 (fun k => valT T 0 k) (fun _ => 0)) (fun _ => 0) (fun j _ => mixF_zero _ _ j)]; exact bv
      clear bv
      go_loopw [34] (fun i wr => ∃ k : Nat, k ≤ tabs.length ∧ i = .int .i64 k ∧ Blk wr wo.heap.size 26 ((rngL tabs.length (mixF k (fun k => valT T 0 k) (fun _ => 0))).flatMap ec).toArray ∧ Put X wr wo.heap.size) (fun i _ => tabs.length - (intOf i).toNat)
      case atStart => exact ⟨0, Nat.zero_le _, rfl, bv0, Put.refl _ _⟩
      case round =>
        obtain ⟨k, hk, rfl, bv, hp⟩ := hrel
        clear bv0
        by_cases hkl : k < tabs.length
        · obtain ⟨t, ht, ht1⟩ := HT0.out k hkl
          obtain ⟨g, off, cap', hv, q1, q2, q3, q4, q5⟩ := tabs_cells (HTX.out.put hp (.inr hH)) (by rw [HLT.out]; omega)
          rw [HLT.out] at hv
          cases hv
          obtain ⟨A2, c2, d0, hE⟩ := q5 k t ht
          obtain ⟨g2, off2, cap2, hv, r1, r2, r3, r4, r5⟩ := exts_cells hE (by omega)
          rw [ht1] at hv d0 r1
          cases hv
          obtain ⟨x, hx, hxd⟩ := get_of (l := t) (k := 0) (by omega)
          obtain ⟨d1, d2⟩ := r5 0 x hx
          simp only [Nat.zero_mul, Nat.add_zero] at d1 d2
          have HX : valT T 0 k = x := by unfold valT; rw [show T.getD k [] = t by simp [List.getD, ht]]; exact hxd
          have HS1 := Lib.hid (mixF_set tabs.length (fun k => valT T 0 k) (fun _ => 0) k)
          rw [HX] at HS1
          obtain ⟨s1, s2⟩ := blk_cellE bv (rngL_get tabs.length (mixF k (fun k => valT T 0 k) (fun _ => 0)) k hkl)
          have e1 := bv.frozen
          have b2 := Lib.hid (blk_setE bv k x (by rw [rngL_length]; exact hkl))
          rw [HS1.out] at b2
          clear q5 r5 ht hE hx hxd HX
          go_wp2_with fail
          exact ⟨⟨k + 1, by omega, by go_num, b2.out, (hp.trans (Put.set _ wo.heap.size _ _)).trans (Put.set _ wo.heap.size _ _)⟩, by simp [intOf]; omega⟩
        · obtain rfl : k = tabs.length := by omega
          rw [rngL_congr _ _ _ (fun j hj => mixF_all _ _ _ _ hj), HV.out] at bv
          have hlV : (prvV tabs coins).length = tabs.length := by rw [← HV.out, rngL_length]
          go_wp2_with fail
          go_ret2
          have hXs := hp.size
          have hXo := hBX.size
          refine ⟨_, _, rfl, (hRX.out.put hp (.inr (Nat.le_refl _))).wide (by omega) (by omega), ?_, below_put hBXw hp (by omega)⟩
          have := exts_of_blk bv hlV (by omega) (show w.heap.size ≤ wo.heap.size by omega) bv.lt
          exact this
end Go.Proofs.YtipaecageimnnaaDoor
