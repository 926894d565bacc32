/-
  The program's keyed digest.
  The reference's digests of leaves, of pairs, and the keyed digest.
  The library's Backward by contract, and a range over an iterator of two values a round whose rounds all go on.
  Reading bytes in mathematics: parsers that take exactly what was written.
  The program's reading of a number.
  An append onto a row without room; literals of bytes in their form.
  The program's transcripts: the next hash output.
-/
import Derived.Test.YtoiampgfnidfdaaGreatDoorLf26
import Derived.Test.YtoiampgfnidfdaaGreatDoorGb3
import Derived.Test.YtoiampgfnidfdaaGreatDoorZv
import Derived.ArgAppend
import Derived.Test.YtoiampgfnidfdaaGreatDoorMt26
namespace Go.Proofs.YtoiampgfnidfdaaGreatDoor
open Go.RowKit

theorem b64_info : (Tryz.prog.info? 162).map (fun i => (i.zero, i.size, i.bytes)) = some (some (.agg (zb 64).toArray), 64, 64) := by kernel_rfl
def mskG (key : Dg) (m k : Nat) : List Nat := (key.take k).map (fun x => x ^^^ m) ++ List.replicate (64 - k) m
theorem mskG_get (key : Dg) (m k : Nat) (h : key.length = 32) (hk : k < 32) : (mskG key m k)[k]? = some m := by
  unfold mskG
  rw [List.getElem?_append_right (by simp; omega)]
  have e : k - ((key.take k).map fun x => x ^^^ m).length = 0 := by simp [h]; omega
  rw [e, List.getElem?_replicate]
  rw [if_pos (by omega)]
theorem mskG_next (key : Dg) (m k x : Nat) (h : key.length = 32) (hx : key[k]? = some x) : mskG key m (k + 1) = (mskG key m k).set k (x ^^^ m) := by
  have hk : k < 32 := by rw [← h]; exact (List.getElem?_eq_some_iff.1 hx).1
  unfold mskG
  rw [List.take_add_one, hx, List.map_append, List.set_append_right _ _ (by simp; omega)]
  simp only [Option.toList_some, List.map_cons, List.map_nil, List.append_assoc, List.length_map, List.length_take, h]
  rw [show k - min k 32 = 0 by omega, show 64 - k = (64 - (k + 1)) + 1 by omega, List.replicate_succ, List.set_cons_zero]
  rfl
theorem mskG_all (key : Dg) (m : Nat) (h : key.length = 32) : mskG key m 32 = maskK key m := by
  unfold mskG maskK
  rw [List.take_of_length_le (by omega), List.map_append]
  simp
theorem mskG_zero (key : Dg) (m : Nat) : mskG key m 0 = List.replicate 64 m := by simp [mskG]
theorem byc_set (l : List Nat) (k x : Nat) : (byc l).set k (.int .u8 (x : Int)) = byc (l.set k x) := by unfold byc; rw [List.map_set]
theorem rep_snoc (k m : Nat) : List.replicate (k + 1) m = List.replicate k m ++ [m] := List.replicate_succ'
theorem set11 {M : World → Prop} {w : World} {g h i j : Nat} {t u : TypeId} {cs ds : Array Value} {v x : Value} (b1 : Blk w g t cs) (b2 : Blk w h u ds) (hne : g ≠ h) (H : ∀ X1 X2, Put w X1 g → Put X1 X2 h → Blk X2 g t (cs.setIfInBounds i v) → Blk X2 h u (ds.setIfInBounds j x) → M X2) :
    M ((w.setCell ⟨g, i, none⟩ v).setCell ⟨h, j, none⟩ x) :=
  H _ _ (Put.set w g i v) (Put.set _ h j x) ((Put.set _ h j x).blk (b1.set_ i v) hne) (((Put.set w g i v).blk b2 (fun e => hne e.symm)).set_ j x)
theorem run_ixB {key : Dg} {k x : Nat} (h : key.length = 32) (hk : k < 32) (hx : key[k]? = some x) (w : World) : (Instr.index 23 (.agg (byc key).toArray) (.int .i64 (k : Int))).run Tryz.prog w = .ok (.int .u8 (x : Int)) w := by
  obtain ⟨i, hi, hs⟩ : ∃ i, Tryz.prog.info? 5 = some i ∧ i.size = 1 := by
    obtain ⟨i, h1, -, h2, -⟩ := info_parts u8_info
    exact ⟨i, h1, h2⟩
  have h1 : (k : Int) < 32 := by omega
  have h2 : (byc key)[k]? = some (.int .u8 (x : Int)) := by simp [byc, hx]
  have h3 : k < (byc key).length := by rw [byc_len', h]; exact hk
  generalize byc key = l at *
  obtain ⟨_, h4⟩ := List.getElem?_eq_some_iff.1 h2
  simp [Instr.index, asIntOf, run_underlying b32_under, run_underlying u8_under, part, sizeOf, typeInfo, hi, hs, h1, h4, h2, h3]
  omega
theorem xor_tab : ((List.range 256).all fun x => (bits .xor .u8 54 (x : Int) == ((x ^^^ 54 : Nat) : Int)) && (bits .xor .u8 92 (x : Int) == ((x ^^^ 92 : Nat) : Int))) = true := by kernel_rfl
theorem xor54 {x : Nat} (h : x < 256) : bits .xor .u8 54 (x : Int) = ((x ^^^ 54 : Nat) : Int) := by
  have := List.all_eq_true.1 xor_tab x (List.mem_range.2 h)
  simp only [Bool.and_eq_true, beq_iff_eq] at this
  exact this.1
theorem xor92 {x : Nat} (h : x < 256) : bits .xor .u8 92 (x : Int) = ((x ^^^ 92 : Nat) : Int) := by
  have := List.all_eq_true.1 xor_tab x (List.mem_range.2 h)
  simp only [Bool.and_eq_true, beq_iff_eq] at this
  exact this.2
theorem byc_64 {W : World} {g : Nat} {t : TypeId} {d : List Nat} (h : Blk W g t (byc d).toArray) (hd : d.length = 64) : ByS 0 W.heap.size W (.slice (some ⟨g, 0, none⟩) 64 64) d := by
  have := bys_blk (lo := 0) (hi := W.heap.size) (l := d) h (by omega) (Nat.zero_le _) h.lt
  rwa [hd] at this
theorem en_attestor_sha256_Keyed : ∀ args w, (callFunc 99 args).run Tryz.prog w = .ok (.enter 99 args) w := enters_of Tryz.func99 (by kernel_rfl) rfl
attribute [local irreducible] wpRg
set_option maxRecDepth 100000 in
set_option maxHeartbeats 4000000 in
theorem gKeyed (key : Dg) (hk : DgOk key) (b : List Nat) (hb : b.length ≤ 900000) (hb8 : ∀ x ∈ b, x < 256) (v : Value) (lo hi : Nat) (w : World) (hL : Lsh w) (h : ByS lo hi w v b) : Calls Tryz.prog 99 #[dgv key, v] w (Ret (dgv (keyD key b)) w) := by
  obtain ⟨A, cap, rfl⟩ := h.len
  obtain ⟨Sk, hSk⟩ : ∃ S, S = dgv key := ⟨_, rfl⟩
  rw [← hSk]
  obtain ⟨isl, hsl, sz0, sz1, sz2⟩ := info_parts byls_info
  obtain ⟨i64, h64, iz0, iz1, iz2⟩ := info_parts b64_info
  have HV := Lib.hid h
  have HL := Lib.hid hL
  have HK := Lib.hid hk
  have H8 := Lib.hid hb8
  clear h hL hk hb8
  go_enter Tryz.func99, Tryz.ntmps99
  go_upto_region 1 with (fail)
  refine wp_stk2 fun W hB hz b2 b4 => ?_
  have b2' : Blk W w.heap.size 23 (byc key).toArray := by first | exact b2 | (rw [hSk] at b2; exact b2)
  obtain ⟨cs0, hcs0, b4'⟩ : ∃ cs : Array Value, cs.size = 32 ∧ Blk W (w.heap.size + 1) 23 cs := ⟨_, rfl, b4⟩
  have hWs : W.heap.size = w.heap.size + 1 + 1 := hz.out
  clear b2 b4 hz
  refine wp_region_lit ?_
  refine wpList_plain rfl fun K1 hK1 => wp_of_step (stepAt_mono (fun v5 w5 hh => ?_) (step_new0 h64 iz0 rfl))
  obtain ⟨rfl, rfl⟩ := hh
  refine hK1 _ _ ?_
  clear hK1 K1
  try simp only [Act.put, List.setIfInBounds_toArray, List.set_cons_succ, List.set_cons_zero]
  have c5 : Blk (W.alloc (.cells (Value.agg (zb 64).toArray).cells 162)) W.heap.size 162 (zb 64).toArray := World.alloc_heap_new W _
  have B5 := (Below.refl _ W).alloc (Nat.le_refl _) (.cells (Value.agg (zb 64).toArray).cells 162)
  have s5 : (W.alloc (.cells (Value.agg (zb 64).toArray).cells 162)).heap.size = W.heap.size + 1 := by simp
  generalize W.alloc (.cells (Value.agg (zb 64).toArray).cells 162) = w5 at *
  refine wpList_plain rfl fun K2 hK2 => wp_of_step (stepAt_mono (fun v6 w6 hh => ?_) (step_new0 h64 iz0 rfl))
  obtain ⟨rfl, rfl⟩ := hh
  refine hK2 _ _ ?_
  clear hK2 K2
  try simp only [Act.put, List.setIfInBounds_toArray, List.set_cons_succ, List.set_cons_zero]
  have c6 : Blk (w5.alloc (.cells (Value.agg (zb 64).toArray).cells 162)) w5.heap.size 162 (zb 64).toArray := World.alloc_heap_new w5 _
  have B6 := (Below.refl _ w5).alloc (Nat.le_refl _) (.cells (Value.agg (zb 64).toArray).cells 162)
  have s6 : (w5.alloc (.cells (Value.agg (zb 64).toArray).cells 162)).heap.size = w5.heap.size + 1 := by simp
  generalize w5.alloc (.cells (Value.agg (zb 64).toArray).cells 162) = w6 at *
  have c5' := c5.keep B6
  have b26 := (b2'.keep B5).keep B6
  have b46 := (b4'.keep B5).keep B6
  have hB6 := (hB.trans (B5.mono hB.size)).trans (B6.mono (by omega))
  rw [s5] at c6 ⊢
  obtain ⟨g5, hg5⟩ : ∃ g, g = W.heap.size := ⟨_, rfl⟩
  rw [← hg5] at c5' c6 ⊢
  have hg : w.heap.size + 1 + 1 = g5 := by omega
  have c50 : Blk w6 g5 162 (arrB 64 (List.replicate 0 54)).toArray := by rw [List.replicate_zero, arrB_zero]; exact c5'
  have c60 : Blk w6 (g5 + 1) 162 (arrB 64 (List.replicate 0 92)).toArray := by rw [List.replicate_zero, arrB_zero]; exact c6
  clear c5 c5' c6 B5 B6 s5 s6 b2' b4' hB hWs hg5
  try simp only [Act.put, List.setIfInBounds_toArray, List.set_cons_succ, List.set_cons_zero]
  go_wp2_with fail
  go_loopw [11] (fun i wr => ∃ k : Nat, k ≤ 64 ∧ i = .int .i64 k ∧ Blk wr g5 162 (arrB 64 (List.replicate k 54)).toArray ∧ Blk wr (g5 + 1) 162 (arrB 64 (List.replicate k 92)).toArray ∧ Blk wr w.heap.size 23 (byc key).toArray ∧ Blk wr (w.heap.size + 1) 23 cs0 ∧ Below w.heap.size w wr) (fun i _ => 64 - (intOf i).toNat)
  case atStart => exact ⟨0, Nat.zero_le _, rfl, c50, c60, b26, b46, hB6⟩
  case round =>
    clear c50 c60 b26 b46 hB6
    obtain ⟨k, hk, rfl, c5, c6, b2, b4, hBr⟩ := hrel
    by_cases hlt : k < 64
    · have e1 := c5.frozen
      have e3 := c6.frozen
      have e2 : wr.cell? ⟨g5, k, none⟩ = some (.int .u8 0) := (c5.cell k).trans (by have := arrB_next 64 (List.replicate k 54) (by simpa using hlt); rw [List.length_replicate] at this; simpa using this)
      have e4 : wr.cell? ⟨g5 + 1, k, none⟩ = some (.int .u8 0) := (c6.cell k).trans (by have := arrB_next 64 (List.replicate k 92) (by simpa using hlt); rw [List.length_replicate] at this; simpa using this)
      go_upto_region 6 with (fail)
      refine set11 (M := fun W => Code.wp _ _ _ _ W) c5 c6 (by omega) fun X1 X2 hX1 hX2 bX5 bX6 => ?_
      have c5X : Blk X2 g5 162 (arrB 64 (List.replicate (k + 1) 54)).toArray := by
        have := arrB_set 64 (List.replicate k 54) 54 (by simpa using hlt)
        rw [List.length_replicate] at this
        rw [rep_snoc, ← this, ← List.setIfInBounds_toArray]
        exact bX5
      have c6X : Blk X2 (g5 + 1) 162 (arrB 64 (List.replicate (k + 1) 92)).toArray := by
        have := arrB_set 64 (List.replicate k 92) 92 (by simpa using hlt)
        rw [List.length_replicate] at this
        rw [rep_snoc, ← this, ← List.setIfInBounds_toArray]
        exact bX6
      have b2X := hX2.blk (hX1.blk b2 (by omega)) (by omega)
      have b4X := hX2.blk (hX1.blk b4 (by omega)) (by omega)
      have hBX := below_put (below_put hBr hX1 (by omega)) hX2 (by omega)
      clear e1 e2 e3 e4 bX5 bX6
      go_wp2_with fail
      exact ⟨⟨k + 1, by omega, by go_num, c5X, c6X, b2X, b4X, hBX⟩, by simp [intOf]; omega⟩
    · obtain rfl : k = 64 := by omega
      have hkl := HK.out.1
      rw [arrB_full 64 _ (by simp), ← mskG_zero key 54] at c5
      rw [arrB_full 64 _ (by simp), ← mskG_zero key 92] at c6
      go_upto_region 7 with (fail)
      refine wp_region_lit ?_
      refine wpList_plain rfl fun K4 hK4 => wp_of_step (stepAt_mono (fun v19 w19 hh => ?_) (step_loadR0 (cs := byc key) b32_under rfl (by rw [b32_size, byc_length, hkl]) rfl rfl (blk_range b2)))
      obtain ⟨rfl, rfl⟩ := hh
      refine hK4 _ _ ?_
      clear hK4 K4
      try simp only [Act.put, List.setIfInBounds_toArray, List.set_cons_succ, List.set_cons_zero]
      have b2' : Blk w19 w.heap.size 23 (byc key).toArray := b2
      iterate 1 (refine wpList_plain rfl fun K hK => ?_; go_big_op; refine hK _ _ ?_; clear hK K)
      try simp only [Act.put, List.setIfInBounds_toArray, List.set_cons_succ, List.set_cons_zero]
      have HSk := Lib.hid hSk
      clear hSk
      obtain ⟨S1, hS1⟩ : ∃ S, S = Value.agg (byc key).toArray := ⟨_, rfl⟩
      rw [← hS1]
      have HS1 := Lib.hid hS1
      clear hS1
      go_wp2_with fail
      go_loopw [20] (fun i wr => ∃ k : Nat, k ≤ 32 ∧ i = .int .i64 k ∧ Blk wr g5 162 (byc (mskG key 54 k)).toArray ∧ Blk wr (g5 + 1) 162 (byc (mskG key 92 k)).toArray ∧ Blk wr w.heap.size 23 (byc key).toArray ∧ Blk wr (w.heap.size + 1) 23 cs0 ∧ Below w.heap.size w wr) (fun i _ => 32 - (intOf i).toNat)
      case atStart => exact ⟨0, Nat.zero_le _, rfl, c5, c6, b2', b4, hBr⟩
      case round =>
        clear c5 c6 b2' b2 b4 hBr
        obtain ⟨k, hk, rfl, c5, c6, b2, b4, hBr⟩ := hrel
        by_cases hlt : k < 32
        · obtain ⟨x, hx⟩ : ∃ x, key[k]? = some x := ⟨key[k]'(by omega), List.getElem?_eq_getElem (by omega)⟩
          have hx8 : x < 256 := HK.out.2 x (List.mem_of_getElem? hx)
          have e1 := c5.frozen
          have e3 := c6.frozen
          have e2 : wr.cell? ⟨g5, k, none⟩ = some (.int .u8 54) := (c5.cell k).trans (by simp [byc, mskG_get key 54 k hkl hlt])
          have e4 : wr.cell? ⟨g5 + 1, k, none⟩ = some (.int .u8 92) := (c6.cell k).trans (by simp [byc, mskG_get key 92 k hkl hlt])
          have hix := run_ixB (key := key) hkl hlt hx
          rw [← HS1.out] at hix
          go_upto_region 12 with (fail)
          rw [xor54 hx8, xor92 hx8]
          refine set11 (M := fun W => Code.wp _ _ _ _ W) c5 c6 (by omega) fun X1 X2 hX1 hX2 bX5 bX6 => ?_
          rw [List.setIfInBounds_toArray, byc_set, ← mskG_next key 54 k x hkl hx] at bX5
          rw [List.setIfInBounds_toArray, byc_set, ← mskG_next key 92 k x hkl hx] at bX6
          have b2X := hX2.blk (hX1.blk b2 (by omega)) (by omega)
          have b4X := hX2.blk (hX1.blk b4 (by omega)) (by omega)
          have hBX := below_put (below_put hBr hX1 (by omega)) hX2 (by omega)
          clear e1 e2 e3 e4 hix c5 c6 b2 b4 hBr hX1 hX2
          go_wp2_with fail
          exact ⟨⟨k + 1, by omega, by go_num, bX5, bX6, b2X, b4X, hBX⟩, by simp [intOf]; omega⟩
        · obtain rfl : k = 32 := by omega
          rw [mskG_all key 54 hkl] at c5
          rw [mskG_all key 92 hkl] at c6
          have hm : ∀ m, m < 256 → ∀ x ∈ maskK key m, x < 256 := fun m hm x hx => by
            unfold maskK at hx
            obtain ⟨y, hy, rfl⟩ := List.mem_map.1 hx
            refine Nat.xor_lt_two_pow (n := 8) ?_ hm
            rcases List.mem_append.1 hy with hy | hy
            · exact HK.out.2 y hy
            · rw [(List.mem_replicate.1 hy).2]; decide
          have hml : ∀ m, (maskK key m).length = 64 := fun m => by simp [maskK, hkl]
          have s5 := bys_blk (lo := 0) (hi := wr.heap.size) c5 (by rw [hml]; decide) (Nat.zero_le _) c5.lt
          rw [hml] at s5
          go_upto_region 13 with (fail)
          refine wp_region_lit ?_
          iterate 2 (refine wpList_plain rfl fun K hK => ?_; go_big_op; refine hK _ _ ?_; clear hK K)
          refine wpList_plain rfl fun K8 hK8 => wp_of_step (stepAt_mono (fun v39 w39 hh => ?_) (step_litF (parts := [(0, .tmp 37), (1, .tmp 38)]) (vs := [.slice (some ⟨g5, 0, none⟩) 64 64, .slice A b.length cap]) byls_slice hsl sz0 sz1 rfl (by simp) (by simp) rfl rfl (by simp [Value.cells])))
          obtain ⟨l39, B39⟩ := hh
          refine hK8 _ _ ?_
          clear hK8 K8
          try simp only [Act.put, List.setIfInBounds_toArray, List.set_cons_succ, List.set_cons_zero]
          have y39 := byl_lit (ps := [maskK key 54, b]) l39 rfl (by simp) rfl rfl B39 (bys2 s5 (HV.out.keep hBr))
          have hB39 := hBr.trans (B39.mono hBr.size)
          have hF1 : [maskK key 54, b].flatten.length ≤ 1000000 := by simp [hml]; omega
          refine wpList_plain rfl fun K9 hK9 => wp_of_step (stepAt_mono (fun v40 w40 hh => ?_) (step_callr en_slices_Concat (gConcat [maskK key 54, b] hF1 (by simp) _ _ _ w39 y39.byl) rfl rfl))
          obtain ⟨o40, B40⟩ := hh
          refine hK9 _ _ ?_
          clear hK9 K9
          try simp only [Act.put, List.setIfInBounds_toArray, List.set_cons_succ, List.set_cons_zero]
          have hB40 := hB39.trans (B40.mono hB39.size)
          have h81 : ∀ x ∈ [maskK key 54, b].flatten, x < 256 := fun x hx => by
            simp only [List.flatten_cons, List.flatten_nil, List.append_nil, List.mem_append] at hx
            rcases hx with hx | hx
            · exact hm 54 (by decide) x hx
            · exact H8.out x hx
          refine wpList_plain rfl fun K10 hK10 => wp_of_step (stepAt_mono (fun v41 w41 hh => ?_) (step_callv en_attestor_sha256_Sum (gSum _ hF1 h81 _ _ _ w40 (HL.out.keep hB40) (o40.bys (Nat.le_trans hF1 (by decide)))) rfl rfl))
          obtain ⟨rfl, B41⟩ := hh
          refine hK10 _ _ ?_
          clear hK10 K10
          try simp only [Act.put, List.setIfInBounds_toArray, List.set_cons_succ, List.set_cons_zero]
          have hB41 := hB40.trans (B41.mono hB40.size)
          have e1 : sha [maskK key 54, b].flatten = sha (maskK key 54 ++ b) := by simp
          obtain ⟨i32', h32, i320, i321, i322⟩ := info_parts b32_info
          rw [e1]
          obtain ⟨d, hd⟩ : ∃ d, d = sha (maskK key 54 ++ b) := ⟨_, rfl⟩
          have hdk : DgOk d := by rw [hd]; exact ⟨sha_length _, sha_lt _⟩
          have hF2 : [maskK key 92, d].flatten.length ≤ 1000000 := by simp [hml, hdk.1]
          have h82 : ∀ x ∈ [maskK key 92, d].flatten, x < 256 := fun x hx => by
            simp only [List.flatten_cons, List.flatten_nil, List.append_nil, List.mem_append] at hx
            rcases hx with hx | hx
            · exact hm 92 (by decide) x hx
            · exact hdk.2 x hx
          rw [← hd]
          refine wpList_plain rfl fun K11 hK11 => wp_of_step (stepAt_mono (fun v10 w10 hh => ?_) (step_new0 h32 i320 rfl))
          obtain ⟨rfl, rfl⟩ := hh
          refine hK11 _ _ ?_
          clear hK11 K11
          try simp only [Act.put, List.setIfInBounds_toArray, List.set_cons_succ, List.set_cons_zero]
          have c10 : Blk (w41.alloc (.cells (Value.agg (zb 32).toArray).cells 23)) w41.heap.size 23 (zb 32).toArray := World.alloc_heap_new w41 _
          have BA := (Below.refl _ w41).alloc (Nat.le_refl _) (.cells (Value.agg (zb 32).toArray).cells 23)
          obtain ⟨g10, hg10⟩ : ∃ g, g = w41.heap.size := ⟨_, rfl⟩
          rw [← hg10] at c10 ⊢
          refine wpList_put rfl 23 (.tmp 10) (.tmp 41) rfl rfl (cells := byc d) rfl c10 (by rw [byc_length, hdk.1]; simp [zb]) (by rw [b32_size, byc_length, hdk.1]) (byc_all _) (spl_all _ _ (by rw [byc_length, hdk.1]; simp [zb])) fun X hX bX => ?_
          have h41 := B41.size
          have h40 := B40.size
          have h39 := B39.size
          have c6X := hX.blk (((((c6.keep B39).keep B40).keep B41).keep BA)) (by have := c6.lt; omega)
          have b4X := hX.blk (((((b4.keep B39).keep B40).keep B41).keep BA)) (by have := b4.lt; omega)
          have hBX : Below w.heap.size w X := below_put (hB41.trans (BA.mono hB41.size)) hX (by have := hB41.size; omega)
          have l6 := c6X.lt
          clear c5 c6 b2 b4 hBr s5 l39 y39 hB39 o40 hB40 hB41 h81 B39 B40 B41 BA c10 hX e1 hg10 h39 h40 h41
          try simp only [Act.put, List.setIfInBounds_toArray, List.set_cons_succ, List.set_cons_zero]
          go_upto_region 14 with (fail)
          refine wp_region_rg 5 [(2, Spec.rel (BylA [maskK key 92, d]) AnyV), (3, Spec.rel (OwA ([maskK key 92, d].flatten)) AnyV), (4, Spec.val (dgv (sha [maskK key 92, d].flatten)))] (by kernel_rfl) (by kernel_rfl) (by kernel_rfl) ⟨fit_of (byl_st), fit_of (ow_st), trivial⟩ ?_
          iterate 2 (refine rg_det rfl rfl rfl (fun K hK => ?_); go_big_quiet_op; refine hK _ ?_; clear hK K)
          refine rg_rel rfl rfl (fun W1 hW1 hF => stepAt_mono (fun v w' hh => ⟨byl_lit hh.1 rfl (by simp) rfl rfl hh.2 (bys2 (byc_64 (c6X.keep (grw_below hW1)) (hml 92)) (byc_blk (bX.keep (grw_below hW1)) hdk.1)), hh.2⟩) (step_litF (parts := [(0, .tmp 42), (1, .tmp 43)]) (vs := [.slice (some ⟨g5 + 1, 0, none⟩) 64 64, .slice (some ⟨g10, 0, none⟩) 32 32]) byls_slice hsl sz0 sz1 rfl (by simp) (by simp) rfl rfl (by simp [Value.cells]))) ?_
          intro n2 m2 v2 hn2 hm2 hd2 hf2 a' ha
          simp only [Act.put, List.setIfInBounds_toArray, List.set_cons_succ, List.set_cons_zero] at ha
          subst ha
          refine rg_rel rfl rfl (fun W1 hW1 hF => step_callr en_slices_Concat___byte_byte_ (gConcat [maskK key 92, d] hF2 (by simp) _ _ _ W1 (pick_last hF (by kernel_rfl)).2.byl) rfl rfl) ?_
          intro n3 m3 v3 hn3 hm3 hd3 hf3 a' ha
          simp only [Act.put, List.setIfInBounds_toArray, List.set_cons_succ, List.set_cons_zero] at ha
          subst ha
          refine rg_val rfl rfl (fun W1 hW1 hF => step_callv en_attestor_sha256_Sum (gSum _ hF2 h82 _ _ _ W1 (HL.out.keep (hBX.trans ((grw_below hW1).mono hBX.size))) ((pick_last hF (by kernel_rfl)).2.bys (Nat.le_trans hF2 (by decide)))) rfl rfl) ?_
          intro a' ha
          simp only [Act.put, List.setIfInBounds_toArray, List.set_cons_succ, List.set_cons_zero] at ha
          subst ha
          refine rg_nil (fun w' hw' hF => ?_)
          obtain ⟨z, rfl⟩ := hw'
          simp only [List.drop_succ_cons, List.drop_zero]
          have he2 : sha [maskK key 92, d].flatten = keyD key b := by rw [hd]; unfold keyD; simp
          rw [he2]
          have b4z := b4X.gw z
          have hBz := hBX.trans (z.h.mono hBX.size)
          refine wpList_put rfl 23 (.tmp 4) (.tmp 46) rfl rfl (cells := byc (keyD key b)) rfl b4z (by rw [byc_length, keyD, sha_length, hcs0]; decide) (by rw [b32_size, byc_length, keyD, sha_length]) (byc_all _) (spl_all _ _ (by rw [hcs0, byc_length, keyD, sha_length])) fun Y hY bY => ?_
          have hBY := below_put hBz hY (by omega)
          clear hF b4z hBz b4X bX c6X sz0 sz1 sz2 hsl
          go_wp2_with fail
          exact bodyPost_ret (v := dgv (keyD key b)) (res_row (g := w.heap.size + 1) rfl rfl b32_under rfl (by rw [b32_size, byc_length, keyD, sha_length]) bY) rfl ⟨rfl, hBY⟩
end Go.Proofs.YtoiampgfnidfdaaGreatDoor
namespace Go.Proofs.YtoiampgfnidfdaaGreatDoor
open Go.RowKit

theorem en_attestor_attestorref07_Masked : ∀ args w, (callFunc 118 args).run Tryz.prog w = .ok (.enter 118 args) w := enters_of Tryz.func118 (by kernel_rfl) rfl
theorem en_attestor_attestorref07_Keyed : ∀ args w, (callFunc 88 args).run Tryz.prog w = .ok (.enter 88 args) w := enters_of Tryz.func88 (by kernel_rfl) rfl
theorem xor_tab2 : ((List.range 256).all fun x => (bits .xor .u8 (x : Int) 54 == ((x ^^^ 54 : Nat) : Int)) && (bits .xor .u8 (x : Int) 92 == ((x ^^^ 92 : Nat) : Int))) = true := by kernel_rfl
theorem xorM {m x : Nat} (hm : m = 54 ∨ m = 92) (h : x < 256) : bits .xor .u8 (x : Int) (m : Int) = ((x ^^^ m : Nat) : Int) := by
  have := List.all_eq_true.1 xor_tab2 x (List.mem_range.2 h)
  simp only [Bool.and_eq_true, beq_iff_eq] at this
  rcases hm with rfl | rfl
  · exact this.1
  · exact this.2
theorem maskK_len (key : Dg) (m : Nat) (h : key.length = 32) : (maskK key m).length = 64 := by simp [maskK, h]
theorem maskK_low (key : Dg) (m k x : Nat) (hx : key[k]? = some x) : (maskK key m)[k]? = some (x ^^^ m) := by
  have hk := (List.getElem?_eq_some_iff.1 hx).1
  unfold maskK
  rw [List.getElem?_map, List.getElem?_append_left hk, hx]
  rfl
theorem maskK_high (key : Dg) (m k : Nat) (h : key.length = 32) (h1 : 32 ≤ k) (h2 : k < 64) : (maskK key m)[k]? = some m := by
  unfold maskK
  rw [List.getElem?_map, List.getElem?_append_right (by omega), List.getElem?_replicate, if_pos (by omega)]
  simp
theorem maskK_lt (key : Dg) (m : Nat) (hk : DgOk key) (hm : m < 256) : ∀ x ∈ maskK key m, x < 256 := fun x hx => by
  unfold maskK at hx
  obtain ⟨y, hy, rfl⟩ := List.mem_map.1 hx
  refine Nat.xor_lt_two_pow (n := 8) ?_ hm
  rcases List.mem_append.1 hy with hy | hy
  · exact hk.2 y hy
  · rw [(List.mem_replicate.1 hy).2]; decide
attribute [local irreducible] wpRg
set_option maxRecDepth 100000 in
set_option maxHeartbeats 4000000 in
theorem rMasked (key : Dg) (hk : DgOk key) (m : Nat) (hm : m = 54 ∨ m = 92) (w : World) : Calls Tryz.prog 118 #[dgv key, .int .u8 (m : Int)] w (RetR (ByA (maskK key m)) w) := by
  obtain ⟨Sk, hSk⟩ : ∃ S, S = dgv key := ⟨_, rfl⟩
  rw [← hSk]
  have HK := Lib.hid hk
  have hkl := hk.1
  have HML := Lib.hid (maskK_len key m hkl)
  have HM := Lib.hid hm
  clear hk hm
  go_enter Tryz.func118, Tryz.ntmps118
  go_upto_region 1 with (fail)
  refine wp_stk1 fun W hB hz b2 => ?_
  have b2' : Blk W w.heap.size 23 (byc key).toArray := by first | exact b2 | (rw [hSk] at b2; exact b2)
  have hWs : W.heap.size = w.heap.size + 1 := hz.out
  clear b2 hz hSk
  go_wp2_with fail
  go_loopw [5, 6] (fun u i wr => ∃ k : Nat, k ≤ 64 ∧ i = .int .i64 k ∧ wr.ownsRow (w.heap.size + 1) 5 1 u ((maskK key m).take k).length (byc ((maskK key m).take k)) ∧ Blk wr w.heap.size 23 (byc key).toArray ∧ Below w.heap.size w wr) (fun _ i _ => 64 - (intOf i).toNat)
  case atStart =>
    refine ⟨0, Nat.zero_le _, rfl, ⟨rfl, .inr ⟨w.heap.size + 1, 0, #[], rfl, Nat.le_refl _, ?_, Nat.le_refl _, by simp, by simp [byc]⟩⟩, b2'.below ((Below.refl _ W).alloc (Nat.le_refl _) _) b2'.lt, hB.trans ((Below.refl _ W).alloc (by omega) _)⟩
    have := World.alloc_heap_new W (.cells #[] 5)
    rwa [hWs] at this
  case round =>
    clear b2' hB hWs
    obtain ⟨k, hk, rfl, hown, b2, hBr⟩ := hrel
    obtain ⟨A3, c3, rfl⟩ := own_slen hown
    by_cases hlt : k < 64
    · have hl : ((maskK key m).take k).length = k := by rw [List.length_take, HML.out]; omega
      have hbl := b2.lt
      by_cases h32 : k < 32
      · obtain ⟨x, hx⟩ : ∃ x, key[k]? = some x := ⟨key[k]'(by omega), List.getElem?_eq_getElem (by omega)⟩
        have hx8 : x < 256 := HK.out.2 x (List.mem_of_getElem? hx)
        have c1 : wr.cell? ⟨w.heap.size, k, none⟩ = some (.int .u8 (x : Int)) := (b2.cell k).trans (by simp [byc, hx])
        have HX := Lib.hid (show (maskK key m).take (k + 1) = (maskK key m).take k ++ [x ^^^ m] by rw [List.take_add_one, maskK_low key m k x hx]; rfl)
        clear hx
        generalize (maskK key m).take k = l at *
        go_upto_region 8 with (fail)
        rw [xorM HM.out hx8]
        rw [show Value.slice A3 l.length c3 = Value.slice A3 k c3 by rw [hl]] at hown
        refine wp_region_lit ?_
        iterate 2 (refine wpList_plain rfl fun K hK => ?_; go_big_op; refine hK _ _ ?_; clear hK K)
        refine wpList_push (l := l) (c := x ^^^ m) rfl rfl _ _ _ rfl rfl rfl (fun _ => rfl) (fun _ => rfl) hown (by omega) hbl fun v3 v4 w4 hown4 hB4 => ?_
        rw [← HX.out] at hown4
        have b24 := b2.below hB4 (Nat.lt_succ_self _)
        have hBw := hBr.trans (hB4.mono (Nat.le_succ _))
        clear hown hB4
        try simp only [Act.put, List.setIfInBounds_toArray, List.set_cons_succ, List.set_cons_zero]
        go_wp2_with fail
        exact ⟨⟨k + 1, by omega, by go_num, hown4, b24, hBw⟩, by simp [intOf]; omega⟩
      · have HX := Lib.hid (show (maskK key m).take (k + 1) = (maskK key m).take k ++ [m] by rw [List.take_add_one, maskK_high key m k hkl (by omega) hlt]; rfl)
        generalize (maskK key m).take k = l at *
        go_upto_region 8 with (fail)
        rw [show Value.slice A3 l.length c3 = Value.slice A3 k c3 by rw [hl]] at hown
        refine wp_region_lit ?_
        iterate 2 (refine wpList_plain rfl fun K hK => ?_; go_big_op; refine hK _ _ ?_; clear hK K)
        refine wpList_push (l := l) (c := m) rfl rfl _ _ _ rfl rfl rfl (fun _ => rfl) (fun _ => rfl) hown (by omega) hbl fun v3 v4 w4 hown4 hB4 => ?_
        rw [← HX.out] at hown4
        have b24 := b2.below hB4 (Nat.lt_succ_self _)
        have hBw := hBr.trans (hB4.mono (Nat.le_succ _))
        clear hown hB4
        try simp only [Act.put, List.setIfInBounds_toArray, List.set_cons_succ, List.set_cons_zero]
        go_wp2_with fail
        exact ⟨⟨k + 1, by omega, by go_num, hown4, b24, hBw⟩, by simp [intOf]; omega⟩
    · obtain rfl : k = 64 := by omega
      rw [List.take_of_length_le (by rw [HML.out]; exact Nat.le_refl _), HML.out] at hown
      rw [List.take_of_length_le (by rw [HML.out]; exact Nat.le_refl _), HML.out]
      go_wp2_with fail
      refine bodyPost_ret (v := .slice A3 64 c3) (by simp [results, Tryz.results118, go_sem]) rfl ⟨_, rfl, ?_, hBr⟩
      have hr := Rd.of_own hown (by decide) (Nat.le_refl _)
      unfold ByA ByS
      rw [HML.out]
      exact hr.wide (Nat.le_succ _) (Nat.le_refl _)
set_option maxRecDepth 100000 in
set_option maxHeartbeats 4000000 in
theorem rKeyed (key : Dg) (hk : DgOk key) (b : List Nat) (hb : b.length ≤ 900000) (hb8 : ∀ x ∈ b, x < 256) (v : Value) (lo hi : Nat) (w : World) (h : ByS lo hi w v b) : Calls Tryz.prog 88 #[dgv key, v] w (Ret (dgv (keyD key b)) w) := by
  obtain ⟨A, cap, rfl⟩ := h.len
  obtain ⟨Sk, hSk⟩ : ∃ S, S = dgv key := ⟨_, rfl⟩
  rw [← hSk]
  have HV := Lib.hid h
  have HK := Lib.hid hk
  have H81 := Lib.hid (show ∀ x ∈ maskK key 54 ++ b, x < 256 by
    intro x hx
    rcases List.mem_append.1 hx with hx | hx
    · exact maskK_lt key 54 hk (by decide) x hx
    · exact hb8 x hx)
  have HF1 := Lib.hid (show (maskK key 54 ++ b).length ≤ 1000000 by simp [maskK_len key 54 hk.1]; omega)
  obtain ⟨d, hd⟩ : ∃ d, d = sha (maskK key 54 ++ b) := ⟨_, rfl⟩
  have HD := Lib.hid hd
  have HDK := Lib.hid (show DgOk d by rw [hd]; exact ⟨sha_length _, sha_lt _⟩)
  have H82 := Lib.hid (show ∀ x ∈ maskK key 92 ++ d, x < 256 by
    intro x hx
    rcases List.mem_append.1 hx with hx | hx
    · exact maskK_lt key 92 hk (by decide) x hx
    · exact HDK.out.2 x hx)
  have HF2 := Lib.hid (show (maskK key 92 ++ d).length ≤ 1000000 by simp [maskK_len key 92 hk.1, HDK.out.1])
  have HE := Lib.hid (show sha (maskK key 92 ++ d) = keyD key b by rw [hd]; rfl)
  clear h hk hb8 hd
  go_enter Tryz.func88, Tryz.ntmps88
  go_upto_region 1 with (fail)
  refine wp_stk2 fun W hB hz b2 b4 => ?_
  have b2' : Blk W w.heap.size 23 (byc key).toArray := by first | exact b2 | (rw [hSk] at b2; exact b2)
  obtain ⟨cs0, hcs0, b4'⟩ : ∃ cs : Array Value, cs.size = 32 ∧ Blk W (w.heap.size + 1) 23 cs := ⟨_, rfl, b4⟩
  obtain ⟨i32', h32, i320, i321, i322⟩ := info_parts b32_info
  clear b2 b4 hz hSk
  have hkl := HK.out.1
  refine wp_region_lit ?_
  refine wpList_plain rfl fun K9 hK9 => wp_of_step (stepAt_mono (fun v6 w6 hh => ?_) (step_loadR0 (cs := byc key) b32_under rfl (by rw [b32_size, byc_length, hkl]) rfl rfl (blk_range b2')))
  obtain ⟨rfl, rfl⟩ := hh
  refine hK9 _ _ ?_
  clear hK9 K9
  try simp only [Act.put, List.setIfInBounds_toArray, List.set_cons_succ, List.set_cons_zero]
  refine wpList_plain rfl fun K10 hK10 => wp_of_step (stepAt_mono (fun v7 w7 hh => ?_) (step_callr en_attestor_attestorref07_Masked (rMasked key HK.out 54 (.inl rfl) _) rfl rfl))
  obtain ⟨s7, B7⟩ := hh
  refine hK10 _ _ ?_
  clear hK10 K10
  try simp only [Act.put, List.setIfInBounds_toArray, List.set_cons_succ, List.set_cons_zero]
  have hB7 := hB.trans (B7.mono hB.size)
  iterate 1 (refine wpList_plain rfl fun K hK => ?_; go_big_op; refine hK _ _ ?_; clear hK K)
  refine wpList_plain rfl fun K12 hK12 => wp_of_step (stepAt_mono (fun v9 w9 hh => ?_) (step_callr en_attestor_attestorref07_Join (rJoin (maskK key 54) b (by rw [maskK_len key 54 hkl]; decide) (by omega) _ _ _ _ _ _ w7 s7 (HV.out.keep hB7)) rfl rfl))
  obtain ⟨s9, B9⟩ := hh
  refine hK12 _ _ ?_
  clear hK12 K12
  try simp only [Act.put, List.setIfInBounds_toArray, List.set_cons_succ, List.set_cons_zero]
  have hB9 := hB7.trans (B9.mono hB7.size)
  refine wpList_plain rfl fun K13 hK13 => wp_of_step (stepAt_mono (fun v10 w10 hh => ?_) (step_callv en_attestor_attestorref07_Sum (rSum _ HF1.out H81.out _ _ _ w9 s9) rfl rfl))
  obtain ⟨rfl, B10⟩ := hh
  refine hK13 _ _ ?_
  clear hK13 K13
  try simp only [Act.put, List.setIfInBounds_toArray, List.set_cons_succ, List.set_cons_zero]
  have hB10 := hB9.trans (B10.mono hB9.size)
  rw [← HD.out]
  refine wpList_plain rfl fun K14 hK14 => wp_of_step (stepAt_mono (fun v5 w5 hh => ?_) (step_new0 h32 i320 rfl))
  obtain ⟨rfl, rfl⟩ := hh
  refine hK14 _ _ ?_
  clear hK14 K14
  try simp only [Act.put, List.setIfInBounds_toArray, List.set_cons_succ, List.set_cons_zero]
  have c5 : Blk (w10.alloc (.cells (Value.agg (zb 32).toArray).cells 23)) w10.heap.size 23 (zb 32).toArray := World.alloc_heap_new w10 _
  have BA := (Below.refl _ w10).alloc (Nat.le_refl _) (.cells (Value.agg (zb 32).toArray).cells 23)
  obtain ⟨g5, hg5⟩ : ∃ g, g = w10.heap.size := ⟨_, rfl⟩
  rw [← hg5] at c5 ⊢
  refine wpList_put rfl 23 (.tmp 5) (.tmp 10) rfl rfl (cells := byc d) rfl c5 (by rw [byc_length, HDK.out.1]; simp [zb]) (by rw [b32_size, byc_length, HDK.out.1]) (byc_all _) (spl_all _ _ (by rw [byc_length, HDK.out.1]; simp [zb])) fun X hX bX => ?_
  have h10 := hB10.size
  have hll := b2'.lt
  have hll4 := b4'.lt
  have hq : w6.heap.size ≤ g5 := by have := B7.size; have := B9.size; have := B10.size; omega
  have b2X := hX.blk ((((b2'.keep B7).keep B9).keep B10).keep BA) (by omega)
  have b4X := hX.blk ((((b4'.keep B7).keep B9).keep B10).keep BA) (by omega)
  have hBX : Below w.heap.size w X := below_put (hB10.trans (BA.mono h10)) hX (by omega)
  clear b2' b4' hB7 hB9 hB10 B7 B9 B10 BA hX c5 s7 s9 hg5 h10 hll hll4
  try simp only [Act.put, List.setIfInBounds_toArray, List.set_cons_succ, List.set_cons_zero]
  go_upto_region 2 with (fail)
  refine wp_region_rg 6 [(0, Spec.val (dgv key)), (1, Spec.rel (ByA (maskK key 92)) AnyV), (2, Spec.val (dgv d)), (3, Spec.rel (ByA d) AnyV), (4, Spec.rel (ByA (maskK key 92 ++ d)) AnyV), (5, Spec.val (dgv (sha (maskK key 92 ++ d))))] (by kernel_rfl) (by kernel_rfl) (by kernel_rfl) ⟨fit_of (by_st), fit_of (by_st), fit_of (by_st), trivial⟩ ?_
  refine rg_val rfl rfl (fun W1 hW1 hF => step_loadR (cs := byc key) b32_under rfl (by rw [b32_size, byc_length, hkl]) rfl rfl (blk_range (b2X.keep (grw_below hW1)))) ?_
  intro a' ha
  simp only [Act.put, List.setIfInBounds_toArray, List.set_cons_succ, List.set_cons_zero] at ha
  subst ha
  refine rg_rel rfl rfl (fun W1 hW1 hF => step_callr en_attestor_attestorref07_Masked (rMasked key HK.out 92 (.inr rfl) W1) rfl rfl) ?_
  intro n1 m1 v1 hn1 hm1 hd1 hf1 a' ha
  simp only [Act.put, List.setIfInBounds_toArray, List.set_cons_succ, List.set_cons_zero] at ha
  subst ha
  refine rg_val rfl rfl (fun W1 hW1 hF => step_loadR (cs := byc d) b32_under rfl (by rw [b32_size, byc_length, HDK.out.1]) rfl rfl (blk_range (bX.keep (grw_below hW1)))) ?_
  intro a' ha
  simp only [Act.put, List.setIfInBounds_toArray, List.set_cons_succ, List.set_cons_zero] at ha
  subst ha
  refine rg_rel rfl rfl (fun W1 hW1 hF => step_callr en_attestor_attestorref07_Bytes (rBytes d HDK.out.1 W1) rfl rfl) ?_
  intro n3 m3 v3 hn3 hm3 hd3 hf3 a' ha
  simp only [Act.put, List.setIfInBounds_toArray, List.set_cons_succ, List.set_cons_zero] at ha
  subst ha
  refine rg_rel rfl rfl (fun W1 hW1 hF => step_callr en_attestor_attestorref07_Join (rJoin (maskK key 92) d (by rw [maskK_len key 92 hkl]; decide) (by rw [HDK.out.1]; decide) _ _ _ _ _ _ W1 (pick_last (pick_init hF) (by kernel_rfl)).2 (pick_last hF (by kernel_rfl)).2) rfl rfl) ?_
  intro n4 m4 v4 hn4 hm4 hd4 hf4 a' ha
  simp only [Act.put, List.setIfInBounds_toArray, List.set_cons_succ, List.set_cons_zero] at ha
  subst ha
  refine rg_val rfl rfl (fun W1 hW1 hF => step_callv en_attestor_attestorref07_Sum (rSum _ HF2.out H82.out _ _ _ W1 (pick_last hF (by kernel_rfl)).2) rfl rfl) ?_
  intro a' ha
  simp only [Act.put, List.setIfInBounds_toArray, List.set_cons_succ, List.set_cons_zero] at ha
  subst ha
  refine rg_nil (fun w' hw' hF => ?_)
  obtain ⟨z, rfl⟩ := hw'
  simp only [List.drop_succ_cons, List.drop_zero]
  rw [HE.out]
  have b1z := b4X.gw z
  have hBz := hBX.trans (z.h.mono hBX.size)
  refine wpList_put rfl 23 (.tmp 4) (.tmp 16) rfl rfl (cells := byc (keyD key b)) rfl b1z (by rw [byc_length, keyD, sha_length, hcs0]; decide) (by rw [b32_size, byc_length, keyD, sha_length]) (byc_all _) (spl_all _ _ (by rw [hcs0, byc_length, keyD, sha_length])) fun Y hY bY => ?_
  have hBY := below_put hBz hY (by omega)
  clear hF b1z hBz b2X b4X bX
  go_wp2_with fail
  exact bodyPost_ret (v := dgv (keyD key b)) (res_row (g := w.heap.size + 1) rfl rfl b32_under rfl (by rw [b32_size, byc_length, keyD, sha_length]) bY) rfl ⟨rfl, hBY⟩
end Go.Proofs.YtoiampgfnidfdaaGreatDoor
namespace Go.Proofs.YtoiampgfnidfdaaGreatDoor
open Go.RowKit

theorem wpIn_seqT {α : Type} {n : Nat} {P : Program} {g : Operand} {p1 p2 : Tmp} {assign body : Code} {Q : Exit → Act → World → Prop} {a : Act} {w : World} {gf : Nat} {lb : Array Value} {e1 e2 : α → Value} {S : Nat → Prop} {xs : List α} {N : Nat}
    (hseq : SeqStopsK .wide (n - 1) P gf lb (fun x => #[e1 x, e2 x]) (Keeps S) (fun ys => ys = xs) (fun _ => True) N w) (h1 : 1 ≤ n) (hg : a.eval g = .func (.func gf) #[] lb) (eg : ∀ args w, (callFunc gf args).run P w = .ok (.enter gf args) w)
    (hS : ∀ g, S g → g < w.heap.size) (I : List α → World → Prop) (hI : OwnFrom w.heap.size I) (hIs : ∀ pre W, I pre W → w.heap.size ≤ W.heap.size) (h0 : I [] w) (Ax : α → Act → World → Prop) (hAx : ∀ x a', OwnFrom w.heap.size (fun (_ : List α) W => Ax x a' W))
    (hassign : ∀ (l : Nat) (x : α) (W : World) (K : Act → World → Prop), w.heap.size ≤ W.heap.size → (∀ a' W', Below W.heap.size W W' → Ax x a' W' → K a' W') →
      assign.wpIn (Fence.wide.inRound l) (n - 1 - 1) P (Exit.then K (fun _ _ _ => False)) { tmps := boxAct p1 p2 e1 e2 a x, defers := [] } W)
    (hbody : ∀ (l : Nat) (pre : List α) (x : α) (W : World) (a' : Act), Ax x a' W → I pre W → pre.length < N →
      body.wpIn (Fence.wide.inRound l) (n - 1 - 1) P (fun e _ W' => e = .normal ∧ KeepsOthers W W' ∧ Keeps S W W' ∧ I (pre ++ [x]) W') a' W)
    (hdone : ∀ (D : Nat) (W : World), w.heap.size ≤ D → I xs W → W.heap[D]? = some (.deferred (some [])) → Q .normal { a with defers := { target := .collected D, args := #[] } :: a.defers } W) :
    (Code.rangeFunc g #[p1, p2] assign body).wpIn .wide n P Q a w := by
  refine wpIn_rangeFunc_ownH rfl h1 hg trivial eg hseq (fun h k => h.trans k) ?_ (Below.refl _ _) (fun _ => rfl) I (fun _ _ _ => False) hI (fun _ _ _ _ _ h _ _ => h) h0 Ax ?_ ?_ ?_ ?_ ?_
  · intro W l o o' hl h _ _
    exact ⟨by simp, fun g hg _ => World.putObj_heap_other (by have := hS g hg; omega)⟩
  · rintro x a' s W W' row h hg hr
    exact hAx x a' [] W W' row h hg hr
  · intro l pre x W K hi hK
    rw [boxAct_eq]
    refine hassign l x W K (hIs _ _ hi) ?_
    intro a' W' hb ha
    exact hK a' _ ((keepsOthers_of_below hb).from _) (Keeps.of_below hb) (hI _ _ _ none hi (grown_of_below hb) (fun r e => by cases e)) ha
  · rintro l pre x a' W _ _ hi ha hlt
    refine wpIn_mono (hbody l pre x W a' ha hi hlt) ?_
    rintro e a2 W2 ⟨rfl, hk, hk2, hi2⟩
    exact ⟨hk.from _, hk2, hi2⟩
  · rintro D ys W hD rfl hi hK
    exact hdone D W hD hi hK
  · rintro D c pre W _ _ h _
    exact h.elim
def bkw {α : Type} (d : α) (l : List α) : List (Nat × α) := (List.range l.length).map fun m => (l.length - 1 - m, l.getD (l.length - 1 - m) d)
theorem bkw_length {α : Type} (d : α) (l : List α) : (bkw d l).length = l.length := by simp [bkw]
theorem bkw_next {α : Type} (d : α) (l : List α) (j : Nat) (x : α) (hj : l[j]? = some x) : (bkw d l).take (l.length - j) = (bkw d l).take (l.length - (j + 1)) ++ [(j, x)] := by
  have hl := (List.getElem?_eq_some_iff.1 hj).1
  rw [show l.length - j = (l.length - (j + 1)) + 1 by omega, List.take_add_one]
  congr 1
  unfold bkw
  rw [List.getElem?_map, List.getElem?_range (by omega)]
  simp only [Option.map_some, Option.toList_some]
  rw [show l.length - 1 - (l.length - (j + 1)) = j by omega, List.getD_eq_getElem?_getD, hj]
  rfl
theorem wrap64_in {n : Nat} (h : n ≤ 140737488355327) : wrap64 ((n : Int) - 1) = (n : Int) - 1 := by
  unfold wrap64
  omega
abbrev DgT := { d : Dg // DgOk d }
def dg0 : DgT := ⟨List.replicate 32 0, by simp, fun x hx => by rw [(List.mem_replicate.1 hx).2]; decide⟩
attribute [local go_sem] Oper.semAt_some
set_option maxRecDepth 100000 in
set_option maxHeartbeats 2000000 in
theorem bIter (l : List (Fin 256)) (v : Value) (n lo hi Bs : Nat) (hn : 1 ≤ n) (S : Nat → Prop) (w : World) (hp : ByS lo hi w v (l.map Fin.val)) (hBs : w.cell? ⟨Bs, 0, none⟩ = some v) (hB : Bs < w.heap.size) (hS0 : S Bs) (hS1 : ∀ g, lo ≤ g → g < hi → S g) :
    SeqStopsK .wide n Tryz.prog 147 #[.pointer (some ⟨Bs, 0, none⟩)] (fun x : Nat × Fin 256 => #[.int .i64 (x.1 : Int), .int .u8 (x.2.val : Int)]) (Keeps S) (fun ys => ys = bkw 0 l) (fun _ => True) l.length w := fun d J Jx W hW hJ hJx hY h0 => by
  obtain ⟨A, cap, hv0⟩ := hp.len
  rw [List.length_map] at hv0
  subst hv0
  have hBs' := (hW.cell (p := ⟨Bs, 0, none⟩) hB).trans hBs
  have hp' := Rd.keep hp hW
  have hps : l.length ≤ 140737488355327 := by have := hp.2.1; rwa [List.length_map] at this
  have hop := open_wide Tryz.prog
  have hSB := hS0
  refine callsIn_of_wp Tryz.func147 rfl trivial ?_ rfl
  simp only [Tryz.ntmps147, List.size_toArray, List.length_cons, List.length_nil, Nat.reduceAdd, Nat.reduceSub, Array.replicate_succ, Array.replicate_zero, List.push_toArray, List.append_toArray, List.nil_append, List.cons_append]
  gi_wp2
  gi_loopw [3] (fun i wr => ∃ k : Nat, k ≤ l.length ∧ i = .int .i64 ((k : Int) - 1) ∧ J ((bkw 0 l).take (l.length - k)) wr ∧ Keeps S W wr) (fun i _ => (intOf i + 1).toNat)
  case atStart => exact ⟨l.length, Nat.le_refl _, by first | rfl | rw [wrap64_in hps], by simpa using h0, Keeps.refl _⟩
  case round =>
    obtain ⟨k, hk, rfl, hJs, hnx⟩ := hrel
    rcases k with _ | j
    · rw [Nat.sub_zero, List.take_of_length_le (by rw [bkw_length]; exact Nat.le_refl _)] at hJs
      gi_wp2
      go_end0
      exact ⟨⟨_, rfl⟩, .inl ⟨_, rfl, hJs⟩⟩
    · rw [show ((j + 1 : Nat) : Int) - 1 = (j : Int) by omega]
      obtain ⟨x, hx⟩ : ∃ x, l[j]? = some x := ⟨l[j], List.getElem?_eq_getElem (by omega)⟩
      have cB := hnx.cell hSB hBs'
      obtain ⟨g, off, cap', hv, q1, q2, q3, q4, q5⟩ := Rd.form hp' (by rw [List.length_map]; omega)
      rw [List.length_map] at hv
      cases hv
      have d1 := hnx.cell (hS1 g q2 q3) (q5 j (.int .u8 (x.val : Int)) (by simp [byc, hx]))
      have hBz : Bs < wr.heap.size := by have := hnx.size; have := hW.size; omega
      have hgz : g < wr.heap.size := by have := hnx.size; omega
      have HY := Lib.hid hY
      have HX := Lib.hid (bkw_next 0 l j x hx)
      have hlb := hps
      clear q5 hY hJ hJx hx
      gi_wp2_with fail
      obtain ⟨fn, tmps, assign, body, hy, hR⟩ := HY.out ((bkw 0 l).take (l.length - (j + 1))) (j, x) wr hJs (by rw [List.length_take, bkw_length]; omega)
      have hjw := wrap64_in (n := j) (by omega)
      try unfold dgv at hy
      clear cB d1
      gi_wp2
      refine hR.mono ?_
      rintro e W3 (⟨rfl, hJ3, hk3⟩ | ⟨rfl, hJx3⟩)
      · gi_wp2
        go_roundw
        case rel => exact ⟨j, by omega, by first | rfl | rw [hjw], by rw [HX.out]; exact hJ3, hnx.trans hk3⟩
        case measure => first | (simp [intOf]; done) | (simp [intOf]; omega)
      · gi_wp2
        refine bodyPost_ret (results_none rfl _ _ _) rfl ?_
        exact ⟨⟨_, rfl⟩, .inr ⟨_, trivial, hJx3⟩⟩
set_option maxRecDepth 100000 in
set_option maxHeartbeats 2000000 in
theorem dIter (l : List DgT) (v : Value) (n hi Bs : Nat) (hn : 1 ≤ n) (S : Nat → Prop) (w : World) (hp : DgsA w v (l.map Subtype.val)) (hlo : Rd 0 hi 32 w v (l.map Subtype.val).length ((l.map Subtype.val).flatMap byc)) (hBs : w.cell? ⟨Bs, 0, none⟩ = some v) (hB : Bs < w.heap.size) (hS0 : S Bs) (hS1 : ∀ g, g < hi → S g) :
    SeqStopsK .wide n Tryz.prog 137 #[.pointer (some ⟨Bs, 0, none⟩)] (fun x : Nat × DgT => #[.int .i64 (x.1 : Int), dgv x.2.val]) (Keeps S) (fun ys => ys = bkw dg0 l) (fun _ => True) l.length w := fun d J Jx W hW hJ hJx hY h0 => by
  have hps : l.length ≤ 140737488355327 := by have := hp.1.2.1; rwa [List.length_map] at this
  obtain ⟨A, cap, hv0⟩ := hp.len
  rw [List.length_map] at hv0
  subst hv0
  have hBs' := (hW.cell (p := ⟨Bs, 0, none⟩) hB).trans hBs
  have hp' := hp.keep hW
  have hop := open_wide Tryz.prog
  have hSB := hS0
  refine callsIn_of_wp Tryz.func137 rfl trivial ?_ rfl
  simp only [Tryz.ntmps137, List.size_toArray, List.length_cons, List.length_nil, Nat.reduceAdd, Nat.reduceSub, Array.replicate_succ, Array.replicate_zero, List.push_toArray, List.append_toArray, List.nil_append, List.cons_append]
  gi_wp2
  gi_loopw [3] (fun i wr => ∃ k : Nat, k ≤ l.length ∧ i = .int .i64 ((k : Int) - 1) ∧ J ((bkw dg0 l).take (l.length - k)) wr ∧ Keeps S W wr) (fun i _ => (intOf i + 1).toNat)
  case atStart => exact ⟨l.length, Nat.le_refl _, by first | rfl | rw [wrap64_in hps], by simpa using h0, Keeps.refl _⟩
  case round =>
    obtain ⟨k, hk, rfl, hJs, hnx⟩ := hrel
    rcases k with _ | j
    · rw [Nat.sub_zero, List.take_of_length_le (by rw [bkw_length]; exact Nat.le_refl _)] at hJs
      gi_wp2
      go_end0
      exact ⟨⟨_, rfl⟩, .inl ⟨_, rfl, hJs⟩⟩
    · rw [show ((j + 1 : Nat) : Int) - 1 = (j : Int) by omega]
      obtain ⟨x, hx⟩ : ∃ x, l[j]? = some x := ⟨l[j], List.getElem?_eq_getElem (by omega)⟩
      have cB := hnx.cell hSB hBs'
      have hxm : (l.map Subtype.val)[j]? = some x.val := by rw [List.getElem?_map, hx]; rfl
      obtain ⟨g, off, cap', hv, q1, q2, q3, q4⟩ := hp'.at hxm
      rw [List.length_map] at hv
      have hgs : g < hi := by
        obtain ⟨g2, o2, c2, hv2, -, -, r2, -⟩ := Rd.form hlo (by rw [List.length_map]; omega)
        rw [List.length_map] at hv2
        rw [hv] at hv2
        cases hv2
        exact r2
      cases hv
      have d1 : wr.rangeAt g (off + j * 32) (byc x.val) := fun i u hu => hnx.cell (hS1 g hgs) (q3 i u hu)
      have hBz : Bs < wr.heap.size := by have := hnx.size; have := hW.size; omega
      have hgz : g < wr.heap.size := by have := hnx.size; omega
      have HY := Lib.hid hY
      have HX := Lib.hid (bkw_next dg0 l j x hx)
      have hlb : l.length ≤ 140737488355327 := hps
      clear q3 hY hJ hJx hx hxm
      gi_upto_region 3 with (fail)
      refine wpIn_region_lit ?_
      iterate 5 (refine wpListIn_plain rfl fun K hK => ?_; gi_step; refine hK _ _ ?_; clear hK K)
      refine wpListIn_plain rfl fun K7 hK7 => wpIn_of_step hop rfl (stepAt_mono (fun v16 w16 hh => ?_) (step_loadR0 (cs := byc x.val) b32_under rfl (by rw [b32_size, byc_length, q4.1]) rfl rfl d1))
      obtain ⟨rfl, rfl⟩ := hh
      refine hK7 _ _ ?_
      clear hK7 K7
      try simp only [Act.put, List.setIfInBounds_toArray, List.set_cons_succ, List.set_cons_zero]
      obtain ⟨fn, tmps, assign, body, hy, hR⟩ := HY.out ((bkw dg0 l).take (l.length - (j + 1))) (j, x) w16 hJs (by rw [List.length_take, bkw_length]; omega)
      have hjw := wrap64_in (n := j) (by omega)
      try unfold dgv at hy
      clear cB d1
      gi_wp2
      refine hR.mono ?_
      rintro e W3 (⟨rfl, hJ3, hk3⟩ | ⟨rfl, hJx3⟩)
      · gi_wp2
        go_roundw
        case rel => exact ⟨j, by omega, by first | rfl | rw [hjw], by rw [HX.out]; exact hJ3, hnx.trans hk3⟩
        case measure => first | (simp [intOf]; done) | (simp [intOf]; omega)
      · gi_wp2
        refine bodyPost_ret (results_none rfl _ _ _) rfl ?_
        exact ⟨⟨_, rfl⟩, .inr ⟨_, trivial, hJx3⟩⟩
end Go.Proofs.YtoiampgfnidfdaaGreatDoor
namespace Go.Proofs.YtoiampgfnidfdaaGreatDoor

def leN : List Nat → Nat
  | [] => 0
  | b :: r => b + 256 * leN r
theorem leN_lt : ∀ l : List Nat, (∀ x ∈ l, x < 256) → leN l < 256 ^ l.length
  | [], _ => by simp [leN]
  | b :: r, h => by
    have h1 := h b (List.mem_cons_self ..)
    have h2 := leN_lt r fun x hx => h x (List.mem_cons_of_mem _ hx)
    rw [leN, List.length_cons, Nat.pow_succ]
    omega
/-! ### What is taken is taken from the front -/
/-! ### What was written is read; what is read was written -/
end Go.Proofs.YtoiampgfnidfdaaGreatDoor
namespace Go.Proofs.YtoiampgfnidfdaaGreatDoor
open Go.RowKit

theorem gBackB (A : Option Addr) (m cap : Nat) (w : World) : Calls Tryz.prog 125 #[.slice A m cap] w fun e w' =>
    e = .returned (.func (.func 147) #[] #[.pointer (some ⟨w.heap.size, 0, none⟩)]) ∧ w' = w.alloc (.cells #[.slice A m cap] 56) := by
  go_enter Tryz.func125, Tryz.ntmps125
  go_wp2
  go_ret
  exact ⟨rfl, rfl⟩
theorem keepsS_set {S : Nat → Prop} (W : World) (p : Addr) (v : Value) (h : ¬ S p.block) : Keeps S W (W.setCell p v) :=
  ⟨by simp, fun g hg _ => Below.heap_setCell _ p _ g (fun e => h (e ▸ hg))⟩
def accB8 (pre : List (Nat × Fin 256)) : Nat := pre.foldl (fun a x => a * 256 + x.2.val) 0
theorem accB8_snoc (pre : List (Nat × Fin 256)) (x : Nat × Fin 256) : accB8 (pre ++ [x]) = accB8 pre * 256 + x.2.val := by unfold accB8; rw [List.foldl_append]; rfl
theorem accB8_lt (pre : List (Nat × Fin 256)) : accB8 pre < 256 ^ pre.length := by
  have h : ∀ (n : Nat) (l : List (Nat × Fin 256)), l.length = n → accB8 l < 256 ^ n := by
    intro n
    induction n with
    | zero => intro l hl; rw [List.eq_nil_of_length_eq_zero hl]; decide
    | succ n ih =>
      intro l hl
      rcases List.eq_nil_or_concat l with h0 | ⟨q, y, rfl⟩
      · rw [h0] at hl; cases hl
      · rw [List.concat_eq_append, accB8_snoc, Nat.pow_succ]
        have h1 := ih q (by simpa using hl)
        have h2 := y.2.isLt
        omega
  exact h _ pre rfl
theorem leN_snoc : ∀ (l : List Nat) (x : Nat), leN (l ++ [x]) = leN l + 256 ^ l.length * x
  | [], x => by simp [leN]
  | b :: r, x => by
    rw [List.cons_append, leN, leN_snoc r x, leN, List.length_cons, Nat.pow_succ, Nat.mul_comm (256 ^ r.length) 256, Nat.mul_assoc, Nat.mul_add]
    omega
theorem accB8_all (l : List (Fin 256)) : accB8 (bkw 0 l) = leN (l.map Fin.val) := by
  have h : ∀ j, j ≤ l.length → accB8 ((bkw 0 l).take (l.length - j)) = leN ((l.drop j).map Fin.val) := by
    intro j hj
    obtain ⟨n, hn⟩ : ∃ n, n = l.length - j := ⟨_, rfl⟩
    induction n generalizing j with
    | zero => rw [← hn, List.take_zero, List.drop_eq_nil_of_le (by omega)]; rfl
    | succ n ih =>
      have hx : l[j]? = some l[j] := List.getElem?_eq_getElem (by omega)
      rw [bkw_next 0 l j _ hx, accB8_snoc, ih (j + 1) (by omega) (by omega), List.drop_eq_getElem_cons (by omega : j < l.length), List.map_cons, leN]
      dsimp only
      omega
  have := h 0 (Nat.zero_le _)
  rwa [Nat.sub_zero, List.take_of_length_le (by rw [bkw_length]; exact Nat.le_refl _)] at this
theorem fin_map (l : List Nat) (h : ∀ x ∈ l, x < 256) : ∃ t : List (Fin 256), t.map Fin.val = l :=
  ⟨l.map (Fin.ofNat 256), by
    rw [List.map_map]
    refine (List.map_congr_left fun x hx => ?_).trans (List.map_id _)
    exact Nat.mod_eq_of_lt (h x hx)⟩
attribute [local go_sem] Oper.semAt_some
set_option maxRecDepth 100000 in
set_option maxHeartbeats 4000000 in
theorem gRead (l : List Nat) (hl : l.length ≤ 8) (h8 : ∀ x ∈ l, x < 256) (v : Value) (lo hi : Nat) (w : World) (h : ByS lo hi w v l) : Calls Tryz.prog 101 #[v] w (Ret (.int .u64 (leN l : Nat)) w) := by
  obtain ⟨t, rfl⟩ := fin_map l h8
  clear h8
  rw [List.length_map] at hl
  have h0 := (bys_base h)
  obtain ⟨A, cap, rfl⟩ := h.len
  rw [List.length_map] at *
  have HV := Lib.hid h0
  clear h h0
  refine (callsIn_wide (n := 3)).1 ?_
  refine callsIn_of_wp_marks Tryz.func101 rfl trivial ?_ rfl
  simp only [Tryz.ntmps101, List.size_toArray, List.length_cons, List.length_nil, Nat.reduceAdd, Nat.reduceSub, Array.replicate_succ, Array.replicate_zero, List.push_toArray, List.append_toArray, List.nil_append, List.cons_append]
  gi_upto_region 1 with (fail)
  refine stk1 (M := fun W => Code.wpIn _ _ _ _ _ _ W) fun W hB hz b2 => ?_
  have hWs : W.heap.size = w.heap.size + 1 := hz.out
  clear hz
  gi_wp2_with fail
  refine ⟨trivial, (callsIn_wide.2 (gBackB A t.length cap W)).mono ?_⟩
  rintro e w2 ⟨rfl, rfl⟩
  gi_wp2_with fail
  refine stk1 (M := fun W => Code.wpIn _ _ _ _ _ _ W) fun Y hBY hzY c1 => ?_
  have hYs : Y.heap.size = w.heap.size + 1 + 1 := by rw [hzY.out, hWs]
  rw [hWs] at c1
  have b2Y := b2.keep hBY
  have hBw := hB.trans (hBY.mono hB.size)
  have HVY := Lib.hid (HV.out.keep hBw)
  clear hzY b2 hBY hB
  refine wpIn_seqT (S := fun g => g < w.heap.size ∨ g = w.heap.size + 1) (bIter t (.slice A t.length cap) 2 0 w.heap.size (w.heap.size + 1) (by decide) _ Y HVY.out (c1.cell 0) (by omega) (.inr rfl) (fun g _ hg => .inl hg)) (by decide) rfl (enters_of Tryz.func147 (by kernel_rfl) rfl) (fun g hg => by rcases hg with hg | hg <;> omega)
    (fun pre W => Blk W w.heap.size 32 #[.int .u64 (accB8 pre : Nat)] ∧ Below w.heap.size w W ∧ Y.heap.size ≤ W.heap.size)
    ?hI (fun pre W h => h.2.2) ?h0 (fun x a' W => a' = { tmps := #[.slice A t.length cap, undef, .pointer (some ⟨w.heap.size, 0, none⟩), undef, .int .u8 (x.2.val : Int), .slice A t.length cap, .func (.func 147) #[] #[.pointer (some ⟨w.heap.size + 1, 0, none⟩)], .int .i64 (x.1 : Int), .int .u8 (x.2.val : Int), undef, undef, undef, undef, undef, undef], defers := [] }) (fun x a' s W W' row h _ _ => h) ?assign ?body ?done
  case hI =>
    rintro pre W W' row ⟨q1, q2, q3⟩ hg hr
    exact ⟨blk_own (β := Unit) () W W' row q1 hg hr, ownFrom_below (β := Unit) (Nat.le_refl _) (by omega) () W W' row q2 hg hr, Nat.le_trans q3 hg.size⟩
  case h0 => exact ⟨b2Y, hBw, Nat.le_refl _⟩
  case assign =>
    intro l x W K _ hK
    simp only [boxAct, List.setIfInBounds_toArray, List.set_cons_succ, List.set_cons_zero]
    gi_wp2_with fail
    exact hK _ _ (Below.refl _ _) rfl
  case body =>
    rintro l pre x W a' rfl ⟨q1, q2, q3⟩ hlt
    have hm : accB8 pre < 72057594037927936 := by
      have h1 := accB8_lt pre
      have h2 : 256 ^ pre.length ≤ 256 ^ 7 := Nat.pow_le_pow_right (by decide) (by omega)
      have h3 : (256 : Nat) ^ 7 = 72057594037927936 := rfl
      omega
    have HS := Lib.hid (accB8_snoc pre x)
    have hx := x.2.isLt
    generalize accB8 pre = m at *
    obtain ⟨y, hy⟩ : ∃ y, y = x.2.val := ⟨_, rfl⟩
    rw [← hy] at hx HS ⊢
    clear hy
    have HO := Lib.hid (u64_shl_or m y hm hx)
    have c1 := q1.cell
    have c2 := q1.frozen
    gi_wp2_with fail
    rw [HO.out, HS.out]
    exact ⟨KeepsOthers.setCell _ _ _, keepsS_set _ _ _ (by simp), q1.set_ 0 _, q2.setCell (p := ⟨w.heap.size, 0, none⟩) (Nat.le_refl _) _, by omega⟩
  case done =>
    intro D V hD ⟨q1, q2, q3⟩ hK
    rw [accB8_all] at q1
    generalize leN (t.map Fin.val) = y at *
    have e1 := q1.cell
    have e2 := q1.frozen
    gi_wp2_with fail
    obtain ⟨Z, hZ⟩ : ∃ Z, V.setCell ⟨w.heap.size, 0, none⟩ (.int .u64 (y : Int)) = Z := ⟨_, rfl⟩
    rw [hZ]
    have bZ : Blk Z w.heap.size 32 #[.int .u64 (y : Int)] := by rw [← hZ]; exact q1.set_ 0 _
    have hBZ : Below w.heap.size w Z := by rw [← hZ]; exact q2.setCell (p := ⟨w.heap.size, 0, none⟩) (Nat.le_refl _) _
    have hne : D ≠ w.heap.size := by omega
    have hKZ : Z.heap[D]? = some (.deferred (some [])) := by
      rw [← hZ, Below.heap_setCell _ ⟨w.heap.size, _, none⟩ _ D hne]
      exact hK
    refine ⟨by simp, .inl ⟨_, _, rfl, run_takeDeferred hKZ, ?_⟩⟩
    have bZ' : Blk (Z.putObj D (.deferred none)) w.heap.size 32 #[.int .u64 (y : Int)] := (World.putObj_heap_other (Ne.symm hne)).trans bZ
    have e4 := bZ'.cell
    refine ⟨.int .u64 (y : Int), ?_, ?_⟩
    · simp [results, Tryz.results101, go_sem, e4]
    · exact ⟨rfl, below_putObj hBZ D _ (by omega)⟩
end Go.Proofs.YtoiampgfnidfdaaGreatDoor
namespace Go.Proofs.YtoiampgfnidfdaaGreatDoor
open Go.RowKit

theorem step_grows {P : Program} {o : Oper} {a : Act} {w : World} {s x : Operand} {t e : TypeId} {i : TypeInfo} {z : Value} {size bytes n m lo hi lo2 hi2 : Nat} {ao : Option Addr} {olds news : List Value} {v2 : Value}
    (ho : o.op = .call { callee := .builtin .append, args := #[s, x], argTypes := #[t, t] }) (ht : P.underlying t = some (.slice e)) (hie : P.info? e = some i) (hz : i.zero = some z) (hsize : i.size = size) (hby : i.bytes = bytes) (hzs : z.cells.size = size) (hsz : 0 < size)
    (h1 : ∀ u ∈ news, u.oneCell' = true) (hs : a.eval s = .slice ao n n) (hnone : ao = none → n = 0) (hx : a.eval x = v2) (hr1 : Rd lo hi size w (.slice ao n n) n olds) (hr2 : Rd lo2 hi2 size w v2 m news) (hm : 0 < m) (hk : n + m ≤ maxLen) (hk2 : (n + m) * bytes ≤ 140737488355328) :
    stepAt P o a w fun v' w' => w'.ownsRow w.heap.size e size v' (n + m) (olds ++ news) ∧ Below w.heap.size w w' := by
  obtain ⟨g2, off2, c2, rfl, -, -, -, q2, q3⟩ := Rd.form hr2 hm
  have hcell : ∀ j u, news[j]? = some u → w.cell? (Addr.add ⟨g2, off2, none⟩ j) = some u := fun j u hj => by rw [Addr.add_lit]; exact q3 j u hj
  cases ao with
  | some b =>
    have hold : ∀ j u, olds[j]? = some u → w.cell? (b.add j) = some u := by
      rcases Nat.eq_zero_or_pos n with h0 | h0
      · subst h0
        have : olds = [] := List.eq_nil_of_length_eq_zero (by rw [hr1.1]; omega)
        intro j u hj
        rw [this] at hj
        cases hj
      · obtain ⟨g, off, c, hv, -, -, -, -, q⟩ := Rd.form hr1 h0
        cases hv
        exact fun j u hj => by rw [Addr.add_lit]; exact q j u hj
    obtain ⟨v', w', hrun, r1, r2⟩ := run_append_arg_grows (P := P) w t o.type e i z size bytes ht hie hz hsize hby hzs hsz b n n olds hr1.1 hold ⟨g2, off2, none⟩ m c2 news hr2.1 hcell (by omega) hk hk2
    unfold stepAt execOp
    simp only [ho]
    simp [resolve, invoke, builtin, hs, hx, hrun, Result.andThen]
    exact ⟨r1, below_of_grown r2⟩
  | none =>
    obtain rfl := hnone rfl
    obtain rfl : olds = [] := List.eq_nil_of_length_eq_zero (by rw [hr1.1]; omega)
    obtain ⟨v', w', hrun, r1, r2, _⟩ := run_append_own (P := P) w w.heap.size t o.type e i z size bytes ht hie hz hsize hby hzs hsz (.slice none 0 0) 0 [] (World.ownsRow_nil w _ e size) ⟨g2, off2, none⟩ m c2 news hr2.1 hcell h1 hk hk2 (Nat.le_refl _)
    unfold stepAt execOp
    simp only [ho]
    simp [resolve, invoke, builtin, hs, hx, hrun, Result.andThen]
    exact ⟨by simpa using r1, below_of_grown (show w.grownBy w' none from r2)⟩
theorem step_litL {o : Oper} {a : Act} {w : World} {len : Nat} {parts : List (Nat × Operand)} (l : List Nat) (hl : l.length = len) (h0 : 0 < len) (hs : len ≤ 1000000) (ho : o.op = .buildSlice 56 len parts.toArray)
    (hv : (parts.map fun x => (x.1, a.eval x.2)) = ((byc l).zipIdx 0).map fun x => (x.2, x.1)) : stepAt Tryz.prog o a w fun v w' => v = .slice (some ⟨w.heap.size, 0, none⟩) len len ∧ ByS w.heap.size w'.heap.size w' v l ∧ Below w.heap.size w w' := by
  obtain ⟨iu8, hu8, uz0, uz1, uz2⟩ := info_parts u8_info
  refine stepAt_mono (fun v w' hh => ?_) (step_litF u8_slice hu8 uz0 uz1 (by rw [byc_length]; exact hl) h0 (by omega) ho hv (fun v hv => ?_))
  · obtain ⟨⟨rfl, h1, h2⟩, h3⟩ := hh
    subst hl
    exact ⟨rfl, bys_blk h2 hs (Nat.le_refl _) h1, h3⟩
  · obtain ⟨x, _, rfl⟩ := List.mem_map.1 hv
    rfl
theorem step_catG {o : Oper} {a : Act} {w : World} {s x : Operand} {l m : List Nat} {ao : Option Addr} {v2 : Value} {lo hi lo2 hi2 : Nat} (ho : o.op = .call { callee := .builtin .append, args := #[s, x], argTypes := #[56, 56] })
    (hs : a.eval s = .slice ao l.length l.length) (hnone : ao = none → l.length = 0) (hx : a.eval x = v2) (h1 : ByS lo hi w (.slice ao l.length l.length) l) (h2 : ByS lo2 hi2 w v2 m) (hm : 0 < m.length) (hl : l.length ≤ 1000000) (hm2 : m.length ≤ 1000000) :
    stepAt Tryz.prog o a w fun v' w' => OwA (l ++ m) w.heap.size w'.heap.size v' w' ∧ Below w.heap.size w w' := by
  obtain ⟨iu8, hu8, uz0, uz1, uz2⟩ := info_parts u8_info
  refine stepAt_mono (fun v w' hh => ?_) (step_grows ho u8_slice hu8 uz0 uz1 uz2 rfl (by decide) (byc_one m) hs hnone hx h1 h2 hm (by unfold maxLen; omega) (by omega))
  refine ⟨OwB.a ?_, hh.2⟩
  unfold OwB
  rw [byc_app, List.length_append]
  exact hh.1
theorem OwA.form {l : List Nat} {lo hi : Nat} {v : Value} {w : World} (h : OwA l lo hi v w) (h0 : 0 < l.length) : ∃ g cap, v = .slice (some ⟨g, 0, none⟩) l.length cap ∧ l.length ≤ cap ∧ cap ≤ maxLen ∧ lo ≤ g ∧ g < hi := by
  rcases h.1.2 with ⟨_, h2⟩ | ⟨g, cap, cur, rfl, r1, r2, r3, r4, _⟩
  · omega
  · exact ⟨g, cap, rfl, r3, r4, r1, h.2 g rfl⟩
theorem le8_leN (d : List Nat) (o : Nat) (h : o + 8 ≤ d.length) : le8 d o 8 = leN ((d.drop o).take 8) := by
  have hl : 8 ≤ (d.drop o).length := by rw [List.length_drop]; omega
  have hg : ∀ j, d.getD (o + j) 0 = (d.drop o).getD j 0 := fun j => by
    rw [List.getD_eq_getElem?_getD, List.getD_eq_getElem?_getD, List.getElem?_drop]
  simp only [le8, Nat.sub_zero]
  rw [show o + 7 = o + 7 from rfl, hg 7, hg (7 - 1), hg (7 - 2), hg (7 - 3), hg (7 - 4), hg (7 - 5), hg (7 - 6), hg (7 - 7)]
  generalize d.drop o = l at *
  match l, hl with
  | a :: b :: c :: e :: f :: g :: p :: q :: r, _ =>
    simp [leN]
    omega
end Go.Proofs.YtoiampgfnidfdaaGreatDoor
namespace Go.Proofs.YtoiampgfnidfdaaGreatDoor
open Go.RowKit

attribute [local irreducible] wpRg
end Go.Proofs.YtoiampgfnidfdaaGreatDoor
