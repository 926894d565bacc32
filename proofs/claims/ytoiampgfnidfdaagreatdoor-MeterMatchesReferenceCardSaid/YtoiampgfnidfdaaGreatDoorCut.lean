/-
  Slices cut from an index on.
-/
import Derived.Test.YtoiampgfnidfdaaGreatDoorGs1
import Derived.Laws.CopyRow
import Derived.Test.YtoiampgfnidfdaaGreatDoorSeq
import Derived.Test.YtoiampgfnidfdaaGreatDoorSs
import Derived.Sort.CutIn
import Derived.Test.YtoiampgfnidfdaaGreatDoorCo3
set_option maxRecDepth 100000
set_option maxHeartbeats 8000000
namespace Go.Proofs.YtoiampgfnidfdaaGreatDoor
open Go.RowKit
section
open Go.RowKit

structure Lsh (w : World) : Prop where
 i8 : w.rangeAt 0 0 init8.cells
 kt : w.rangeAt 4 0 (u32c kTabB)
 sz : 0 < w.heap.size ∧ 4 < w.heap.size
theorem Lsh.keep {w X : World} (h : Lsh w) (hb : Below w.heap.size w X) : Lsh X :=
 ⟨fun j v hv => (hb.cell (p := ⟨0, 0 + j, none⟩) h.sz.1).trans (h.i8 j v hv), fun j v hv => (hb.cell (p := ⟨4, 0 + j, none⟩) h.sz.2).trans (h.kt j v hv), Nat.lt_of_lt_of_le h.sz.1 hb.size, Nat.lt_of_lt_of_le h.sz.2 hb.size⟩
theorem Lsh.below {w X : World} {N : Nat} (h : Lsh w) (hb : Below N w X) (hN : 0 < N ∧ 4 < N) : Lsh X :=
 ⟨fun j v hv => (hb.cell (p := ⟨0, 0 + j, none⟩) hN.1).trans (h.i8 j v hv), fun j v hv => (hb.cell (p := ⟨4, 0 + j, none⟩) hN.2).trans (h.kt j v hv), Nat.lt_of_lt_of_le h.sz.1 hb.size, Nat.lt_of_lt_of_le h.sz.2 hb.size⟩
theorem Lsh.const {w : World} (h : Lsh w) (k : Nat) (hk : k < 64) : w.cell? ⟨4, k, none⟩ = some (.int .u32 (bv (kTabB.getD k 0))) := by
 have hl : k < kTabB.length := by rw [J46]; exact hk
 have := h.kt k (.int .u32 (bv (kTabB.getD k 0))) (by
  unfold u32c
  rw [List.getElem?_map, List.getElem?_eq_getElem hl, List.getD_eq_getElem?_getD, List.getElem?_eq_getElem hl]
  rfl)
 rwa [Nat.zero_add] at this
structure Mut (w X : World) (g : Nat) : Prop where
 os : X.os = w.os
 tape : X.tape = w.tape
 output : X.output = w.output
 size : w.heap.size ≤ X.heap.size
 other : ∀ k, k < w.heap.size → k ≠ g → X.heap[k]? = w.heap[k]?
theorem Mut.of_below {w X : World} {g : Nat} (h : Below w.heap.size w X) : Mut w X g := ⟨h.os, h.tape, h.output, h.size, fun k hk _ => h.block k hk⟩
theorem Mut.put {w X Y : World} {g : Nat} (h : Mut w X g) (p : Put X Y g) : Mut w Y g := ⟨p.os.trans h.os, p.tape.trans h.tape, p.output.trans h.output, by rw [p.size]; exact h.size, fun k hk hne => (p.other k hne).trans (h.other k hk hne)⟩
theorem Mut.below {w X Y : World} {g : Nat} (h : Mut w X g) (p : Below X.heap.size X Y) : Mut w Y g := ⟨p.os.trans h.os, p.tape.trans h.tape, p.output.trans h.output, Nat.le_trans h.size p.size, fun k hk hne => (p.block k (Nat.lt_of_lt_of_le hk h.size)).trans (h.other k hk hne)⟩
theorem Jfw : (Tryz.prog.info? 178).map (fun i => (i.zero, i.size, i.bytes)) = some (some (.agg (List.replicate 8 (Value.int .u32 0)).toArray), 8, 32) := by kernel_rfl
theorem J91 : (Tryz.prog.info? 178).map (·.size) = some 8 := by kernel_rfl
theorem J9f : Tryz.prog.underlying 178 = some (.array 8 169) := by kernel_rfl
structure CmpS (w W : World) (n4 n5 g0 : Nat) (ty : TypeId) (sc : List B32) (r s : S8) : Prop where
 b4 : Blk W n4 188 (u32c sc).toArray
 b5 : Blk W n5 178 r.cells.toArray
 bg : Blk W g0 ty s.cells.toArray
 hB : Below w.heap.size w W
section
variable {w W X : World} {n4 n5 g0 : Nat} {ty : TypeId} {sc : List B32} {r s : S8}
theorem CmpS.keep (h : CmpS w W n4 n5 g0 ty sc r s) (hb : Below W.heap.size W X) : CmpS w X n4 n5 g0 ty sc r s := ⟨h.b4.keep hb, h.b5.keep hb, h.bg.keep hb, h.hB.trans (hb.mono h.hB.size)⟩
theorem CmpS.c0 (h : CmpS w W n4 n5 g0 ty sc r s) : W.cell? ⟨n5, 0, none⟩ = some (.int .u32 (bv r.a)) := (h.b5.cell 0).trans rfl
theorem CmpS.c1 (h : CmpS w W n4 n5 g0 ty sc r s) : W.cell? ⟨n5, 1, none⟩ = some (.int .u32 (bv r.b)) := (h.b5.cell 1).trans rfl
theorem CmpS.c2 (h : CmpS w W n4 n5 g0 ty sc r s) : W.cell? ⟨n5, 2, none⟩ = some (.int .u32 (bv r.c)) := (h.b5.cell 2).trans rfl
theorem CmpS.c4 (h : CmpS w W n4 n5 g0 ty sc r s) : W.cell? ⟨n5, 4, none⟩ = some (.int .u32 (bv r.e)) := (h.b5.cell 4).trans rfl
theorem CmpS.c5 (h : CmpS w W n4 n5 g0 ty sc r s) : W.cell? ⟨n5, 5, none⟩ = some (.int .u32 (bv r.f)) := (h.b5.cell 5).trans rfl
theorem CmpS.c6 (h : CmpS w W n4 n5 g0 ty sc r s) : W.cell? ⟨n5, 6, none⟩ = some (.int .u32 (bv r.g)) := (h.b5.cell 6).trans rfl
theorem CmpS.c7 (h : CmpS w W n4 n5 g0 ty sc r s) : W.cell? ⟨n5, 7, none⟩ = some (.int .u32 (bv r.h)) := (h.b5.cell 7).trans rfl
end
theorem ch_val (e f g : B32) : bits .xor .u32 (bits .and .u32 (bv e) (bv f)) (bits .and .u32 (bits .xor .u32 (if IntKind.u32.signed = true then -1 else IntKind.u32.max) (bv e)) (bv g)) = bv (chE e f g) := by
 rw [show (if IntKind.u32.signed = true then (-1 : Int) else IntKind.u32.max) = bv (BitVec.allOnes 32) by decide, bv_xor, bv_and, bv_and, bv_xor, BitVec.allOnes_xor]
 rfl
theorem b3_val (x : B32) (p q s : Nat) : bits .xor .u32 (bits .xor .u32 (bv (rotr x p)) (bv (rotr x q))) (bv (rotr x s)) = bv (rotr x p ^^^ rotr x q ^^^ rotr x s) := by
 rw [bv_xor, bv_xor]
theorem mj_val (a b c : B32) : bits .xor .u32 (bits .xor .u32 (bits .and .u32 (bv a) (bv b)) (bits .and .u32 (bv a) (bv c))) (bits .and .u32 (bv b) (bv c)) = bv (maj a b c) := by
 rw [bv_and, bv_and, bv_and, bv_xor, bv_xor, Jle]
theorem Jlt (a b c d e : B32) : (bv a + bv b + bv c + bv d + bv e) % 4294967296 = bv (a + b + c + d + e) := by
 unfold bv
 rw [BitVec.toNat_add, BitVec.toNat_add, BitVec.toNat_add, BitVec.toNat_add]
 omega
theorem Jfx (a b c : B32) : (bv a + bv b + bv c) % 4294967296 = bv (a + b + c) := by
 unfold bv
 rw [BitVec.toNat_add, BitVec.toNat_add]
 omega
def S8.get (s : S8) (j : Nat) : B32 := [s.a, s.b, s.c, s.d, s.e, s.f, s.g, s.h].getD j 0
theorem S8.at {s : S8} {j : Nat} (h : j < 8) : s.cells[j]? = some (.int .u32 (bv (s.get j))) := by
 rcases j with _ | _ | _ | _ | _ | _ | _ | _ | j
 all_goals first | rfl | omega
def adK (s r : S8) (j : Nat) : List Value := (s.add r).cells.take j ++ s.cells.drop j
theorem adK_at (s r : S8) (j : Nat) (h : j < 8) : (adK s r j)[j]? = some (.int .u32 (bv (s.get j))) := by
 rcases j with _ | _ | _ | _ | _ | _ | _ | _ | j
 all_goals first | rfl | omega
theorem Jlu (s r : S8) (j : Nat) (h : j < 8) : (adK s r j).set j (.int .u32 (bv (s.get j + r.get j))) = adK s r (j + 1) := by
 rcases j with _ | _ | _ | _ | _ | _ | _ | _ | j
 all_goals first | rfl | omega
theorem Jh6 {w : World} {g : Nat} {t : TypeId} {cs ds : Array Value} (b : Blk w g t cs) : Put w (w.setRow g ds) g ∧ Blk (w.setRow g ds) g t ds :=
 ⟨⟨rfl, rfl, rfl, by simp [World.setRow], fun k hk => setRow_other w g k ds (fun e => hk e)⟩, setRow_heap w g cs ds t _ b⟩
theorem Jhw {P : Program} {o : Oper} {a : Act} {w : World} {d s : Operand} {dT sT elem : TypeId} {g og os dLen dCap sLen sCap : Nat} {cur : Array Value} {t : TypeId} (cs : List Value) (ho : o.op = .call { callee := .builtin .copy, args := #[d, s], argTypes := #[dT, sT] })
  (hd : a.eval d = .slice (some ⟨g, og, none⟩) dLen dCap) (hs : a.eval s = .slice (some ⟨g, os, none⟩) sLen sCap) (hu : P.underlying dT = some (.slice elem)) (hi : (P.info? elem).map (·.size) = some 1) (b : Blk w g t cur) (hn : cs.length = Nat.min sLen dLen)
  (hsrc : ∀ j v, cs[j]? = some v → cur[os + j]? = some v) (hfit : og + cs.length ≤ cur.size) (h1 : ∀ v ∈ cs, v.oneCell' = true) :
  stepAt P o a w fun v w' => Put w w' g ∧ Blk w' g t (cur.toList.take og ++ cs ++ cur.toList.drop (og + cs.length)).toArray := by
 have hr := run_copy_row (P := P) w dT sT o.type elem g og dLen dCap ⟨g, os, none⟩ sLen sCap cur t cs hu hi b hn (fun j v hv => by
  have := hsrc j v hv
  rw [show (⟨g, os, none⟩ : Addr).add j = ⟨g, os + j, none⟩ by unfold Addr.add; split <;> simp_all, b.cell]
  exact this) hfit h1
 unfold stepAt execOp
 simp only [ho, resolve, invoke, builtin, Sem.run_bind, Sem.run_pure, Result.andThen_ok, List.map_toArray, List.map_cons, List.map_nil, hd, hs, hr]
 exact Jh6 b
theorem Jh7 : Tryz.prog.underlying 194 = some (.slice 169) := by kernel_rfl
theorem Jct : (Tryz.prog.info? 169).map (·.size) = some 1 := by kernel_rfl
def sh8 (r : S8) : S8 := ⟨r.a, r.a, r.b, r.c, r.d, r.e, r.f, r.g⟩
theorem Jja {o : Oper} {a : Act} {w : World} {d s : Operand} {g : Nat} {t : TypeId} {r : S8} (ho : o.op = .call { callee := .builtin .copy, args := #[d, s], argTypes := #[194, 194] })
  (hd : a.eval d = .slice (some ⟨g, 1, none⟩) 7 7) (hs : a.eval s = .slice (some ⟨g, 0, none⟩) 7 8) (b : Blk w g t r.cells.toArray) : stepAt Tryz.prog o a w fun _ w' => Put w w' g ∧ Blk w' g t (sh8 r).cells.toArray := by
 refine Jb (fun v w' hh => hh) (Jhw (cs := [.int .u32 (bv r.a), .int .u32 (bv r.b), .int .u32 (bv r.c), .int .u32 (bv r.d), .int .u32 (bv r.e), .int .u32 (bv r.f), .int .u32 (bv r.g)]) ho hd hs Jh7 Jct b rfl (fun j v hv => ?_) (by simp [S8.cells]) (fun v hv => ?_))
 ·
  rcases j with _ | _ | _ | _ | _ | _ | _ | j
  all_goals first | exact hv | cases hv
 ·
  simp only [List.mem_cons, List.not_mem_nil, or_false] at hv
  rcases hv with rfl | rfl | rfl | rfl | rfl | rfl | rfl <;> rfl
theorem Jhx : Tryz.prog.underlying 169 = some (.int .u32) := by kernel_rfl
theorem Jfy (r : S8) (k : Nat) (hk : k < 8) (w : World) : (Instr.index 178 (.agg r.cells.toArray) (.int .i64 (k : Int))).run Tryz.prog w = .ok (.int .u32 (bv (r.get k))) w := by
 obtain ⟨i, hi, hs⟩ : ∃ i, Tryz.prog.info? 169 = some i ∧ i.size = 1 := by
  have := Jct
  cases h : Tryz.prog.info? 169 with
  | none => rw [h] at this; cases this
  | some i => rw [h] at this; exact ⟨i, rfl, by simpa using this⟩
 have h1 : (k : Int) < 8 := by omega
 rcases k with _ | _ | _ | _ | _ | _ | _ | _ | k
 all_goals first | omega | simp [Instr.index, asIntOf, run_underlying J9f, run_underlying Jhx, part, sizeOf, typeInfo, hi, hs, S8.cells, S8.get]
theorem Jfz (a b : B32) : (bv a + bv b) % 4294967296 = bv (a + b) := J7n a b
attribute [local irreducible] wpRg
theorem gCompress (s : S8) (b : List Nat) (hb : b.length = 64) (hb8 : ∀ x ∈ b, x < 256) (v : Value) (lo hi g0 : Nat) (ty : TypeId) (w : World) (hL : Lsh w) (h0 : Blk w g0 ty s.cells.toArray) (h : ByS lo hi w v b) :
  Calls Tryz.prog 145 #[.pointer (some ⟨g0, 0, none⟩), v] w fun e w' => e = .returned (.tuple #[]) ∧ Blk w' g0 ty (comp s b).cells.toArray ∧ Mut w w' g0 := by
 have HV := Lib.hid h
 have HB := Lib.hid hb
 have H8 := Lib.hid hb8
 clear h hb hb8
 go_enter Tryz.func145, Tryz.ntmps145
 obtain ⟨i64', hi64, iz0, iz1, iz2⟩ := info_parts Jba
 obtain ⟨ist, hist, sz0, sz1, sz2⟩ := info_parts Jfw
 go_upto_region 0 with (fail)
 refine wp_region_lit ?_
 refine wpList_plain rfl fun K hK => ?_; go_big_op; refine hK _ _ ?_; clear hK K
 refine wpSk rfl (J7 J74 (gSched b HB.out H8.out _ lo hi w HV.out) rfl rfl) fun v17 w1 hh => ?_
 obtain ⟨rfl, B1⟩ := hh
 try simp only [PutS]
 refine wpSk rfl (Jl hi64 iz0 rfl) fun v4 w2 hh => ?_
 obtain ⟨rfl, rfl⟩ := hh
 try simp only [PutS]
 have b4 : Blk (w1.alloc (.cells (Value.agg (zl 64).toArray).cells 188)) w1.heap.size 188 (zl 64).toArray := World.alloc_heap_new w1 _
 have B2 := B1.alloc B1.size (.cells (Value.agg (zl 64).toArray).cells 188)
 refine J6 rfl 188 (.tmp 4) (.tmp 17) rfl rfl (cells := u32c (sched b)) rfl b4 (by rw [J2h, J1i]; simp [zl]) (by rw [J5j, J2h, J1i]) (J6q _) (Ja _ _ (by rw [J2h, J1i]; simp [zl])) fun X hX bX => ?_
 have hn4 : g0 < w1.heap.size := Nat.lt_of_lt_of_le h0.lt B1.size
 have hn4w : w.heap.size ≤ w1.heap.size := B1.size
 have bg := hX.blk (h0.below B2 h0.lt) (by omega)
 have BX := J2 B2 hX hn4w
 obtain ⟨n4, hn4e⟩ : ∃ n, n = w1.heap.size := ⟨_, rfl⟩
 rw [← hn4e] at bX hn4 hn4w ⊢
 clear b4 B2 B1 hX hn4e iz0 iz1 iz2 hi64
 go_upto_region 1 with (fail)
 refine wp_region_lit ?_
 try simp only [PutS]
 iterate 2 (refine wpList_plain rfl fun K hK => ?_; go_big_op; refine hK _ _ ?_; clear hK K)
 refine wpSk rfl (J1 (cs := s.cells) J9f rfl J91 rfl rfl (J4 bg)) fun v20 w20 hh => ?_
 obtain ⟨rfl, rfl⟩ := hh
 try simp only [PutS]
 refine wpSk rfl (Jl hist sz0 rfl) fun v5 w5 hh => ?_
 obtain ⟨rfl, rfl⟩ := hh
 try simp only [PutS]
 have b5 : Blk (w20.alloc (.cells (Value.agg (List.replicate 8 (Value.int .u32 0)).toArray).cells 178)) w20.heap.size 178 (List.replicate 8 (Value.int .u32 0)).toArray := World.alloc_heap_new w20 _
 have B5 := BX.alloc BX.size (.cells (Value.agg (List.replicate 8 (Value.int .u32 0)).toArray).cells 178)
 have BA := (Below.refl _ w20).alloc (Nat.le_refl _) (.cells (Value.agg (List.replicate 8 (Value.int .u32 0)).toArray).cells 178)
 refine J6 rfl 178 (.tmp 5) (.tmp 20) rfl rfl (cells := s.cells) rfl b5 (by simp [S8.cells]) J91 (s8_one _) (Ja _ _ (by simp [S8.cells])) fun Y hY bY => ?_
 have hn5w : w.heap.size ≤ w20.heap.size := BX.size
 have hn5 : n4 < w20.heap.size := bX.lt
 have bgY := hY.blk (bg.keep BA) (by omega)
 have b4Y := hY.blk (bX.keep BA) (by omega)
 have BY := J2 B5 hY hn5w
 obtain ⟨n5, hn5e⟩ : ∃ n, n = w20.heap.size := ⟨_, rfl⟩
 rw [← hn5e] at bY hn5 hn5w ⊢
 have bY0 : Blk Y n5 178 (rndK b s 0).cells.toArray := bY
 have hLw := hL.sz
 clear b5 B5 BA hY hn5e sz0 sz1 sz2 hist bg bX BX bY
 try simp only [PutS]
 go_wp2_with fail
 go_loopw [21] (fun i wr => ∃ k : Nat, k ≤ 64 ∧ i = .int .i64 k ∧ Blk wr n4 188 (u32c (sched b)).toArray ∧ Blk wr n5 178 (rndK b s k).cells.toArray ∧ Blk wr g0 ty s.cells.toArray ∧ Below w.heap.size w wr) (fun i _ => 64 - (intOf i).toNat)
 case atStart => exact ⟨0, Nat.zero_le _, rfl, b4Y, bY0, bgY, BY⟩
 case round =>
  obtain ⟨k, hk, rfl, b4, b5, bg, hBr⟩ := hrel
  clear b4Y bY0 bgY BY
  by_cases hlt : k < 64
  ·
   have hN : rndK b s (k + 1) = rnd (kTabB.getD k 0) ((sched b).getD k 0) (rndK b s k) := by rw [rndK]
   have hcw := Ja5 b4 k (by rw [J1i]; exact hlt)
   have hck := (hL.below hBr (by omega)).const k hlt
   have HN := Lib.hid hN
   generalize hR : rndK b s k = r at *
   generalize kTabB.getD k 0 = kk at *
   generalize (sched b).getD k 0 = ww at *
   have C : CmpS w wr n4 n5 g0 ty (sched b) r s := ⟨b4, b5, bg, hBr⟩
   clear b4 b5 bg hBr hN hR
   have f0 := Je C.b5.lt C.c0
   have f4 := Je C.b5.lt C.c4
   have fk := Je (show 4 < wr.heap.size by have := C.hB.size; omega) hck
   have fw := Je C.b4.lt hcw
   clear hck hcw
   go_upto_region 5 with (fail)
   refine Jd 5 [] (by kernel_rfl) (by kernel_rfl) (by kernel_rfl) trivial ?_
   iterate 5 (refine rg_det rfl rfl rfl (fun K hK => ?_); go_big_quiet_op; refine hK _ ?_; clear hK K)
   refine rg_nil (fun w' hw' hF => ?_)
   obtain ⟨z, rfl⟩ := hw'
   simp only [List.drop_succ_cons, List.drop_zero]
   have C := C.keep z.h
   have kz := fk z
   have wz := fw z
   clear hF f0 f4 fk fw
   go_wp2_with fail
   have hB0 := Below.refl z.w.heap.size z.w
   go_wp2_with fail
   refine (gRotL r.e 6 (by decide) (by decide) z.w).mono ?_
   rintro e w1 ⟨rfl, hbw1⟩
   simp only []
   have hB1 := hB0.trans (hbw1.mono hB0.size)
   go_wp2_with fail
   refine (gRotL r.e 11 (by decide) (by decide) w1).mono ?_
   rintro e w2 ⟨rfl, hbw2⟩
   simp only []
   have hB2 := hB1.trans (hbw2.mono hB1.size)
   go_wp2_with fail
   refine (gRotL r.e 25 (by decide) (by decide) w2).mono ?_
   rintro e w3 ⟨rfl, hbw3⟩
   simp only []
   have hB3 := hB2.trans (hbw3.mono hB2.size)
   have C3 := C.keep hB3
   have c5 := C3.c5
   have c6 := C3.c6
   go_upto_region 8 with (fail)
   rw [ch_val, b3_val]
   rw [show rotr r.e 6 ^^^ rotr r.e 11 ^^^ rotr r.e 25 = bs1 r.e from rfl]
   have f7 := Je C3.b5.lt C3.c7
   have fk := Je (show 4 < w3.heap.size by have := C3.hB.size; omega) ((hB3.cell (p := ⟨4, k, none⟩) (show 4 < z.w.heap.size by have := C.hB.size; omega)).trans kz)
   have fw := Je C3.b4.lt ((hB3.cell (p := ⟨n4, k, none⟩) C.b4.lt).trans wz)
   clear C hB0 hB1 hB2 hB3 hbw1 hbw2 hbw3 kz wz c5 c6
   refine Jd 14 [] (by kernel_rfl) (by kernel_rfl) (by kernel_rfl) trivial ?_
   iterate 14 (refine rg_det rfl rfl rfl (fun K hK => ?_); go_big_quiet_op; refine hK _ ?_; clear hK K)
   refine rg_nil (fun w' hw' hF => ?_)
   obtain ⟨y, rfl⟩ := hw'
   simp only [List.drop_succ_cons, List.drop_zero]
   have C := C3.keep y.h
   clear hF f7 fk fw C3
   go_wp2_with fail
   have hB0 := Below.refl y.w.heap.size y.w
   go_wp2_with fail
   refine (gRotL r.a 2 (by decide) (by decide) y.w).mono ?_
   rintro e w4 ⟨rfl, hbw4⟩
   simp only []
   have hB4 := hB0.trans (hbw4.mono hB0.size)
   go_wp2_with fail
   refine (gRotL r.a 13 (by decide) (by decide) w4).mono ?_
   rintro e w5 ⟨rfl, hbw5⟩
   simp only []
   have hB5 := hB4.trans (hbw5.mono hB4.size)
   go_wp2_with fail
   refine (gRotL r.a 22 (by decide) (by decide) w5).mono ?_
   rintro e w6 ⟨rfl, hbw6⟩
   simp only []
   have hB6 := hB5.trans (hbw6.mono hB5.size)
   have C6 := C.keep hB6
   have c1 := C6.c1
   have c2 := C6.c2
   go_upto_region 11 with (fail)
   rw [b3_val, mj_val, Jlt]
   rw [show rotr r.a 2 ^^^ rotr r.a 13 ^^^ rotr r.a 22 = bs0 r.a from rfl, show r.h + bs1 r.e + chE r.e r.f r.g + kk + ww = tOne kk ww r from rfl]
   clear C hB0 hB4 hB5 hB6 hbw4 hbw5 hbw6 c1 c2
   generalize hT : tOne kk ww r = T at *
   refine Jd 2 [] (by kernel_rfl) (by kernel_rfl) (by kernel_rfl) trivial ?_
   iterate 2 (refine rg_det rfl rfl rfl (fun K hK => ?_); go_big_quiet_op; refine hK _ ?_; clear hK K)
   refine rg_nil (fun w' hw' hF => ?_)
   obtain ⟨x, rfl⟩ := hw'
   simp only [List.drop_succ_cons, List.drop_zero]
   have C := C6.keep x.h
   clear hF C6
   refine wpSk rfl (Jja rfl rfl rfl C.b5) fun v85 w7 hh => ?_
   obtain ⟨hP7, b5s⟩ := hh
   try simp only [PutS]
   have b4s := hP7.blk C.b4 (by omega)
   have bgs := hP7.blk C.bg (by omega)
   have hBs := J2 C.hB hP7 hn5w
   clear hP7 C
   have c4 : w7.cell? ⟨n5, 4, none⟩ = some (.int .u32 (bv r.d)) := (b5s.cell 4).trans rfl
   have e5 := b5s.frozen
   go_upto_region 12 with (fail)
   go_upto_region 13 with (fail)
   rw [Jfz]
   refine set1 (M := fun W => Code.wp _ _ _ _ W) b5s fun X hX bX => ?_
   have b4X := hX.blk b4s (by omega)
   have bgX := hX.blk bgs (by omega)
   have hBX := J2 hBs hX hn5w
   have b5X : Blk X n5 178 (⟨r.a, r.a, r.b, r.c, r.d + T, r.e, r.f, r.g⟩ : S8).cells.toArray := bX
   clear b5s b4s bgs hBs c4 e5 hX bX
   have c0 : X.cell? ⟨n5, 0, none⟩ = some (.int .u32 (bv r.a)) := (b5X.cell 0).trans rfl
   have e5 := b5X.frozen
   go_upto_region 14 with (fail)
   rw [Jfx]
   refine set1 (M := fun W => Code.wp _ _ _ _ W) b5X fun Z hZ bZ => ?_
   have b4Z := hZ.blk b4X (by omega)
   have bgZ := hZ.blk bgX (by omega)
   have hBZ := J2 hBX hZ hn5w
   have b5Z : Blk Z n5 178 (rndK b s (k + 1)).cells.toArray := by
    rw [HN.out]
    unfold rnd
    rw [hT, ← BitVec.add_assoc]
    rw [Jfx] at bZ
    exact bZ
   clear c0 e5 b5X b4X bgX hBX bZ hZ
   go_wp2_with fail
   exact ⟨⟨k + 1, by omega, by go_num, b4Z, b5Z, bgZ, hBZ⟩, by simp [intOf]; omega⟩
  ·
   obtain rfl : k = 64 := by omega
   generalize hR : rndK b s 64 = r at *
   go_upto_region 15 with (fail)
   refine wp_region_lit ?_
   refine wpSk rfl (J1 (cs := r.cells) J9f rfl J91 rfl rfl (J4 b5)) fun v98 w98 hh => ?_
   obtain ⟨rfl, rfl⟩ := hh
   try simp only [PutS]
   have hMr : Mut w w98 g0 := Mut.of_below hBr
   have bg0 : Blk w98 g0 ty (adK s r 0).toArray := bg
   clear b4 b5 bg hBr
   go_wp2_with fail
   go_loopw [99] (fun i wr => ∃ k : Nat, k ≤ 8 ∧ i = .int .i64 k ∧ Blk wr g0 ty (adK s r k).toArray ∧ Mut w wr g0) (fun i _ => 8 - (intOf i).toNat)
   case atStart => exact ⟨0, Nat.zero_le _, rfl, bg0, hMr⟩
   case round =>
    clear bg0 hMr
    obtain ⟨k, hk, rfl, bg, hM⟩ := hrel
    by_cases hlt : k < 8
    ·
     have c1 := (bg.cell k).trans (show (adK s r k).toArray[k]? = some (.int .u32 (bv (s.get k))) by rw [List.getElem?_toArray]; exact adK_at s r k hlt)
     have f1 := Je bg.lt c1
     have hix := Jfy r k hlt
     have e1 := bg.frozen
     go_wp2_with fail
     refine Jd 9 [] (by kernel_rfl) (by kernel_rfl) (by kernel_rfl) trivial ?_
     iterate 9 (refine rg_det rfl rfl rfl (fun K hK => ?_); go_big_quiet_op; refine hK _ ?_; clear hK K)
     refine rg_nil (fun w' hw' hF => ?_)
     obtain ⟨z, rfl⟩ := hw'
     simp only [List.drop_succ_cons, List.drop_zero]
     have bgz := bg.gw z
     have hMz := hM.below z.h
     have e1 := bgz.frozen
     have c1 := f1 z
     clear hF f1 hix
     go_upto_region 19 with (fail)
     rw [Jfz]
     refine set1 (M := fun W => Code.wp _ _ _ _ W) bgz fun X hX bX => ?_
     rw [List.setIfInBounds_toArray, Jlu s r k hlt] at bX
     have hMX := hMz.put hX
     clear e1 c1 bgz hMz hX
     go_wp2_with fail
     exact ⟨⟨k + 1, by omega, by go_num, bX, hMX⟩, by simp [intOf]; omega⟩
    ·
     obtain rfl : k = 8 := by omega
     have hfin : adK s r 8 = (comp s b).cells := by
      rw [show comp s b = s.add r by unfold comp; rw [hR]]
      rfl
     rw [hfin] at bg
     go_wp2_with fail
     exact bodyPost_end (v := .tuple #[]) (by simp [results, Tryz.results145, go_sem]) rfl ⟨rfl, bg, hM⟩
end

theorem Je7 {W : World} {nm : String} {g : Nat} {t : TypeId} {cs : Array Value} {fuel n : Nat} {d : DataW Unit} {p : List MemPlace} (zs : List Int) (hg : Tryz.prog.globalNamed nm = some g) (ht : Tryz.prog.underlying t = some (.array n 169)) (hv : W.var? Tryz.prog nm = some cs)
  (hd : DataW.trod (fun _ => ()) Tryz.prog W 0 (fun _ => true) false fuel t cs.toList = some (d, p)) (hz : d = .agg (zs.map fun z => .lit (.int .u32 z))) (hn : zs.length = n) : W.rangeAt g 0 (zs.map fun z => Value.int .u32 z) := by
 obtain ⟨xs, m, _, ex, _, hl, hel⟩ := DataW.trod_array ht hd
 have c5 : Tryz.prog.cellsOf 169 = 1 := by kernel_rfl
 intro r v hr
 have hr' : r < n := by
  rw [← hn]
  have := (List.getElem?_eq_some_iff.1 hr).1
  rwa [List.length_map] at this
 have hE := hel r hr'
 rw [c5, Nat.mul_one, List.getElem?_eq_getElem (by omega)] at hE
 obtain ⟨z, e1, e2, _⟩ := DataW.trod_int Tryz.underlying169 hE
 have e3 : (xs.map (·.1)) = zs.map fun n => .lit (.int .u32 n) := (DataW.agg.inj ((Prod.mk.inj ex).1.symm.trans hz))
 have e4 : (xs.map (·.1))[r]? = (zs.map fun n => (DataW.lit (.int .u32 n) : DataW Unit))[r]? := by rw [e3]
 rw [List.getElem?_map, List.getElem?_map, List.getElem?_eq_getElem (by omega : r < xs.length), List.getElem?_eq_getElem (by omega : r < zs.length), e2] at e4
 rw [List.getElem?_map, List.getElem?_eq_getElem (by omega : r < zs.length)] at hr
 simp only [Option.map_some, Option.some.injEq, DataW.lit.injEq, Lit.int.injEq, true_and] at e4 hr
 rw [← e4] at hr
 rw [Nat.zero_add, World.var?_cell hg hv r, ← hr]
 have : cs.toList[r]? = some (.int .u32 z) := by
  have h0 : ((cs.toList.drop r).take 1)[0]? = some (.int .u32 z) := by rw [e1]; rfl
  simpa using h0
 simpa using this
theorem gIni : Tryz.prog.globalNamed "attestor/sha256.initial" = some 0 := by kernel_rfl
theorem tIni : (Tryz.prog.globals[0]?).map (·.type) = some 172 := by kernel_rfl
theorem gCon : Tryz.prog.globalNamed "attestor/sha256.constants" = some 4 := by kernel_rfl
theorem tCon : (Tryz.prog.globals[4]?).map (·.type) = some 188 := by kernel_rfl
theorem ini_zs : (init8.cells) = ([1779033703, 3144134277, 1013904242, 2773480762, 1359893119, 2600822924, 528734635, 1541459225] : List Int).map fun z => Value.int .u32 z := by kernel_rfl
def conZ : List Int := kTabB.map fun x : B32 => bv x
theorem con_zs : u32c kTabB = conZ.map fun z => Value.int .u32 z := by unfold u32c conZ; rw [List.map_map]; rfl
theorem Jjb : (Rows.laid_attestor_sha256_constants : DataW Unit) = .agg (conZ.map fun z => .lit (.int .u32 z)) := by kernel_rfl

theorem Je8 {A B : World} {g k : Nat} (h : Put A B g) (hk : k ≠ g) {o : Obj} (ho : A.heap[k]? = some o) : B.heap[k]? = some o := (h.other k hk).trans ho
theorem J7h {A B : World} {k : Nat} (h : Below A.heap.size A B) {o : Obj} (ho : A.heap[k]? = some o) : B.heap[k]? = some o := (h.block k (Array.getElem?_eq_some_iff.1 ho).1).trans ho
section
open Go Go.RowKit

def isMove (o : Oper) : Bool := match o.op with | .move _ => true | _ => false
def lateM (ops : Array Oper) (n : Nat) : List Nat → Array Bool → Bool
 | [], _ => true
 | i :: L, listed => decide (i < n) && (Region.ready .any ops listed).contains i && Region.free .any ops listed i && (match ops[i]? with | some o => isMove o && o.guard.isNone | none => false) && lateM ops n L (listed.setIfInBounds i true)
def rgLM (ops : Array Oper) (n : Nat) (L : List Nat) : Bool :=
 let B := befores ops.toList []
 ops.toList.all noDefer && Region.noSelect ops && decide (n ≤ ops.size) && (List.range n).all (headB ops n B) && sinkL ops n L && Region.chainB .any ops n &&
  Region.seqB .any ops (ops.size - n) n (firstN n ops.size) && lateM ops n L (Array.replicate ops.size false)
section
variable {P : Program} {ops : Array Oper} {n : Nat} {B : List Nat} {Sp : List (Nat × Spec)} {C : World → Prop} {N0 : Nat} {a0 : Act}
theorem J92 {Q : Exit → Act → World → Prop} : ∀ (l : List Oper) (k : Nat) (listed : Array Bool) (a : Act) (w : World), (∀ j, l[j]? = ops[k + j]?) →
  Region.seqB .any ops l.length k listed = true → wpList P ops Q l a w → wpAnyH P .any ops Q (fun _ => True) l.length listed a w
 | [], _, _, _, _, _, hB, h => ⟨by simpa [Region.seqB] using hB, h⟩
 | o :: l, k, listed, a, w, hl, hB, h => by
  have h0 : ops[k]? = some o := by simpa using (hl 0).symm
  simp only [List.length_cons, Region.seqB, Bool.and_eq_true, decide_eq_true_eq] at hB
  refine ⟨fun h1 => (by rw [hB.1] at h1; cases h1), fun i hi => ?_⟩
  rw [hB.1] at hi
  have hik : i = k := by simpa using hi
  subst hik
  unfold wpList at h
  unfold wpOp
  simp only [h0]
  have next : ∀ a' w', wpList P ops Q l a' w' → (fun _ => True) w' ∧ wpAnyH P .any ops Q (fun _ => True) l.length (listed.setIfInBounds i true) a' w' := fun a' w' h' =>
   ⟨trivial, J92 l (i + 1) _ a' w' (fun j => by have := hl (j + 1); simpa [Nat.add_assoc, Nat.add_comm 1 j] using this) hB.2 h'⟩
  by_cases hw : Region.wanted o (yielded ops a.tmps) = true
  ·
   rw [if_pos hw] at h ⊢
   exact h.imp (Oper.wp_mono fun a' w' h' => next a' w' h') id
  ·
   rw [if_neg hw] at h ⊢
   exact next _ _ h
theorem Jdj {Q : Exit → Act → World → Prop} {L : List Nat} (hst : ∀ i A F, specOf Sp i = some (.rel A F) → Fit A F) (hns : ∀ i u, specOf Sp i ≠ some (.skip u)) (hC : ∀ w w', C w → Below w.heap.size w w' → C w') (hN : ∀ w, C w → N0 ≤ w.heap.size)
  (hnd : ∀ (k : Nat) (o : Oper), ops[k]? = some o → noDefer o = true) (hle : n ≤ ops.size) (H : ∀ k, k < n → ∃ o d, HeadOk ops n B k o d) (hsink : sinkL ops n L = true) (hchain : Region.chainB .any ops n = true) (hseq : Region.seqB .any ops (ops.size - n) n (firstN n ops.size) = true)
  (hsz : ∀ (k : Nat) (d : Tmp), k < n → dstOf ops k = some d → d < a0.tmps.size)
  (htree : wpRg P ops B Sp C N0 (fun a w => wpList P ops Q (ops.toList.drop n) a w) (ops.toList.take n) 0 a0 [] []) :
  ∀ (f : Nat) (listed : Array Bool) (a : Act) (w : World) (r : Nat → Nat × Nat), unl n listed = f → (∀ i ∈ L, i < n → listed.getD i true = true) → HeadInv .any ops n listed → Good P ops n Sp C N0 a0 listed a w r → wpAnyH P .any ops Q (fun _ => True) (f + (ops.size - n)) listed a w := by
 intro f
 induction f with
 | zero =>
  intro listed a w r hf hLl inv hG
  have hall : ∀ k, k < n → listed.getD k false = true := fun k hk => by
   have h1 := J7s hf k hk
   have h2 : k < listed.size := by rw [inv.size]; omega
   simp [h2] at h1 ⊢
   exact h1
  have hfin := J97 hst hns hN hnd H hsz hle htree hG hall
  have hls := J8h inv.size hf inv.tail
  have hdl : (ops.toList.drop n).length = ops.size - n := by simp
  have := J92 (Q := Q) (ops.toList.drop n) n listed a w (fun j => by simp [List.getElem?_drop]) (by rw [hdl, hls]; exact hseq) hfin
  rw [hdl] at this
  rw [Nat.zero_add]
  exact this
 | succ f ih =>
  intro listed a w r hf hLl inv hG
  rw [show f + 1 + (ops.size - n) = (f + (ops.size - n)) + 1 by omega]
  have hex : ∃ i, i < n ∧ listed.getD i true = false := by
   refine Classical.byContradiction fun hno => ?_
   have : unl n listed = 0 := List.countP_eq_zero.2 fun i hi => by
    have hi' := List.mem_range.1 hi
    cases hd : listed.getD i true with
    | true => simp
    | false => exact absurd ⟨i, hi', hd⟩ hno
   omega
  obtain ⟨i0, hi0, hun0⟩ := hex
  obtain ⟨j0, _, hj0⟩ := J7e H inv.size hle i0 hi0 hun0
  refine ⟨fun h0 => (by rw [h0] at hj0; cases hj0), fun i hi => ?_⟩
  obtain ⟨hun, oi, hoi, _⟩ := mem_ready.1 hi
  have hin : i < n := by
   rcases Nat.lt_or_ge i n with h | h
   · exact h
   ·
    have hlt : i < ops.size := (Array.getElem?_eq_some_iff.1 hoi).1
    exact absurd hi (Jf5 hsink hchain (by omega) inv hLl _ i0 rfl hi0 hun0 i h)
  obtain ⟨o, d, h⟩ := H i hin
  have hs := J8g hst hns hC hN hnd H hsz hle htree hG inv hin h hi
  have hisz : i < listed.size := by rw [inv.size]; omega
  have hunl := J7m hisz hun n hin
  have next : ∀ a' w', (∃ r', Good P ops n Sp C N0 a0 (listed.setIfInBounds i true) a' w' r') → (fun _ => True) w' ∧ wpAnyH P .any ops Q (fun _ => True) (f + (ops.size - n)) (listed.setIfInBounds i true) a' w' :=
   fun a' w' ⟨r', hG'⟩ => ⟨trivial, ih _ a' w' r' (by omega) (fun k hk hkn => by
    by_cases hik : i = k
    · subst hik; simp [hisz]
    · rw [getD_set_ne true hik]; exact hLl k hk hkn) (inv.set hi hin) hG'⟩
  unfold wpOp
  simp only [h.op]
  by_cases hw : Region.wanted o (yielded ops a.tmps) = true
  ·
   rw [if_pos hw] at hs ⊢
   exact .inl (Jn (Jb (fun v w' hv => next _ _ hv) hs))
  ·
   rw [if_neg hw] at hs ⊢
   exact next _ _ hs

theorem Jh8 {Fin : Act → World → Prop} (hst : ∀ i A F, specOf Sp i = some (.rel A F) → Fit A F) (hns : ∀ i u, specOf Sp i ≠ some (.skip u)) (hC : ∀ w w', C w → Below w.heap.size w w' → C w') (hN : ∀ w, C w → N0 ≤ w.heap.size)
  (hnd : ∀ (k : Nat) (o : Oper), ops[k]? = some o → noDefer o = true) (H : ∀ k, k < n → ∃ o d, HeadOk ops n B k o d) (hsz : ∀ (k : Nat) (d : Tmp), k < n → dstOf ops k = some d → d < a0.tmps.size)
  (hn : n ≤ ops.size) (htree : wpRg P ops B Sp C N0 Fin (ops.toList.take n) 0 a0 [] [])
  {listed : Array Bool} {a : Act} {w : World} {r : Nat → Nat × Nat} (hG : Good P ops n Sp C N0 a0 listed a w r) (inv : HeadInv .any ops n listed)
  {i : Nat} {o : Oper} {d : Tmp} (hi : i < n) (h : HeadOk ops n B i o d) (hr : i ∈ Region.ready .any ops listed) (hs : specOf Sp i = none) (hlo : isMove o = true) (hg : o.guard = none) :
  ∃ v, YieldsIf P ops (fun _ => True) o v a ∧ ∃ r', Good P ops n Sp C N0 a0 (listed.setIfInBounds i true) (a.put o.dst v) w r' := by
 obtain ⟨hun, o', ho', hall⟩ := mem_ready.1 hr
 obtain rfl : o = o' := Option.some.inj (h.op.symm.trans ho')
 have hdi : dstOf ops i = some d := by unfold dstOf; rw [h.op]; exact h.dst
 have hlt : d < a.tmps.size := by rw [hG.size]; exact hsz i d hi hdi
 have hPl : ∀ k, k < n → isBefore B k i = true → listed.getD k false = true := fun k _ hk =>
  J78 H inv hi (fun o2 ho2 e he hb => by
   obtain rfl : o = o2 := Option.some.inj (h.op.symm.trans ho2)
   exact hall e he hb) k hk
 have hPb : ∀ k j, k < n → isBefore B k i = true → isBefore B j k = true → isBefore B j i = true := fun k j _ h1 h2 => J9x H hi k j h1 h2
 have htl : (ops.toList.take n).length = n := by simp; omega
 obtain ⟨l', b, G, rs, hl1, hl2, R, hw⟩ := descend hnd H hsz hG hPl hPb hst (fun k u h => absurd h (hns k u)) hN (Nat.le_of_lt hi) (ops.toList.take n) 0 a0 [] [] (Nat.zero_le _) (by rw [htl]; omega)
  (fun j hj => by rw [htl] at hj; simp [hj]) ⟨rfl, rfl, fun _ _ => rfl, fun j hj => absurd hj (by omega), fun φ hφ => (by cases hφ), fun ρ hρ => (by cases hρ), fun φ hφ => (by cases hφ)⟩ htree
 have hag : ∀ t ∈ o.looksAt ops, b.tmps[t]? = a.tmps[t]? := J9y H hG hi (fun j hj => hj) h R
 have hex := J4v (hnd i o h.op) hag
 have hwa : Region.wanted o (yielded ops b.tmps) = true := by unfold Region.wanted; rw [hg]
 have hwant : Region.wanted o (yielded ops a.tmps) = true := by unfold Region.wanted; rw [hg]
 have hself : ∀ v, ∀ t ∈ o.looksAt ops, (a.put o.dst v).tmps[t]? = a.tmps[t]? := fun v t ht => by
  rw [h.dst]
  refine put_ne fun e => ?_
  subst e
  have := J9w H hi i (h.wr t ht i hi hdi)
  omega
 have hself2 : ∀ v, execOp (a.put o.dst v).eval o = execOp a.eval o := fun v => J4v (hnd i o h.op) (hself v)
 have hself3 : ∀ v, Region.wanted o (yielded ops (a.put o.dst v).tmps) = Region.wanted o (yielded ops a.tmps) := fun v => J3b (hself v)
 have hval : ∀ v, (a.put o.dst v).tmps.getD d undef = v := fun v => by rw [h.dst]; exact Jdn hlt
 cases l' with
 | nil => simp only [List.length_nil] at hl1; omega
 | cons o2 l' =>
  have : o2 = o := by
   have := hl2 0 (by simp)
   rw [Nat.add_zero, h.op] at this
   simpa using this
  subst this
  unfold wpRg at hw
  rw [if_pos hwa, hs] at hw
  obtain ⟨hcalm, v, hv, _⟩ := hw
  have hq : ∀ w, C w → o2.quietAt P a C w v := fun w hw => J42 hex.symm (hv w hw)
  refine ⟨v, .inl ⟨hwant, fun w' hw' => ?_⟩, _, Jcd hst hC hN hnd H hsz hG inv hi h hun (Below.refl _ _) (fun r' _ => ⟨fun e => ?_, fun _ _ => ⟨hcalm, w, hG.c, ?_⟩, fun _ u' hs' => ?_, fun _ A F hs' => ?_⟩)⟩
  ·
   obtain ⟨x, hx⟩ : ∃ x, o2.op = .move x := by
    revert hlo
    unfold isMove
    cases o2.op <;> intro h0 <;> first | exact ⟨_, rfl⟩ | cases h0
   have hq' := hq w hG.c
   unfold Oper.quietAt at hq'
   unfold execOp at hq' ⊢
   simp only [hx] at hq' ⊢
   obtain ⟨_, rfl⟩ := hq'
   rfl
  · rw [hself3, hwant] at e; cases e
  · rw [hval]; exact J42 (hself2 _) (hq w hG.c)
  · rw [hs] at hs'; cases hs'
  · rw [hs] at hs'; cases hs'

theorem Jbq {L0 : List Nat} {Q : Exit → Act → World → Prop} {Fin : Act → World → Prop} (hst : ∀ i A F, specOf Sp i = some (.rel A F) → Fit A F) (hns : ∀ i u, specOf Sp i ≠ some (.skip u)) (hC : ∀ w w', C w → Below w.heap.size w w' → C w') (hN : ∀ w, C w → N0 ≤ w.heap.size)
  (hnd : ∀ (k : Nat) (o : Oper), ops[k]? = some o → noDefer o = true) (hsel : Region.noSelect ops = true) (H : ∀ k, k < n → ∃ o d, HeadOk ops n B k o d) (hsz : ∀ (k : Nat) (d : Tmp), k < n → dstOf ops k = some d → d < a0.tmps.size)
  (hn : n ≤ ops.size) (htree : wpRg P ops B Sp C N0 Fin (ops.toList.take n) 0 a0 [] []) (hQ : ∀ c (a : Act) d v w, Q (.panic c) (a.put d v) w → Q (.panic c) a w)
  (fin : ∀ (listed : Array Bool) (a : Act) (w : World) (r : Nat → Nat × Nat), HeadInv .any ops n listed → Good P ops n Sp C N0 a0 listed a w r → (∀ i, i ∈ L0 → i < n → listed.getD i true = true) → wpAnyH P .any ops Q (fun _ => True) (unl n listed + (ops.size - n)) listed a w) :
  ∀ (L : List Nat) (listed : Array Bool) (a : Act) (w : World) (r : Nat → Nat × Nat), HeadInv .any ops n listed → Good P ops n Sp C N0 a0 listed a w r → lateM ops n L listed = true → (∀ i ∈ L, specOf Sp i = none) → (∀ i ∈ L0, i < n → i ∈ L ∨ listed.getD i true = true) →
   wpAnyH P .any ops Q (fun _ => True) (unl n listed + (ops.size - n)) listed a w
 | [], listed, a, w, r, inv, hG, _, _, hl => fin listed a w r inv hG fun i hi hin => (hl i hi hin).resolve_left (by simp)
 | i :: L, listed, a, w, r, inv, hG, hB, hs, hl => by
  simp only [lateM, Bool.and_eq_true, decide_eq_true_eq] at hB
  obtain ⟨⟨⟨⟨h1, h2⟩, h3⟩, h4⟩, h5⟩ := hB
  have hr : i ∈ Region.ready .any ops listed := by simpa using h2
  obtain ⟨o, d, h⟩ := H i h1
  rw [h.op] at h4
  simp only [Bool.and_eq_true, Option.isNone_iff_eq_none] at h4
  obtain ⟨v, hy, r', hG'⟩ := Jh8 hst hns hC hN hnd H hsz hn htree hG inv h1 h hr (hs i (List.mem_cons_self ..)) h4.1 h4.2
  have hun := (mem_ready.1 hr).1
  have hisz : i < listed.size := by rw [inv.size]; omega
  have hunl := J7m hisz hun n h1
  rw [← hunl, show unl n (listed.setIfInBounds i true) + 1 + (ops.size - n) = (unl n (listed.setIfInBounds i true) + (ops.size - n)) + 1 by omega]
  refine wpAnyH_take h.op hsel h3 h2 (fun c a w => hQ c a _ _ w) hy trivial ?_
  refine Jbq hst hns hC hN hnd hsel H hsz hn htree hQ fin L _ _ w r' (inv.set hr h1) hG' h5 (fun k hk => hs k (List.mem_cons_of_mem _ hk)) fun k hk hkn => ?_
  by_cases hik : i = k
  · subst hik; exact .inr (by simp [hisz])
  ·
   rcases hl k hk hkn with h | h
   ·
    rcases List.mem_cons.1 h with h | h
    · exact absurd h.symm hik
    · exact .inl h
   · exact .inr (by rw [getD_set_ne true hik]; exact h)
end

theorem Jbr {P : Program} {id : Nat} {l : List Oper} {Q : Exit → Act → World → Prop} {a : Act} {W : World} (n : Nat) (L : List Nat) (Sp : List (Nat × Spec)) (hm : P.follows .mixedOrders = true) (hB : rgLM l.toArray n L = true) (hz : sizesB l.toArray n a.tmps.size = true) (hs : (L.all fun i => (specOf Sp i).isNone) = true)
  (hQ : ∀ c (a : Act) d v w, Q (.panic c) (a.put d v) w → Q (.panic c) a w)
  (st : stables Sp) (walk : wpRg P l.toArray (befores l []) Sp (Grw W) W.heap.size (fun a' w' => wpList P l.toArray Q (l.drop n) a' w') (l.take n) 0 a [] []) : (Code.region id l.toArray true).wp P Q a W := by
 refine wp_region_any hm ?_
 unfold rgLM at hB
 simp only [Bool.and_eq_true, decide_eq_true_eq] at hB
 obtain ⟨⟨⟨⟨⟨⟨⟨h1, h2⟩, h3⟩, h4⟩, h5⟩, h6⟩, h7⟩, h8⟩ := hB
 have hnd : ∀ (k : Nat) (o : Oper), l.toArray[k]? = some o → noDefer o = true := fun k o ho => List.all_eq_true.1 h1 o (by
  have : l[k]? = some o := by simpa using ho
  exact List.mem_of_getElem? this)
 have hH : ∀ k, k < n → ∃ o d, HeadOk l.toArray n (befores l []) k o d := fun k hk => J9v (List.all_eq_true.1 h4 k (List.mem_range.2 hk))
 have h0 : unl n (Array.replicate l.toArray.size false) = n := by
  unfold unl
  have : (List.range n).countP (fun i => !(Array.replicate l.toArray.size false).getD i true) = (List.range n).length := List.countP_eq_length.2 fun i hi => by
   have hi' := List.mem_range.1 hi
   have h1 : i < l.length := by simp only [List.size_toArray] at h3; omega
   simp [h1]
  rw [this, List.length_range]
 have inv0 : HeadInv .any l.toArray n (Array.replicate l.toArray.size false) :=
  ⟨by simp, fun j oj _ hl => (by rw [getD_replicate_false] at hl; cases hl), fun t _ ht => getD_in (by simpa using ht) (getD_replicate_false _ _)⟩
 have hst := J43 st
 have walk' : wpRg P l.toArray (befores l []) Sp (Grw W) W.heap.size (fun a' w' => wpList P l.toArray Q (l.toArray.toList.drop n) a' w') (l.toArray.toList.take n) 0 a [] [] := by simpa using walk
 have fin := fun (listed : Array Bool) (a' : Act) (w' : World) (r : Nat → Nat × Nat) (inv : HeadInv .any l.toArray n listed) (hG : Good P l.toArray n Sp (Grw W) W.heap.size a listed a' w' r) (hl : ∀ i, i ∈ L → i < n → listed.getD i true = true) =>
  Jdj (P := P) (Q := Q) (L := L) hst (J4b st) (fun w w' h h' => J7t h h') (fun w h => (J8 h).size) hnd h3 hH h5 h6 h7 (a0 := a) (J58 hz) walk' (unl n listed) listed a' w' r rfl hl inv hG
 have := Jbq (P := P) (Q := Q) (L0 := L) hst (J4b st) (fun w w' h h' => J7t h h') (fun w h => (J8 h).size) hnd h2 hH (a0 := a) (J58 hz) h3 walk' hQ fin L _ a { W with drawn := W.drawn + 1 } (fun _ => (0, 0)) inv0
  ⟨grw_of (Below.refl _ W).drew, rfl, rfl, fun _ _ => rfl, fun k o d _ _ _ hl => (by rw [getD_replicate_false] at hl; cases hl), fun k j _ _ _ hl => (by rw [getD_replicate_false] at hl; cases hl)⟩ h8
  (fun i hi => by simpa using List.all_eq_true.1 hs i hi) (fun i hi _ => .inl hi)
 rw [h0, show n + (l.toArray.size - n) = l.toArray.size by omega] at this
 exact wpAny_of_held _ _ _ _ this
end
section
open Go.RowKit

section
variable (tabs : List (List E)) (ps : List Trm)
end
section
variable {w wr X : World} {D N go gc gs : Nat} {vt vp : Value} {fo fc fs f' : Nat → E}
end
end

section
open Go.RowKit
attribute [local go_sem] Oper.semAt_some

end
section
open Go.RowKit
attribute [local go_sem] Oper.semAt_some

theorem J48 {N : Nat} {w W : World} (h : Below N w W) (l : Nat) (o : Obj) (hl : N ≤ l) : Below N w (W.putObj l o) :=
 ⟨h.os, h.tape, h.output, by simpa using h.size, fun k hk => (World.putObj_heap_other (by omega)).trans (h.block k hk)⟩
end
section
open Go.RowKit

end
section
open Go.RowKit

/-! ### Powers -/
attribute [local go_sem] Oper.semAt_some
end

def SeqM (n : Nat) (P : Program) (gf : Nat) (lb : Array Value) (Own S : Nat → Nat → Prop) (k N : Nat) (Av : Nat → Value → World → Prop) (w : World) : Prop :=
 ∀ (l : Nat) (J : Nat → World → Prop) (W : World), Below w.heap.size w W → (∀ s A B, J s A → Below A.heap.size A B → J s B) → (∀ s A B g, Own W.heap.size g → J s A → Put A B g → J s B) →
  (∀ pre x W1, J pre W1 → W.heap.size + k ≤ W1.heap.size → pre < N → Av pre x W1 → YieldAt .wide (n - 1) P l #[x] W1 fun e W' => e = .returned (.bool true) ∧ J (pre + 1) W' ∧ Keeps (S W.heap.size) W1 W') → J 0 W →
  CallsIn .wide n P gf (#[.func (.yield l) #[] #[]] ++ lb) W fun e W' => (∃ v, e = .returned v) ∧ J N W'
theorem Jhy {n : Nat} {P : Program} {g : Operand} {p1 : Tmp} {assign body : Code} {Q : Exit → Act → World → Prop} {a : Act} {w w0 : World} {gf : Nat} {Own S : Nat → Nat → Prop} {k N : Nat} {Av : Nat → Value → World → Prop} {lb : Array Value}
  (hseq : SeqM (n - 1) P gf lb Own S k N Av w0) (hb0 : Below w0.heap.size w0 w) (h1 : 1 ≤ n) (hg : a.eval g = .func (.func gf) #[] lb) (eg : ∀ args w, (callFunc gf args).run P w = .ok (.enter gf args) w)
  (hO : ∀ g, Own (w.heap.size + 2) g → g ≠ w.heap.size ∧ g ≠ w.heap.size + 1) (hS : ∀ g, S (w.heap.size + 2) g → g ≠ w.heap.size + 1)
  (I : Nat → World → Prop) (hI1 : ∀ s A B, I s A → Below A.heap.size A B → I s B) (hI2 : ∀ s A B g, Own (w.heap.size + 2) g → I s A → Put A B g → I s B) (hI3 : ∀ s (W : World) (o : Obj), I s W → I s (W.putObj (w.heap.size + 1) o)) (h0 : I 0 w)
  (Ax : Nat → Value → Act → World → Prop) (hAx : ∀ i x a' (W : World) (o : Obj) (L : Loop), W.heap[w.heap.size + 1]? = some (.loop L) → Ax i x a' W → Ax i x a' (W.putObj (w.heap.size + 1) o))
  (hassign : ∀ (l i : Nat) (x : Value) (W : World) (K : Act → World → Prop), w.heap.size + 2 + k ≤ W.heap.size → Av i x W → (∀ a' W', Below W.heap.size W W' → Ax i x a' W' → K a' W') →
   assign.wpIn (Fence.wide.inRound l) (n - 1 - 1) P (Exit.then K (fun _ _ _ => False)) { tmps := a.tmps.setIfInBounds p1 x, defers := [] } W)
  (hbody : ∀ (l : Nat) (pre : Nat) (x : Value) (W : World) (a' : Act), I pre W → w.heap.size + 2 + k ≤ W.heap.size → Ax pre x a' W → pre < N →
   body.wpIn (Fence.wide.inRound l) (n - 1 - 1) P (fun e _ W' => e = .normal ∧ Keeps (fun g => S (w.heap.size + 2) g ∨ g = w.heap.size ∨ g = w.heap.size + 1) W W' ∧ I (pre + 1) W') a' W)
  (hdone : ∀ (D : Nat) (W : World), Hid (D = w.heap.size) → I N W → W.heap[D]? = some (.deferred (some [])) → Q .normal { a with defers := { target := .collected D, args := #[] } :: a.defers } W) :
  (Code.rangeFunc g #[p1] assign body).wpIn .wide n P Q a w := by
 refine wpIn_rangeFunc fun fn hfn => ?_
 obtain ⟨rec, hrec⟩ : ∃ rec : LoopState → Loop, rec = fun st => { state := st, pending := none, fn, tmps := a.tmps, params := #[p1], assign, body, defers := w.heap.size } := ⟨_, rfl⟩
 obtain ⟨W1, hW1⟩ : ∃ W1, (w.alloc (.deferred (some []))).alloc (.loop (rec .ready)) = W1 := ⟨_, rfl⟩
 have hb1 : Below w.heap.size w W1 := by rw [← hW1]; exact ((Below.refl _ w).alloc (Nat.le_refl _) _).alloc (by simp) _
 have hW1s : W1.heap.size = w.heap.size + 2 := by rw [← hW1]; simp
 have hL1 : W1.heap[w.heap.size + 1]? = some (.loop (rec .ready)) := by
  rw [← hW1]; have := World.alloc_heap_new (w.alloc (.deferred (some []))) (.loop (rec .ready)); rwa [World.size_alloc] at this
 have hK1 : W1.heap[w.heap.size]? = some (.deferred (some [])) := by
  rw [← hW1]; exact (Below.heap_alloc _ _ _ (by simp)).trans (World.alloc_heap_new w _)
 refine ⟨w.heap.size + 1, [{ target := .collected w.heap.size, args := #[] }], W1, { target := .fn (.func gf) lb, args := #[.func (.yield (w.heap.size + 1)) #[] #[]] }, W1, gf,
  #[.func (.yield (w.heap.size + 1)) #[] #[]] ++ lb, W1, ?_, ?_, ?_, ?_, fun _ => h1, ?_⟩
 · rw [← hW1, hrec]; exact run_enterLoop_outer _ _ _ _ _
 ·
  simp only [resolve, hg]
  simp [go_sem]
 · intro f' hf'; trivial
 · simp [invoke, go_sem, eg]
 refine (hseq (w.heap.size + 1) (fun pre W => I pre W ∧ W.heap[w.heap.size + 1]? = some (.loop (rec .ready)) ∧ W.heap[w.heap.size]? = some (.deferred (some []))) W1 (hb0.trans (hb1.mono hb0.size))
  (fun s A B hs hb => ⟨hI1 s A B hs.1 hb, J7h hb hs.2.1, J7h hb hs.2.2⟩) (fun s A B g hg hs hp => by
   rw [hW1s] at hg
   obtain ⟨o1, o2⟩ := hO g hg
   exact ⟨hI2 s A B g hg hs.1 hp, Je8 hp (fun e => o2 e.symm) hs.2.1, Je8 hp (fun e => o1 e.symm) hs.2.2⟩) ?_ ⟨hI1 _ _ _ h0 hb1, hL1, hK1⟩).mono ?_
 ·
  rintro pre x W ⟨hi, hl, hk⟩ hWW hlen hav
  rw [hW1s] at hWW ⊢
  have hy := run_yield (P := P) (args := #[x]) hl (by rw [hrec]; rfl)
  rw [hrec] at hy
  refine ⟨fn, _, assign, body, hy, roundIn_of_wpIn hfn ?_⟩
  rw [show ((#[p1] : Array Tmp).zip (#[x] : Array Value)).foldl (fun t (p, v) => t.setIfInBounds p v) a.tmps = a.tmps.setIfInBounds p1 x by simp]
  refine hassign _ pre x W _ hWW hav ?_
  intro a' Wa hba hax
  have hla := J7h hba hl
  have hka := J7h hba hk
  refine ⟨_, run_beginRound hla (by rw [hrec]), ?_⟩
  obtain ⟨Wb, hWb⟩ : ∃ Wb, Wb = Wa.putObj (w.heap.size + 1) (.loop { rec .ready with state := .busy }) := ⟨_, rfl⟩
  have hlt := (Array.getElem?_eq_some_iff.1 hla).1
  have hl2 : Wb.heap[w.heap.size + 1]? = some (.loop { rec .ready with state := .busy }) := by rw [hWb]; exact World.putObj_heap_same hlt
  have hk2 : Wb.heap[w.heap.size]? = some (.deferred (some [])) := by rw [hWb]; exact (World.putObj_heap_other (by omega)).trans hka
  have hi2 : I pre Wb := by rw [hWb]; exact hI3 _ _ _ (hI1 _ _ _ hi hba)
  have hax2 : Ax pre x a' Wb := by rw [hWb]; exact hAx pre x a' Wa _ _ hla hax
  have hsb : w.heap.size + 2 + k ≤ Wb.heap.size := by rw [hWb]; have := hba.size; simp; omega
  have hkS : Keeps (S (w.heap.size + 2)) W Wb := by
   rw [hWb]
   exact (Keeps.of_below hba).trans ⟨by simp, fun g hg _ => World.putObj_heap_other (hS g hg)⟩
  rw [← hWb]
  refine wpIn_mono (hbody _ pre x Wb a' hi2 hsb hax2 hlen) ?_
  rintro e a3 W3 ⟨rfl, hkp3, hi3⟩
  have hl3 := (hkp3.same (w.heap.size + 1) (.inr (.inr rfl)) (by omega)).trans hl2
  have hkk3 := (hkp3.same w.heap.size (.inr (.inl rfl)) (by omega)).trans hk2
  have hend := run_endRound (P := P) none hl3
  have hl4 : (W3.putObj (w.heap.size + 1) (.loop (rec .ready))).heap[w.heap.size + 1]? = some (.loop (rec .ready)) := World.putObj_heap_same (Array.getElem?_eq_some_iff.1 hl3).1
  have hk4 : (W3.putObj (w.heap.size + 1) (.loop (rec .ready))).heap[w.heap.size]? = some (.deferred (some [])) := (World.putObj_heap_other (by omega)).trans hkk3
  have hkp4 : Keeps (S (w.heap.size + 2)) Wb W3 := ⟨hkp3.size, fun g hg hl => hkp3.same g (.inl hg) hl⟩
  refine ⟨_, W3.putObj (w.heap.size + 1) (.loop (rec .ready)), ?_, rfl, ⟨hI3 _ _ _ hi3, hl4, hk4⟩, (hkS.trans hkp4).trans ⟨by simp, fun g hg _ => World.putObj_heap_other (hS g hg)⟩⟩
  rw [hrec] at hend ⊢
  exact hend
 ·
  rintro e W2 ⟨⟨v, rfl⟩, hi, hl, hk⟩
  exact ⟨none, _, by have := run_endLoop (P := P) hl (by rw [hrec]; simp); rw [hrec] at this; exact this, hdone _ _ (Lib.hid rfl) (hI3 _ _ _ hi) ((World.putObj_heap_other (by omega)).trans hk)⟩

theorem gBlocks (A : Option Addr) (m cap : Nat) (w : World) : Calls Tryz.prog 144 #[.slice A m cap] w fun e w' =>
  e = .returned (.func (.func 159) #[] #[.pointer (some ⟨w.heap.size, 0, none⟩)]) ∧ w' = w.alloc (.cells #[.slice A m cap] 56) := by
 go_enter Tryz.func144, Tryz.ntmps144
 go_wp2
 go_ret
 exact ⟨rfl, rfl⟩
theorem Jfa {A B : World} {g : Nat} (h : A.grownBy B (some g)) (hg : g < A.heap.size) : ∃ M, Below A.heap.size A M ∧ Put M B g := by
 refine ⟨B.putObj g A.heap[g], ⟨h.os, h.tape, h.output, by simpa using h.size, fun k hk => ?_⟩, ⟨rfl, rfl, rfl, by simp, fun k hk => (World.putObj_heap_other (by omega)).symm⟩⟩
 by_cases e : k = g
 ·
  subst e
  rw [World.putObj_heap_same (Nat.lt_of_lt_of_le hk h.size), Array.getElem?_eq_getElem hk]
 ·
  rw [World.putObj_heap_other (by omega)]
  exact h.block k hk (fun e' => by cases e'; exact e rfl)
structure Calm (base : Nat) (I : World → Prop) : Prop where
 up : ∀ A B, I A → Below A.heap.size A B → I B
 put : ∀ A B g, base ≤ g → I A → Put A B g → I B
theorem Calm.grown {base : Nat} {I : World → Prop} (h : Calm base I) {A B : World} {r : Option Nat} (hI : I A) (hg : A.grownBy B r) (hr : ∀ g, r = some g → base ≤ g ∧ g < A.heap.size) : I B := by
 cases r with
 | none => exact h.up A B hI ⟨hg.os, hg.tape, hg.output, hg.size, fun k hk => hg.block k hk (fun e => by cases e)⟩
 | some g =>
  obtain ⟨h1, h2⟩ := hr g rfl
  obtain ⟨M, hM, hP⟩ := Jfa hg h2
  exact h.put _ _ _ h1 (h.up _ _ hI hM) hP
theorem Calm.and {base : Nat} {I K : World → Prop} (h : Calm base I) (k : Calm base K) : Calm base (fun w => I w ∧ K w) := ⟨fun A B i b => ⟨h.up A B i.1 b, k.up A B i.2 b⟩, fun A B g hg i p => ⟨h.put A B g hg i.1 p, k.put A B g hg i.2 p⟩⟩
theorem Jh9 {S : Nat → Prop} {W : World} {base : Nat} (hb : W.heap.size ≤ base) : Calm base (Keeps S W) := ⟨fun A B i b => i.trans (Keeps.of_below b), fun A B g hg i p => ⟨by rw [p.size]; exact i.size, fun k hk hl => (p.other k (by omega)).trans (i.same k hk hl)⟩⟩
theorem J7z {ops : Array Oper} {rest : List Oper} {o1 o2 : Oper} {a : Act} {Q : Exit → Act → World → Prop} {X : World} {base : Nat} {I : World → Prop} {l : List Nat} {u : Value} {c : Nat} (g1 : o1.guard = none) (g2 : o2.guard = none) (s p x : Operand)
  (h1 : o1.op = .buildSlice 56 1 #[(0, x)]) (h2 : o2.op = .call { callee := .builtin .append, args := #[s, p], argTypes := #[56, 56] })
  (hx : a.eval x = .int .u8 (c : Int)) (hs : ∀ v, (a.put o1.dst v).eval s = u) (hp : ∀ v, (a.put o1.dst v).eval p = v) (hown : OwB base X u l) (hC : Calm base I) (hI : I X) (hk : l.length ≤ 10000000) (hbase : base ≤ X.heap.size)
  (h : ∀ v v' w', OwB base w' v' (l ++ [c]) → I w' → base ≤ w'.heap.size → wpList Tryz.prog ops Q rest ((a.put o1.dst v).put o2.dst v') w') : wpList Tryz.prog ops Q (o1 :: o2 :: rest) a X := by
 obtain ⟨iu8, hu8, uz0, uz1, uz2⟩ := info_parts J22
 refine wpList_plain g1 fun K hK => Jn (Jb (fun v0 w1 hh => ?_) (J15 (cs := #[.int .u8 (c : Int)]) J10 hu8 uz0 uz1 (by decide) (by decide) h1 (by rw [hx]; rfl) rfl))
 obtain ⟨⟨rfl, hl1, b1⟩, hB1⟩ := hh
 refine hK _ _ ?_
 have hown1 := Jq hown (Nat.le_refl _) hB1
 have hI1 := hC.up _ _ hI hB1
 refine wpList_append_own _ g2 s p 56 h2 base 5 iu8 (.int .u8 0) 1 1 J10 hu8 uz0 uz1 uz2 rfl (by decide) u l.length (byc l) (hs _) hown1 ⟨X.heap.size, 0, none⟩ 1 1 [.int .u8 (c : Int)] (hp _) rfl (J7u b1) (fun v hv => by rw [List.mem_singleton.1 hv]; rfl) (by unfold maxLen; omega) (by omega) (Nat.le_trans hbase hB1.size) fun v' w' hown' hgr _ => ?_
 refine h _ v' w' ?_ (hC.grown hI1 hgr fun g hg => Jk hown1 hg) (Nat.le_trans hbase (Nat.le_trans hB1.size hgr.size))
 unfold OwB
 rw [J8z, List.length_append]
 exact hown'
theorem Jhz {S : Nat → Prop} {base : Nat} {A B : World} {v : Value} {l : List Nat} (h : OwB base A v l) (k : Keeps S A B) (hS : ∀ g, base ≤ g → S g) : OwB base B v l := by
 obtain ⟨h1, h2⟩ := h
 refine ⟨h1, h2.imp id ?_⟩
 rintro ⟨g, cap, cur, rfl, q2, q3, q4⟩
 exact ⟨g, cap, cur, rfl, q2, (k.same g (hS g q2) (Array.getElem?_eq_some_iff.1 q3).1).trans q3, q4⟩

theorem Jjc {P : Program} {o : Oper} {a : Act} {w : World} {t : TypeId} {x lo : Operand} {v k u : Value} (ho : o.op = .slice t x (some lo) none none) (hx : a.eval x = v) (hlo : a.eval lo = k) (h : ∀ w, (Instr.sliceAt t v (some k) none none).run P w = .ok u w) :
  stepAt P o a w (fun v w' => v = u ∧ Below w.heap.size w w') := by
 unfold stepAt
 have e : (execOp a.eval o).run P w = .ok (.value u) w := by
  unfold execOp
  rw [ho]
  simp only [Sem.run_bind, Option.map_some, Option.map_none, hx, hlo, h w, Result.andThen, Sem.run_pure]
 rw [e]
 exact ⟨rfl, Below.refl _ _⟩
end Go.Proofs.YtoiampgfnidfdaaGreatDoor
