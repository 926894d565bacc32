/-
  The program's transcripts: the challenge.
-/
import Derived.Test.YtoiampgfnidfdaaGreatDoorKy26
import Derived.Test.YtoiampgfnidfdaaGreatDoorTag4
import Derived.Test.YtoiampgfnidfdaaGreatDoorSeq
import Derived.Test.YtoiampgfnidfdaaGreatDoorMs26
import Derived.ArgAppend
set_option maxRecDepth 100000
set_option maxHeartbeats 8000000
namespace Go.Proofs.YtoiampgfnidfdaaGreatDoor
open Go.RowKit
section
open Go.RowKit

theorem J3d : En Tryz.prog 118 := enters_of Tryz.func118 (by kernel_rfl) rfl
theorem J62 : En Tryz.prog 88 := enters_of Tryz.func88 (by kernel_rfl) rfl
theorem J65 : En Tryz.prog 109 := enters_of Tryz.func109 (by kernel_rfl) rfl
theorem J3o : En Tryz.prog 110 := enters_of Tryz.func110 (by kernel_rfl) rfl
theorem Jjo : ((List.range 256).all fun x => (bits .xor .u8 (x : Int) 54 == ((x ^^^ 54 : Nat) : Int)) && (bits .xor .u8 (x : Int) 92 == ((x ^^^ 92 : Nat) : Int))) = true := by kernel_rfl
theorem xorM {m x : Nat} (hm : m = 54 ∨ m = 92) (h : x < 256) : bits .xor .u8 (x : Int) (m : Int) = ((x ^^^ m : Nat) : Int) := by
 have := List.all_eq_true.1 Jjo x (List.mem_range.2 h)
 simp only [Bool.and_eq_true, beq_iff_eq] at this
 rcases hm with rfl | rfl
 · exact this.1
 · exact this.2
theorem J75 (key : Dg) (m : Nat) (h : key.length = 32) : (maskK key m).length = 64 := by simp [maskK, h]
theorem Ji3 (key : Dg) (m k x : Nat) (hx : key[k]? = some x) : (maskK key m)[k]? = some (x ^^^ m) := by
 have hk := (List.getElem?_eq_some_iff.1 hx).1
 unfold maskK
 rw [List.getElem?_map, List.getElem?_append_left hk, hx]
 rfl
theorem Jhc (key : Dg) (m k : Nat) (h : key.length = 32) (h1 : 32 ≤ k) (h2 : k < 64) : (maskK key m)[k]? = some m := by
 unfold maskK
 rw [List.getElem?_map, List.getElem?_append_right (by omega), List.getElem?_replicate, if_pos (by omega)]
 simp
theorem Jed (key : Dg) (m : Nat) (hk : DgOk key) (hm : m < 256) : ∀ x ∈ maskK key m, x < 256 := fun x hx => by
 unfold maskK at hx
 obtain ⟨y, hy, rfl⟩ := List.mem_map.1 hx
 refine Nat.xor_lt_two_pow (n := 8) ?_ hm
 rcases List.mem_append.1 hy with hy | hy
 · exact hk.2 y hy
 · rw [(List.mem_replicate.1 hy).2]; decide
attribute [local irreducible] wpRg
theorem rMasked (key : Dg) (hk : DgOk key) (m : Nat) (hm : m = 54 ∨ m = 92) (w : World) : Calls Tryz.prog 118 #[dgv key, .int .u8 (m : Int)] w (RetR (ByA (maskK key m)) w) := by
 obtain ⟨Sk, hSk⟩ : ∃ S, S = dgv key := ⟨_, rfl⟩
 rw [← hSk]
 have HK := Lib.hid hk
 have hkl := hk.1
 have HML := Lib.hid (J75 key m hkl)
 have HM := Lib.hid hm
 clear hk hm
 go_enter Tryz.func118, Tryz.ntmps118
 go_upto_region 1 with (fail)
 refine J13 fun W hB hz b2 => ?_
 have b2' : Blk W w.heap.size 23 (byc key).toArray := by first | exact b2 | (rw [hSk] at b2; exact b2)
 have hWs : W.heap.size = w.heap.size + 1 := hz.out
 clear b2 hz hSk
 go_wp2_with fail
 go_loopw [5, 6] (fun u i wr => ∃ k : Nat, k ≤ 64 ∧ i = .int .i64 k ∧ wr.ownsRow (w.heap.size + 1) 5 1 u ((maskK key m).take k).length (byc ((maskK key m).take k)) ∧ Blk wr w.heap.size 23 (byc key).toArray ∧ Below w.heap.size w wr) (fun _ i _ => 64 - (intOf i).toNat)
 case atStart =>
  refine ⟨0, Nat.zero_le _, rfl, ⟨rfl, .inr ⟨w.heap.size + 1, 0, #[], rfl, Nat.le_refl _, ?_, Nat.le_refl _, by simp, by simp [byc]⟩⟩, b2'.below ((Below.refl _ W).alloc (Nat.le_refl _) _) b2'.lt, hB.trans ((Below.refl _ W).alloc (by omega) _)⟩
  have := World.alloc_heap_new W (.cells #[] 5)
  rwa [hWs] at this
 case round =>
  clear b2' hB hWs
  obtain ⟨k, hk, rfl, hown, b2, hBr⟩ := hrel
  obtain ⟨A3, c3, rfl⟩ := J7y hown
  by_cases hlt : k < 64
  ·
   have hl : ((maskK key m).take k).length = k := by rw [List.length_take, HML.out]; omega
   have hbl := b2.lt
   by_cases h32 : k < 32
   ·
    obtain ⟨x, hx⟩ : ∃ x, key[k]? = some x := ⟨key[k]'(by omega), List.getElem?_eq_getElem (by omega)⟩
    have hx8 : x < 256 := HK.out.2 x (List.mem_of_getElem? hx)
    have c1 : wr.cell? ⟨w.heap.size, k, none⟩ = some (.int .u8 (x : Int)) := (b2.cell k).trans (by simp [byc, hx])
    have HX := Lib.hid (show (maskK key m).take (k + 1) = (maskK key m).take k ++ [x ^^^ m] by rw [List.take_add_one, Ji3 key m k x hx]; rfl)
    clear hx
    generalize (maskK key m).take k = l at *
    go_upto_region 8 with (fail)
    rw [xorM HM.out hx8]
    rw [show Value.slice A3 l.length c3 = Value.slice A3 k c3 by rw [hl]] at hown
    refine wp_region_lit ?_
    iterate 2 (refine wpList_plain rfl fun K hK => ?_; go_big_op; refine hK _ _ ?_; clear hK K)
    refine J4f (l := l) (c := x ^^^ m) rfl rfl _ _ _ rfl rfl rfl (fun _ => rfl) (fun _ => rfl) hown (by omega) hbl fun v3 v4 w4 hown4 hB4 => ?_
    rw [← HX.out] at hown4
    have b24 := b2.below hB4 (Nat.lt_succ_self _)
    have hBw := hBr.trans (hB4.mono (Nat.le_succ _))
    clear hown hB4
    try simp only [PutS]
    go_wp2_with fail
    exact ⟨⟨k + 1, by omega, by go_num, hown4, b24, hBw⟩, by simp [intOf]; omega⟩
   ·
    have HX := Lib.hid (show (maskK key m).take (k + 1) = (maskK key m).take k ++ [m] by rw [List.take_add_one, Jhc key m k hkl (by omega) hlt]; rfl)
    generalize (maskK key m).take k = l at *
    go_upto_region 8 with (fail)
    rw [show Value.slice A3 l.length c3 = Value.slice A3 k c3 by rw [hl]] at hown
    refine wp_region_lit ?_
    iterate 2 (refine wpList_plain rfl fun K hK => ?_; go_big_op; refine hK _ _ ?_; clear hK K)
    refine J4f (l := l) (c := m) rfl rfl _ _ _ rfl rfl rfl (fun _ => rfl) (fun _ => rfl) hown (by omega) hbl fun v3 v4 w4 hown4 hB4 => ?_
    rw [← HX.out] at hown4
    have b24 := b2.below hB4 (Nat.lt_succ_self _)
    have hBw := hBr.trans (hB4.mono (Nat.le_succ _))
    clear hown hB4
    try simp only [PutS]
    go_wp2_with fail
    exact ⟨⟨k + 1, by omega, by go_num, hown4, b24, hBw⟩, by simp [intOf]; omega⟩
  ·
   obtain rfl : k = 64 := by omega
   rw [List.take_of_length_le (by rw [HML.out]; exact Nat.le_refl _), HML.out] at hown
   rw [List.take_of_length_le (by rw [HML.out]; exact Nat.le_refl _), HML.out]
   go_wp2_with fail
   refine bodyPost_ret (v := .slice A3 64 c3) (by simp [results, Tryz.results118, go_sem]) rfl ⟨_, rfl, ?_, hBr⟩
   have hr := Rd.of_own hown (by decide) (Nat.le_refl _)
   unfold ByA ByS
   rw [HML.out]
   exact hr.wide (Nat.le_succ _) (Nat.le_refl _)
theorem rLeaf (b : List Nat) (hn : b.length ≤ 900000) (hb8 : ∀ x ∈ b, x < 256) (v : Value) (lo hi : Nat) (w : World) (h : ByS lo hi w v b) : Calls Tryz.prog 109 #[v] w (Ret (dgv (leafD b)) w) := by
 obtain ⟨A, cap, rfl⟩ := h.len
 have HV := Lib.hid h
 have H8 := Lib.hid (show ∀ x ∈ [0] ++ b, x < 256 by
  intro x hx
  simp only [List.mem_append, List.mem_singleton] at hx
  rcases hx with hx | hx
  · rw [hx]; decide
  · exact hb8 x hx)
 have HF := Lib.hid (show ([0] ++ b).length ≤ 1000000 by simp; omega)
 have HE := Lib.hid (show sha ([0] ++ b) = leafD b from rfl)
 clear h hb8
 go_enter Tryz.func109, Tryz.ntmps109
 go_upto_region 1 with (fail)
 refine J13 fun W hB hz b1 => ?_
 obtain ⟨cs0, hcs0, b1'⟩ : ∃ cs : Array Value, cs.size = 32 ∧ Blk W w.heap.size 23 cs := ⟨_, rfl, b1⟩
 clear b1 hz
 refine wp_region_lit ?_
 refine wpSk rfl (J4p [0] rfl (by decide) (by decide) rfl (by simp [Act.eval, byc])) fun v3 w3 hh => ?_
 obtain ⟨s3, B3⟩ := hh
 try simp only [PutS]
 have hB3 := hB.trans (B3.mono hB.size)
 refine wpList_plain rfl fun K hK => ?_; go_big_op; refine hK _ _ ?_; clear hK K
 refine wpSk rfl (Jp J1k (rJoin [0] b (by decide) (by omega) _ _ _ _ _ _ w3 s3 (HV.out.keep hB3)) rfl rfl) fun v5 w5 hh => ?_
 obtain ⟨s5, B5⟩ := hh
 try simp only [PutS]
 have hB5 := hB3.trans (B5.mono hB3.size)
 refine wpSk rfl (J7 J1y (rSum _ HF.out H8.out _ _ _ w5 s5) rfl rfl) fun v6 w6 hh => ?_
 obtain ⟨rfl, B6⟩ := hh
 try simp only [PutS]
 have hB6 := hB5.trans (B6.mono hB5.size)
 rw [HE.out]
 have b1z := ((b1'.keep B3).keep B5).keep B6
 refine J6 rfl 23 (.tmp 2) (.tmp 6) rfl rfl (cells := byc (leafD b)) rfl b1z (by rw [J3, leafD, Js, hcs0]; decide) (by rw [Jc, J3, leafD, Js]) (Jw _) (Ja _ _ (by rw [hcs0, J3, leafD, Js])) fun Y hY bY => ?_
 have hBY := J2 hB6 hY (Nat.le_refl _)
 clear b1z hB6 b1' hB3 hB5 B3 B5 B6 s3 s5
 go_wp2_with fail
 exact bodyPost_ret (v := dgv (leafD b)) (Jv (g := w.heap.size) rfl rfl Jg rfl (by rw [Jc, J3, leafD, Js]) bY) rfl ⟨rfl, hBY⟩
theorem rPair (a b : Dg) (ha : DgOk a) (hb : DgOk b) (w : World) : Calls Tryz.prog 110 #[dgv a, dgv b] w (Ret (dgv (pairD a b)) w) := by
 obtain ⟨Sa, hSa⟩ : ∃ S, S = dgv a := ⟨_, rfl⟩
 obtain ⟨Sb, hSb⟩ : ∃ S, S = dgv b := ⟨_, rfl⟩
 rw [← hSa, ← hSb]
 have HA := Lib.hid ha
 have HB := Lib.hid hb
 have H8 := Lib.hid (show ∀ x ∈ [1] ++ a ++ b, x < 256 by
  intro x hx
  simp only [List.mem_append, List.mem_singleton] at hx
  rcases hx with (hx | hx) | hx
  · rw [hx]; decide
  · exact ha.2 x hx
  · exact hb.2 x hx)
 have HF := Lib.hid (show ([1] ++ a ++ b).length ≤ 1000000 by simp [ha.1, hb.1])
 have HE := Lib.hid (show sha ([1] ++ a ++ b) = pairD a b from rfl)
 clear ha hb
 go_enter Tryz.func110, Tryz.ntmps110
 go_upto_region 1 with (fail)
 refine J26 fun W hB hz b2 b3 b4 => ?_
 have b2' : Blk W w.heap.size 23 (byc a).toArray := by first | exact b2 | (rw [hSa] at b2; exact b2)
 have b3' : Blk W (w.heap.size + 1) 23 (byc b).toArray := by first | exact b3 | (rw [hSb] at b3; exact b3)
 obtain ⟨cs0, hcs0, b4'⟩ : ∃ cs : Array Value, cs.size = 32 ∧ Blk W (w.heap.size + 1 + 1) 23 cs := ⟨_, rfl, b4⟩
 clear b2 b3 b4 hz hSa hSb
 refine Jd 8 [(0, Spec.rel (ByA [1]) AnyV), (1, Spec.val (dgv a)), (2, Spec.rel (ByA a) AnyV), (3, Spec.rel (ByA ([1] ++ a)) AnyV), (4, Spec.val (dgv b)), (5, Spec.rel (ByA b) AnyV), (6, Spec.rel (ByA ([1] ++ a ++ b)) AnyV), (7, Spec.val (dgv (sha ([1] ++ a ++ b))))] (by kernel_rfl) (by kernel_rfl) (by kernel_rfl) ⟨fit_of (by_st), fit_of (by_st), fit_of (by_st), fit_of (by_st), fit_of (by_st), trivial⟩ ?_
 refine rg_rel rfl rfl (fun W1 hW1 hF => J4p [1] rfl (by decide) (by decide) rfl (by simp [Act.eval, Act.put, byc])) ?_
 intro n0 m0 v0 hn0 hm0 hd0 hf0 a' ha
 simp only [PutS] at ha
 subst ha
 refine rg_val rfl rfl (fun W1 hW1 hF => Jf (cs := byc a) Jg rfl (by rw [Jc, J3, HA.out.1]) rfl rfl (J4 (b2'.keep (J8 hW1)))) ?_
 intro a' ha
 simp only [PutS] at ha
 subst ha
 refine rg_rel rfl rfl (fun W1 hW1 hF => Jp J1g (rBytes a HA.out.1 W1) rfl rfl) ?_
 intro n2 m2 v2 hn2 hm2 hd2 hf2 a' ha
 simp only [PutS] at ha
 subst ha
 refine rg_rel rfl rfl (fun W1 hW1 hF => Jp J1k (rJoin [1] a (by decide) (by rw [HA.out.1]; decide) _ _ _ _ _ _ W1 (J1a (J5s hF) (by kernel_rfl)).2 (J1a hF (by kernel_rfl)).2) rfl rfl) ?_
 intro n3 m3 v3 hn3 hm3 hd3 hf3 a' ha
 simp only [PutS] at ha
 subst ha
 refine rg_val rfl rfl (fun W1 hW1 hF => Jf (cs := byc b) Jg rfl (by rw [Jc, J3, HB.out.1]) rfl rfl (J4 (b3'.keep (J8 hW1)))) ?_
 intro a' ha
 simp only [PutS] at ha
 subst ha
 refine rg_rel rfl rfl (fun W1 hW1 hF => Jp J1g (rBytes b HB.out.1 W1) rfl rfl) ?_
 intro n5 m5 v5 hn5 hm5 hd5 hf5 a' ha
 simp only [PutS] at ha
 subst ha
 refine rg_rel rfl rfl (fun W1 hW1 hF => Jp J1k (rJoin ([1] ++ a) b (by simp [HA.out.1]) (by rw [HB.out.1]; decide) _ _ _ _ _ _ W1 (J1a (J5s hF) (by kernel_rfl)).2 (J1a hF (by kernel_rfl)).2) rfl rfl) ?_
 intro n6 m6 v6 hn6 hm6 hd6 hf6 a' ha
 simp only [PutS] at ha
 subst ha
 refine rg_val rfl rfl (fun W1 hW1 hF => J7 J1y (rSum _ HF.out H8.out _ _ _ W1 (J1a hF (by kernel_rfl)).2) rfl rfl) ?_
 intro a' ha
 simp only [PutS] at ha
 subst ha
 refine rg_nil (fun w' hw' hF => ?_)
 obtain ⟨z, rfl⟩ := hw'
 simp only [List.drop_succ_cons, List.drop_zero]
 rw [HE.out]
 have b1z := b4'.gw z
 have hBz := hB.trans (z.h.mono hB.size)
 refine J6 rfl 23 (.tmp 4) (.tmp 12) rfl rfl (cells := byc (pairD a b)) rfl b1z (by rw [J3, pairD, Js, hcs0]; decide) (by rw [Jc, J3, pairD, Js]) (Jw _) (Ja _ _ (by rw [hcs0, J3, pairD, Js])) fun Y hY bY => ?_
 have hBY := J2 hBz hY (by omega)
 clear hF b1z hBz b2' b3' b4'
 go_wp2_with fail
 exact bodyPost_ret (v := dgv (pairD a b)) (Jv (g := w.heap.size + 1 + 1) rfl rfl Jg rfl (by rw [Jc, J3, pairD, Js]) bY) rfl ⟨rfl, hBY⟩
theorem rKeyed (key : Dg) (hk : DgOk key) (b : List Nat) (hb : b.length ≤ 900000) (hb8 : ∀ x ∈ b, x < 256) (v : Value) (lo hi : Nat) (w : World) (h : ByS lo hi w v b) : Calls Tryz.prog 88 #[dgv key, v] w (Ret (dgv (keyD key b)) w) := by
 obtain ⟨A, cap, rfl⟩ := h.len
 obtain ⟨Sk, hSk⟩ : ∃ S, S = dgv key := ⟨_, rfl⟩
 rw [← hSk]
 have HV := Lib.hid h
 have HK := Lib.hid hk
 have H81 := Lib.hid (show ∀ x ∈ maskK key 54 ++ b, x < 256 by
  intro x hx
  rcases List.mem_append.1 hx with hx | hx
  · exact Jed key 54 hk (by decide) x hx
  · exact hb8 x hx)
 have HF1 := Lib.hid (show (maskK key 54 ++ b).length ≤ 1000000 by simp [J75 key 54 hk.1]; omega)
 obtain ⟨d, hd⟩ : ∃ d, d = sha (maskK key 54 ++ b) := ⟨_, rfl⟩
 have HD := Lib.hid hd
 have HDK := Lib.hid (show DgOk d by rw [hd]; exact ⟨Js _, sha_lt _⟩)
 have H82 := Lib.hid (show ∀ x ∈ maskK key 92 ++ d, x < 256 by
  intro x hx
  rcases List.mem_append.1 hx with hx | hx
  · exact Jed key 92 hk (by decide) x hx
  · exact HDK.out.2 x hx)
 have HF2 := Lib.hid (show (maskK key 92 ++ d).length ≤ 1000000 by simp [J75 key 92 hk.1, HDK.out.1])
 have HE := Lib.hid (show sha (maskK key 92 ++ d) = keyD key b by rw [hd]; rfl)
 clear h hk hb8 hd
 go_enter Tryz.func88, Tryz.ntmps88
 go_upto_region 1 with (fail)
 refine J1h fun W hB hz b2 b4 => ?_
 have b2' : Blk W w.heap.size 23 (byc key).toArray := by first | exact b2 | (rw [hSk] at b2; exact b2)
 obtain ⟨cs0, hcs0, b4'⟩ : ∃ cs : Array Value, cs.size = 32 ∧ Blk W (w.heap.size + 1) 23 cs := ⟨_, rfl, b4⟩
 obtain ⟨i32', h32, i320, i321, i322⟩ := info_parts J2b
 clear b2 b4 hz hSk
 have hkl := HK.out.1
 refine wp_region_lit ?_
 refine wpSk rfl (J1 (cs := byc key) Jg rfl (by rw [Jc, J3, hkl]) rfl rfl (J4 b2')) fun v6 w6 hh => ?_
 obtain ⟨rfl, rfl⟩ := hh
 try simp only [PutS]
 refine wpSk rfl (Jp J3d (rMasked key HK.out 54 (.inl rfl) _) rfl rfl) fun v7 w7 hh => ?_
 obtain ⟨s7, B7⟩ := hh
 try simp only [PutS]
 have hB7 := hB.trans (B7.mono hB.size)
 refine wpList_plain rfl fun K hK => ?_; go_big_op; refine hK _ _ ?_; clear hK K
 refine wpSk rfl (Jp J1k (rJoin (maskK key 54) b (by rw [J75 key 54 hkl]; decide) (by omega) _ _ _ _ _ _ w7 s7 (HV.out.keep hB7)) rfl rfl) fun v9 w9 hh => ?_
 obtain ⟨s9, B9⟩ := hh
 try simp only [PutS]
 have hB9 := hB7.trans (B9.mono hB7.size)
 refine wpSk rfl (J7 J1y (rSum _ HF1.out H81.out _ _ _ w9 s9) rfl rfl) fun v10 w10 hh => ?_
 obtain ⟨rfl, B10⟩ := hh
 try simp only [PutS]
 have hB10 := hB9.trans (B10.mono hB9.size)
 rw [← HD.out]
 refine wpSk rfl (Jl h32 i320 rfl) fun v5 w5 hh => ?_
 obtain ⟨rfl, rfl⟩ := hh
 try simp only [PutS]
 have c5 : Blk (w10.alloc (.cells (Value.agg (zb 32).toArray).cells 23)) w10.heap.size 23 (zb 32).toArray := World.alloc_heap_new w10 _
 have BA := (Below.refl _ w10).alloc (Nat.le_refl _) (.cells (Value.agg (zb 32).toArray).cells 23)
 obtain ⟨g5, hg5⟩ : ∃ g, g = w10.heap.size := ⟨_, rfl⟩
 rw [← hg5] at c5 ⊢
 refine J6 rfl 23 (.tmp 5) (.tmp 10) rfl rfl (cells := byc d) rfl c5 (by rw [J3, HDK.out.1]; simp [zb]) (by rw [Jc, J3, HDK.out.1]) (Jw _) (Ja _ _ (by rw [J3, HDK.out.1]; simp [zb])) fun X hX bX => ?_
 have h10 := hB10.size
 have hll := b2'.lt
 have hll4 := b4'.lt
 have hq : w6.heap.size ≤ g5 := by have := B7.size; have := B9.size; have := B10.size; omega
 have b2X := hX.blk ((((b2'.keep B7).keep B9).keep B10).keep BA) (by omega)
 have b4X := hX.blk ((((b4'.keep B7).keep B9).keep B10).keep BA) (by omega)
 have hBX : Below w.heap.size w X := J2 (hB10.trans (BA.mono h10)) hX (by omega)
 clear b2' b4' hB7 hB9 hB10 B7 B9 B10 BA hX c5 s7 s9 hg5 h10 hll hll4
 try simp only [PutS]
 go_upto_region 2 with (fail)
 refine Jd 6 [(0, Spec.val (dgv key)), (1, Spec.rel (ByA (maskK key 92)) AnyV), (2, Spec.val (dgv d)), (3, Spec.rel (ByA d) AnyV), (4, Spec.rel (ByA (maskK key 92 ++ d)) AnyV), (5, Spec.val (dgv (sha (maskK key 92 ++ d))))] (by kernel_rfl) (by kernel_rfl) (by kernel_rfl) ⟨fit_of (by_st), fit_of (by_st), fit_of (by_st), trivial⟩ ?_
 refine rg_val rfl rfl (fun W1 hW1 hF => Jf (cs := byc key) Jg rfl (by rw [Jc, J3, hkl]) rfl rfl (J4 (b2X.keep (J8 hW1)))) ?_
 intro a' ha
 simp only [PutS] at ha
 subst ha
 refine rg_rel rfl rfl (fun W1 hW1 hF => Jp J3d (rMasked key HK.out 92 (.inr rfl) W1) rfl rfl) ?_
 intro n1 m1 v1 hn1 hm1 hd1 hf1 a' ha
 simp only [PutS] at ha
 subst ha
 refine rg_val rfl rfl (fun W1 hW1 hF => Jf (cs := byc d) Jg rfl (by rw [Jc, J3, HDK.out.1]) rfl rfl (J4 (bX.keep (J8 hW1)))) ?_
 intro a' ha
 simp only [PutS] at ha
 subst ha
 refine rg_rel rfl rfl (fun W1 hW1 hF => Jp J1g (rBytes d HDK.out.1 W1) rfl rfl) ?_
 intro n3 m3 v3 hn3 hm3 hd3 hf3 a' ha
 simp only [PutS] at ha
 subst ha
 refine rg_rel rfl rfl (fun W1 hW1 hF => Jp J1k (rJoin (maskK key 92) d (by rw [J75 key 92 hkl]; decide) (by rw [HDK.out.1]; decide) _ _ _ _ _ _ W1 (J1a (J5s hF) (by kernel_rfl)).2 (J1a hF (by kernel_rfl)).2) rfl rfl) ?_
 intro n4 m4 v4 hn4 hm4 hd4 hf4 a' ha
 simp only [PutS] at ha
 subst ha
 refine rg_val rfl rfl (fun W1 hW1 hF => J7 J1y (rSum _ HF2.out H82.out _ _ _ W1 (J1a hF (by kernel_rfl)).2) rfl rfl) ?_
 intro a' ha
 simp only [PutS] at ha
 subst ha
 refine rg_nil (fun w' hw' hF => ?_)
 obtain ⟨z, rfl⟩ := hw'
 simp only [List.drop_succ_cons, List.drop_zero]
 rw [HE.out]
 have b1z := b4X.gw z
 have hBz := hBX.trans (z.h.mono hBX.size)
 refine J6 rfl 23 (.tmp 4) (.tmp 16) rfl rfl (cells := byc (keyD key b)) rfl b1z (by rw [J3, keyD, Js, hcs0]; decide) (by rw [Jc, J3, keyD, Js]) (Jw _) (Ja _ _ (by rw [hcs0, J3, keyD, Js])) fun Y hY bY => ?_
 have hBY := J2 hBz hY (by omega)
 clear hF b1z hBz b2X b4X bX
 go_wp2_with fail
 exact bodyPost_ret (v := dgv (keyD key b)) (Jv (g := w.heap.size + 1) rfl rfl Jg rfl (by rw [Jc, J3, keyD, Js]) bY) rfl ⟨rfl, hBY⟩
end
section
open Go.RowKit

theorem Jcy {α : Type} {n : Nat} {P : Program} {g : Operand} {p1 p2 : Tmp} {assign body : Code} {Q : Exit → Act → World → Prop} {a : Act} {w : World} {gf : Nat} {lb : Array Value} {e1 e2 : α → Value} {S : Nat → Prop} {xs : List α} {N : Nat}
  (hseq : SeqStopsK .wide (n - 1) P gf lb (fun x => #[e1 x, e2 x]) (Keeps S) (fun ys => ys = xs) (fun _ => True) N w) (h1 : 1 ≤ n) (hg : a.eval g = .func (.func gf) #[] lb) (eg : ∀ args w, (callFunc gf args).run P w = .ok (.enter gf args) w)
  (hS : ∀ g, S g → g < w.heap.size) (I : List α → World → Prop) (hI : OwnFrom w.heap.size I) (hIs : ∀ pre W, I pre W → w.heap.size ≤ W.heap.size) (h0 : I [] w) (Ax : α → Act → World → Prop) (hAx : ∀ x a', OwnFrom w.heap.size (fun (_ : List α) W => Ax x a' W))
  (hassign : ∀ (l : Nat) (x : α) (W : World) (K : Act → World → Prop), w.heap.size ≤ W.heap.size → (∀ a' W', Below W.heap.size W W' → Ax x a' W' → K a' W') →
   assign.wpIn (Fence.wide.inRound l) (n - 1 - 1) P (Exit.then K (fun _ _ _ => False)) { tmps := boxAct p1 p2 e1 e2 a x, defers := [] } W)
  (hbody : ∀ (l : Nat) (pre : List α) (x : α) (W : World) (a' : Act), Ax x a' W → I pre W → pre.length < N →
   body.wpIn (Fence.wide.inRound l) (n - 1 - 1) P (fun e _ W' => e = .normal ∧ KeepsOthers W W' ∧ Keeps S W W' ∧ I (pre ++ [x]) W') a' W)
  (hdone : ∀ (D : Nat) (W : World), w.heap.size ≤ D → I xs W → W.heap[D]? = some (.deferred (some [])) → Q .normal { a with defers := { target := .collected D, args := #[] } :: a.defers } W) :
  (Code.rangeFunc g #[p1, p2] assign body).wpIn .wide n P Q a w := by
 refine wpIn_rangeFunc_ownH rfl h1 hg trivial eg hseq (fun h k => h.trans k) ?_ (Below.refl _ _) (fun _ => rfl) I (fun _ _ _ => False) hI (fun _ _ _ _ _ h _ _ => h) h0 Ax ?_ ?_ ?_ ?_ ?_
 ·
  intro W l o o' hl h _ _
  exact ⟨by simp, fun g hg _ => World.putObj_heap_other (by have := hS g hg; omega)⟩
 ·
  rintro x a' s W W' row h hg hr
  exact hAx x a' [] W W' row h hg hr
 ·
  intro l pre x W K hi hK
  rw [Ja3]
  refine hassign l x W K (hIs _ _ hi) ?_
  intro a' W' hb ha
  exact hK a' _ ((J1j hb).from _) (Keeps.of_below hb) (hI _ _ _ none hi (J45 hb) (fun r e => by cases e)) ha
 ·
  rintro l pre x a' W _ _ hi ha hlt
  refine wpIn_mono (hbody l pre x W a' ha hi hlt) ?_
  rintro e a2 W2 ⟨rfl, hk, hk2, hi2⟩
  exact ⟨hk.from _, hk2, hi2⟩
 ·
  rintro D ys W hD rfl hi hK
  exact hdone D W hD hi hK
 ·
  rintro D c pre W _ _ h _
  exact h.elim
def bkw {α : Type} (d : α) (l : List α) : List (Nat × α) := (List.range l.length).map fun m => (l.length - 1 - m, l.getD (l.length - 1 - m) d)
theorem J4z {α : Type} (d : α) (l : List α) : (bkw d l).length = l.length := by simp [bkw]
theorem J9h {α : Type} (d : α) (l : List α) (j : Nat) (x : α) (hj : l[j]? = some x) : (bkw d l).take (l.length - j) = (bkw d l).take (l.length - (j + 1)) ++ [(j, x)] := by
 have hl := (List.getElem?_eq_some_iff.1 hj).1
 rw [show l.length - j = (l.length - (j + 1)) + 1 by omega, List.take_add_one]
 congr 1
 unfold bkw
 rw [List.getElem?_map, List.getElem?_range (by omega)]
 simp only [Option.map_some, Option.toList_some]
 rw [show l.length - 1 - (l.length - (j + 1)) = j by omega, List.getD_eq_getElem?_getD, hj]
 rfl
theorem J8l {n : Nat} (h : n ≤ 140737488355327) : wrap64 ((n : Int) - 1) = (n : Int) - 1 := by
 unfold wrap64
 omega
abbrev DgT := { d : Dg // DgOk d }
def dg0 : DgT := ⟨List.replicate 32 0, by simp, fun x hx => by rw [(List.mem_replicate.1 hx).2]; decide⟩
attribute [local go_sem] Oper.semAt_some
theorem bIter (l : List (Fin 256)) (v : Value) (n lo hi Bs : Nat) (hn : 1 ≤ n) (S : Nat → Prop) (w : World) (hp : ByS lo hi w v (l.map Fin.val)) (hBs : w.cell? ⟨Bs, 0, none⟩ = some v) (hB : Bs < w.heap.size) (hS0 : S Bs) (hS1 : ∀ g, lo ≤ g → g < hi → S g) :
  SeqStopsK .wide n Tryz.prog 147 #[.pointer (some ⟨Bs, 0, none⟩)] (fun x : Nat × Fin 256 => #[.int .i64 (x.1 : Int), .int .u8 (x.2.val : Int)]) (Keeps S) (fun ys => ys = bkw 0 l) (fun _ => True) l.length w := fun d J Jx W hW hJ hJx hY h0 => by
 obtain ⟨A, cap, hv0⟩ := hp.len
 rw [List.length_map] at hv0
 subst hv0
 have hBs' := (hW.cell (p := ⟨Bs, 0, none⟩) hB).trans hBs
 have hp' := Rd.keep hp hW
 have hps : l.length ≤ 140737488355327 := by have := hp.2.1; rwa [List.length_map] at this
 have hop := J3n Tryz.prog
 have hSB := hS0
 refine callsIn_of_wp Tryz.func147 rfl trivial ?_ rfl
 simp only [Tryz.ntmps147, List.size_toArray, List.length_cons, List.length_nil, Nat.reduceAdd, Nat.reduceSub, Array.replicate_succ, Array.replicate_zero, List.push_toArray, List.append_toArray, List.nil_append, List.cons_append]
 gi_wp2
 gi_loopw [3] (fun i wr => ∃ k : Nat, k ≤ l.length ∧ i = .int .i64 ((k : Int) - 1) ∧ J ((bkw 0 l).take (l.length - k)) wr ∧ Keeps S W wr) (fun i _ => (intOf i + 1).toNat)
 case atStart => exact ⟨l.length, Nat.le_refl _, by first | rfl | rw [J8l hps], by simpa using h0, Keeps.refl _⟩
 case round =>
  obtain ⟨k, hk, rfl, hJs, hnx⟩ := hrel
  rcases k with _ | j
  ·
   rw [Nat.sub_zero, List.take_of_length_le (by rw [J4z]; exact Nat.le_refl _)] at hJs
   gi_wp2
   go_end0
   exact ⟨⟨_, rfl⟩, .inl ⟨_, rfl, hJs⟩⟩
  ·
   rw [show ((j + 1 : Nat) : Int) - 1 = (j : Int) by omega]
   obtain ⟨x, hx⟩ : ∃ x, l[j]? = some x := ⟨l[j], List.getElem?_eq_getElem (by omega)⟩
   have cB := hnx.cell hSB hBs'
   obtain ⟨g, off, cap', hv, q1, q2, q3, q4, q5⟩ := Rd.form hp' (by rw [List.length_map]; omega)
   rw [List.length_map] at hv
   cases hv
   have d1 := hnx.cell (hS1 g q2 q3) (q5 j (.int .u8 (x.val : Int)) (by simp [byc, hx]))
   have hBz : Bs < wr.heap.size := by have := hnx.size; have := hW.size; omega
   have hgz : g < wr.heap.size := by have := hnx.size; omega
   have HY := Lib.hid hY
   have HX := Lib.hid (J9h 0 l j x hx)
   have hlb := hps
   clear q5 hY hJ hJx hx
   gi_wp2_with fail
   obtain ⟨fn, tmps, assign, body, hy, hR⟩ := HY.out ((bkw 0 l).take (l.length - (j + 1))) (j, x) wr hJs (by rw [List.length_take, J4z]; omega)
   have hjw := J8l (n := j) (by omega)
   try unfold dgv at hy
   clear cB d1
   gi_wp2
   refine hR.mono ?_
   rintro e W3 (⟨rfl, hJ3, hk3⟩ | ⟨rfl, hJx3⟩)
   ·
    gi_wp2
    go_roundw
    case rel => exact ⟨j, by omega, by first | rfl | rw [hjw], by rw [HX.out]; exact hJ3, hnx.trans hk3⟩
    case measure => first | (simp [intOf]; done) | (simp [intOf]; omega)
   ·
    gi_wp2
    refine bodyPost_ret (results_none rfl _ _ _) rfl ?_
    exact ⟨⟨_, rfl⟩, .inr ⟨_, trivial, hJx3⟩⟩
theorem dIter (l : List DgT) (v : Value) (n hi Bs : Nat) (hn : 1 ≤ n) (S : Nat → Prop) (w : World) (hp : DgsA w v (l.map Subtype.val)) (hlo : Rd 0 hi 32 w v (l.map Subtype.val).length ((l.map Subtype.val).flatMap byc)) (hBs : w.cell? ⟨Bs, 0, none⟩ = some v) (hB : Bs < w.heap.size) (hS0 : S Bs) (hS1 : ∀ g, g < hi → S g) :
  SeqStopsK .wide n Tryz.prog 137 #[.pointer (some ⟨Bs, 0, none⟩)] (fun x : Nat × DgT => #[.int .i64 (x.1 : Int), dgv x.2.val]) (Keeps S) (fun ys => ys = bkw dg0 l) (fun _ => True) l.length w := fun d J Jx W hW hJ hJx hY h0 => by
 have hps : l.length ≤ 140737488355327 := by have := hp.1.2.1; rwa [List.length_map] at this
 obtain ⟨A, cap, hv0⟩ := hp.len
 rw [List.length_map] at hv0
 subst hv0
 have hBs' := (hW.cell (p := ⟨Bs, 0, none⟩) hB).trans hBs
 have hp' := hp.keep hW
 have hop := J3n Tryz.prog
 have hSB := hS0
 refine callsIn_of_wp Tryz.func137 rfl trivial ?_ rfl
 simp only [Tryz.ntmps137, List.size_toArray, List.length_cons, List.length_nil, Nat.reduceAdd, Nat.reduceSub, Array.replicate_succ, Array.replicate_zero, List.push_toArray, List.append_toArray, List.nil_append, List.cons_append]
 gi_wp2
 gi_loopw [3] (fun i wr => ∃ k : Nat, k ≤ l.length ∧ i = .int .i64 ((k : Int) - 1) ∧ J ((bkw dg0 l).take (l.length - k)) wr ∧ Keeps S W wr) (fun i _ => (intOf i + 1).toNat)
 case atStart => exact ⟨l.length, Nat.le_refl _, by first | rfl | rw [J8l hps], by simpa using h0, Keeps.refl _⟩
 case round =>
  obtain ⟨k, hk, rfl, hJs, hnx⟩ := hrel
  rcases k with _ | j
  ·
   rw [Nat.sub_zero, List.take_of_length_le (by rw [J4z]; exact Nat.le_refl _)] at hJs
   gi_wp2
   go_end0
   exact ⟨⟨_, rfl⟩, .inl ⟨_, rfl, hJs⟩⟩
  ·
   rw [show ((j + 1 : Nat) : Int) - 1 = (j : Int) by omega]
   obtain ⟨x, hx⟩ : ∃ x, l[j]? = some x := ⟨l[j], List.getElem?_eq_getElem (by omega)⟩
   have cB := hnx.cell hSB hBs'
   have hxm : (l.map Subtype.val)[j]? = some x.val := by rw [List.getElem?_map, hx]; rfl
   obtain ⟨g, off, cap', hv, q1, q2, q3, q4⟩ := hp'.at hxm
   rw [List.length_map] at hv
   have hgs : g < hi := by
    obtain ⟨g2, o2, c2, hv2, -, -, r2, -⟩ := Rd.form hlo (by rw [List.length_map]; omega)
    rw [List.length_map] at hv2
    rw [hv] at hv2
    cases hv2
    exact r2
   cases hv
   have d1 : wr.rangeAt g (off + j * 32) (byc x.val) := fun i u hu => hnx.cell (hS1 g hgs) (q3 i u hu)
   have hBz : Bs < wr.heap.size := by have := hnx.size; have := hW.size; omega
   have hgz : g < wr.heap.size := by have := hnx.size; omega
   have HY := Lib.hid hY
   have HX := Lib.hid (J9h dg0 l j x hx)
   have hlb : l.length ≤ 140737488355327 := hps
   clear q3 hY hJ hJx hx hxm
   gi_upto_region 3 with (fail)
   refine wpIn_region_lit ?_
   iterate 5 (refine wpListIn_plain rfl fun K hK => ?_; gi_step; refine hK _ _ ?_; clear hK K)
   refine wpListIn_plain rfl fun K7 hK7 => J12 hop rfl (Jb (fun v16 w16 hh => ?_) (J1 (cs := byc x.val) Jg rfl (by rw [Jc, J3, q4.1]) rfl rfl d1))
   obtain ⟨rfl, rfl⟩ := hh
   refine hK7 _ _ ?_
   clear hK7 K7
   try simp only [PutS]
   obtain ⟨fn, tmps, assign, body, hy, hR⟩ := HY.out ((bkw dg0 l).take (l.length - (j + 1))) (j, x) w16 hJs (by rw [List.length_take, J4z]; omega)
   have hjw := J8l (n := j) (by omega)
   try unfold dgv at hy
   clear cB d1
   gi_wp2
   refine hR.mono ?_
   rintro e W3 (⟨rfl, hJ3, hk3⟩ | ⟨rfl, hJx3⟩)
   ·
    gi_wp2
    go_roundw
    case rel => exact ⟨j, by omega, by first | rfl | rw [hjw], by rw [HX.out]; exact hJ3, hnx.trans hk3⟩
    case measure => first | (simp [intOf]; done) | (simp [intOf]; omega)
   ·
    gi_wp2
    refine bodyPost_ret (results_none rfl _ _ _) rfl ?_
    exact ⟨⟨_, rfl⟩, .inr ⟨_, trivial, hJx3⟩⟩
end
section

def leN : List Nat → Nat
 | [] => 0
 | b :: r => b + 256 * leN r
theorem leN_lt : ∀ l : List Nat, (∀ x ∈ l, x < 256) → leN l < 256 ^ l.length
 | [], _ => by simp [leN]
 | b :: r, h => by
  have h1 := h b (List.mem_cons_self ..)
  have h2 := leN_lt r fun x hx => h x (List.mem_cons_of_mem _ hx)
  rw [leN, List.length_cons, Nat.pow_succ]
  omega
/-! ### What is taken is taken from the front -/
/-! ### What was written is read; what is read was written -/
end
section
open Go.RowKit

theorem gBackB (A : Option Addr) (m cap : Nat) (w : World) : Calls Tryz.prog 125 #[.slice A m cap] w fun e w' =>
  e = .returned (.func (.func 147) #[] #[.pointer (some ⟨w.heap.size, 0, none⟩)]) ∧ w' = w.alloc (.cells #[.slice A m cap] 56) := by
 go_enter Tryz.func125, Tryz.ntmps125
 go_wp2
 go_ret
 exact ⟨rfl, rfl⟩
theorem J9i {S : Nat → Prop} (W : World) (p : Addr) (v : Value) (h : ¬ S p.block) : Keeps S W (W.setCell p v) :=
 ⟨by simp, fun g hg _ => Below.heap_setCell _ p _ g (fun e => h (e ▸ hg))⟩
def accB8 (pre : List (Nat × Fin 256)) : Nat := pre.foldl (fun a x => a * 256 + x.2.val) 0
theorem J9j (pre : List (Nat × Fin 256)) (x : Nat × Fin 256) : accB8 (pre ++ [x]) = accB8 pre * 256 + x.2.val := by unfold accB8; rw [List.foldl_append]; rfl
theorem Jjp (pre : List (Nat × Fin 256)) : accB8 pre < 256 ^ pre.length := by
 have h : ∀ (n : Nat) (l : List (Nat × Fin 256)), l.length = n → accB8 l < 256 ^ n := by
  intro n
  induction n with
  | zero => intro l hl; rw [List.eq_nil_of_length_eq_zero hl]; decide
  | succ n ih =>
   intro l hl
   rcases List.eq_nil_or_concat l with h0 | ⟨q, y, rfl⟩
   · rw [h0] at hl; cases hl
   ·
    rw [List.concat_eq_append, J9j, Nat.pow_succ]
    have h1 := ih q (by simpa using hl)
    have h2 := y.2.isLt
    omega
 exact h _ pre rfl
theorem Jee : ∀ (l : List Nat) (x : Nat), leN (l ++ [x]) = leN l + 256 ^ l.length * x
 | [], x => by simp [leN]
 | b :: r, x => by
  rw [List.cons_append, leN, Jee r x, leN, List.length_cons, Nat.pow_succ, Nat.mul_comm (256 ^ r.length) 256, Nat.mul_assoc, Nat.mul_add]
  omega
theorem Ji4 (l : List (Fin 256)) : accB8 (bkw 0 l) = leN (l.map Fin.val) := by
 have h : ∀ j, j ≤ l.length → accB8 ((bkw 0 l).take (l.length - j)) = leN ((l.drop j).map Fin.val) := by
  intro j hj
  obtain ⟨n, hn⟩ : ∃ n, n = l.length - j := ⟨_, rfl⟩
  induction n generalizing j with
  | zero => rw [← hn, List.take_zero, List.drop_eq_nil_of_le (by omega)]; rfl
  | succ n ih =>
   have hx : l[j]? = some l[j] := List.getElem?_eq_getElem (by omega)
   rw [J9h 0 l j _ hx, J9j, ih (j + 1) (by omega) (by omega), List.drop_eq_getElem_cons (by omega : j < l.length), List.map_cons, leN]
   dsimp only
   omega
 have := h 0 (Nat.zero_le _)
 rwa [Nat.sub_zero, List.take_of_length_le (by rw [J4z]; exact Nat.le_refl _)] at this
theorem Jm1 (l : List Nat) (h : ∀ x ∈ l, x < 256) : ∃ t : List (Fin 256), t.map Fin.val = l :=
 ⟨l.map (Fin.ofNat 256), by
  rw [List.map_map]
  refine (List.map_congr_left fun x hx => ?_).trans (List.map_id _)
  exact Nat.mod_eq_of_lt (h x hx)⟩
attribute [local go_sem] Oper.semAt_some
theorem gRead (l : List Nat) (hl : l.length ≤ 8) (h8 : ∀ x ∈ l, x < 256) (v : Value) (lo hi : Nat) (w : World) (h : ByS lo hi w v l) : Calls Tryz.prog 101 #[v] w (Ret (.int .u64 (leN l : Nat)) w) := by
 obtain ⟨t, rfl⟩ := Jm1 l h8
 clear h8
 rw [List.length_map] at hl
 have h0 := (Jbd h)
 obtain ⟨A, cap, rfl⟩ := h.len
 rw [List.length_map] at *
 have HV := Lib.hid h0
 clear h h0
 refine (callsIn_wide (n := 3)).1 ?_
 refine callsIn_of_wp_marks Tryz.func101 rfl trivial ?_ rfl
 simp only [Tryz.ntmps101, List.size_toArray, List.length_cons, List.length_nil, Nat.reduceAdd, Nat.reduceSub, Array.replicate_succ, Array.replicate_zero, List.push_toArray, List.append_toArray, List.nil_append, List.cons_append]
 gi_upto_region 1 with (fail)
 refine stk1 (M := fun W => Code.wpIn _ _ _ _ _ _ W) fun W hB hz b2 => ?_
 have hWs : W.heap.size = w.heap.size + 1 := hz.out
 clear hz
 gi_wp2_with fail
 refine ⟨trivial, (callsIn_wide.2 (gBackB A t.length cap W)).mono ?_⟩
 rintro e w2 ⟨rfl, rfl⟩
 gi_wp2_with fail
 refine stk1 (M := fun W => Code.wpIn _ _ _ _ _ _ W) fun Y hBY hzY c1 => ?_
 have hYs : Y.heap.size = w.heap.size + 1 + 1 := by rw [hzY.out, hWs]
 rw [hWs] at c1
 have b2Y := b2.keep hBY
 have hBw := hB.trans (hBY.mono hB.size)
 have HVY := Lib.hid (HV.out.keep hBw)
 clear hzY b2 hBY hB
 refine Jcy (S := fun g => g < w.heap.size ∨ g = w.heap.size + 1) (bIter t (.slice A t.length cap) 2 0 w.heap.size (w.heap.size + 1) (by decide) _ Y HVY.out (c1.cell 0) (by omega) (.inr rfl) (fun g _ hg => .inl hg)) (by decide) rfl (enters_of Tryz.func147 (by kernel_rfl) rfl) (fun g hg => by rcases hg with hg | hg <;> omega)
  (fun pre W => Blk W w.heap.size 32 #[.int .u64 (accB8 pre : Nat)] ∧ Below w.heap.size w W ∧ Y.heap.size ≤ W.heap.size)
  ?hI (fun pre W h => h.2.2) ?h0 (fun x a' W => a' = { tmps := #[.slice A t.length cap, undef, .pointer (some ⟨w.heap.size, 0, none⟩), undef, .int .u8 (x.2.val : Int), .slice A t.length cap, .func (.func 147) #[] #[.pointer (some ⟨w.heap.size + 1, 0, none⟩)], .int .i64 (x.1 : Int), .int .u8 (x.2.val : Int), undef, undef, undef, undef, undef, undef], defers := [] }) (fun x a' s W W' row h _ _ => h) ?assign ?body ?done
 case hI =>
  rintro pre W W' row ⟨q1, q2, q3⟩ hg hr
  exact ⟨J3l (β := Unit) () W W' row q1 hg hr, ownFrom_below (β := Unit) (Nat.le_refl _) (by omega) () W W' row q2 hg hr, Nat.le_trans q3 hg.size⟩
 case h0 => exact ⟨b2Y, hBw, Nat.le_refl _⟩
 case assign =>
  intro l x W K _ hK
  simp only [boxAct, List.setIfInBounds_toArray, List.set_cons_succ, List.set_cons_zero]
  gi_wp2_with fail
  exact hK _ _ (Below.refl _ _) rfl
 case body =>
  rintro l pre x W a' rfl ⟨q1, q2, q3⟩ hlt
  have hm : accB8 pre < 72057594037927936 := by
   have h1 := Jjp pre
   have h2 : 256 ^ pre.length ≤ 256 ^ 7 := Nat.pow_le_pow_right (by decide) (by omega)
   have h3 : (256 : Nat) ^ 7 = 72057594037927936 := rfl
   omega
  have HS := Lib.hid (J9j pre x)
  have hx := x.2.isLt
  generalize accB8 pre = m at *
  obtain ⟨y, hy⟩ : ∃ y, y = x.2.val := ⟨_, rfl⟩
  rw [← hy] at hx HS ⊢
  clear hy
  have HO := Lib.hid (Jh4 m y hm hx)
  have c1 := q1.cell
  have c2 := q1.frozen
  gi_wp2_with fail
  rw [HO.out, HS.out]
  exact ⟨KeepsOthers.setCell _ _ _, J9i _ _ _ (by simp), q1.set_ 0 _, q2.setCell (p := ⟨w.heap.size, 0, none⟩) (Nat.le_refl _) _, by omega⟩
 case done =>
  intro D V hD ⟨q1, q2, q3⟩ hK
  rw [Ji4] at q1
  generalize leN (t.map Fin.val) = y at *
  have e1 := q1.cell
  have e2 := q1.frozen
  gi_wp2_with fail
  obtain ⟨Z, hZ⟩ : ∃ Z, V.setCell ⟨w.heap.size, 0, none⟩ (.int .u64 (y : Int)) = Z := ⟨_, rfl⟩
  rw [hZ]
  have bZ : Blk Z w.heap.size 32 #[.int .u64 (y : Int)] := by rw [← hZ]; exact q1.set_ 0 _
  have hBZ : Below w.heap.size w Z := by rw [← hZ]; exact q2.setCell (p := ⟨w.heap.size, 0, none⟩) (Nat.le_refl _) _
  have hne : D ≠ w.heap.size := by omega
  have hKZ : Z.heap[D]? = some (.deferred (some [])) := by
   rw [← hZ, Below.heap_setCell _ ⟨w.heap.size, _, none⟩ _ D hne]
   exact hK
  refine ⟨by simp, .inl ⟨_, _, rfl, run_takeDeferred hKZ, ?_⟩⟩
  have bZ' : Blk (Z.putObj D (.deferred none)) w.heap.size 32 #[.int .u64 (y : Int)] := (World.putObj_heap_other (Ne.symm hne)).trans bZ
  have e4 := bZ'.cell
  refine ⟨.int .u64 (y : Int), ?_, ?_⟩
  · simp [results, Tryz.results101, go_sem, e4]
  · exact ⟨rfl, J48 hBZ D _ (by omega)⟩
end

theorem J66 {P : Program} {o : Oper} {a : Act} {w : World} {s x : Operand} {t e : TypeId} {i : TypeInfo} {z : Value} {size bytes n m lo hi lo2 hi2 : Nat} {ao : Option Addr} {olds news : List Value} {v2 : Value}
  (ho : o.op = .call { callee := .builtin .append, args := #[s, x], argTypes := #[t, t] }) (ht : P.underlying t = some (.slice e)) (hie : P.info? e = some i) (hz : i.zero = some z) (hsize : i.size = size) (hby : i.bytes = bytes) (hzs : z.cells.size = size) (hsz : 0 < size)
  (h1 : ∀ u ∈ news, u.oneCell' = true) (hs : a.eval s = .slice ao n n) (hnone : ao = none → n = 0) (hx : a.eval x = v2) (hr1 : Rd lo hi size w (.slice ao n n) n olds) (hr2 : Rd lo2 hi2 size w v2 m news) (hm : 0 < m) (hk : n + m ≤ maxLen) (hk2 : (n + m) * bytes ≤ 140737488355328) :
  stepAt P o a w fun v' w' => w'.ownsRow w.heap.size e size v' (n + m) (olds ++ news) ∧ Below w.heap.size w w' := by
 obtain ⟨g2, off2, c2, rfl, -, -, -, q2, q3⟩ := Rd.form hr2 hm
 have hcell : ∀ j u, news[j]? = some u → w.cell? (Addr.add ⟨g2, off2, none⟩ j) = some u := fun j u hj => by rw [Addr.add_lit]; exact q3 j u hj
 cases ao with
 | some b =>
  have hold : ∀ j u, olds[j]? = some u → w.cell? (b.add j) = some u := by
   rcases Nat.eq_zero_or_pos n with h0 | h0
   ·
    subst h0
    have : olds = [] := List.eq_nil_of_length_eq_zero (by rw [hr1.1]; omega)
    intro j u hj
    rw [this] at hj
    cases hj
   ·
    obtain ⟨g, off, c, hv, -, -, -, -, q⟩ := Rd.form hr1 h0
    cases hv
    exact fun j u hj => by rw [Addr.add_lit]; exact q j u hj
  obtain ⟨v', w', hrun, r1, r2⟩ := run_append_arg_grows (P := P) w t o.type e i z size bytes ht hie hz hsize hby hzs hsz b n n olds hr1.1 hold ⟨g2, off2, none⟩ m c2 news hr2.1 hcell (by omega) hk hk2
  unfold stepAt execOp
  simp only [ho]
  simp [resolve, invoke, builtin, hs, hx, hrun, Result.andThen]
  exact ⟨r1, J8y r2⟩
 | none =>
  obtain rfl := hnone rfl
  obtain rfl : olds = [] := List.eq_nil_of_length_eq_zero (by rw [hr1.1]; omega)
  obtain ⟨v', w', hrun, r1, r2, _⟩ := run_append_own (P := P) w w.heap.size t o.type e i z size bytes ht hie hz hsize hby hzs hsz (.slice none 0 0) 0 [] (World.ownsRow_nil w _ e size) ⟨g2, off2, none⟩ m c2 news hr2.1 hcell h1 hk hk2 (Nat.le_refl _)
  unfold stepAt execOp
  simp only [ho]
  simp [resolve, invoke, builtin, hs, hx, hrun, Result.andThen]
  exact ⟨by simpa using r1, J8y (show w.grownBy w' none from r2)⟩
theorem Jcz {o : Oper} {a : Act} {w : World} {len : Nat} {parts : List (Nat × Operand)} (l : List Nat) (hl : l.length = len) (h0 : 0 < len) (hs : len ≤ 1000000) (ho : o.op = .buildSlice 56 len parts.toArray)
  (hv : (parts.map fun x => (x.1, a.eval x.2)) = ((byc l).zipIdx 0).map fun x => (x.2, x.1)) : stepAt Tryz.prog o a w fun v w' => v = .slice (some ⟨w.heap.size, 0, none⟩) len len ∧ ByS w.heap.size w'.heap.size w' v l ∧ Below w.heap.size w w' := by
 obtain ⟨iu8, hu8, uz0, uz1, uz2⟩ := info_parts J22
 refine Jb (fun v w' hh => ?_) (J2l J10 hu8 uz0 uz1 (by rw [J3]; exact hl) h0 (by omega) ho hv (fun v hv => ?_))
 ·
  obtain ⟨⟨rfl, h1, h2⟩, h3⟩ := hh
  subst hl
  exact ⟨rfl, J6r h2 hs (Nat.le_refl _) h1, h3⟩
 ·
  obtain ⟨x, _, rfl⟩ := List.mem_map.1 hv
  rfl
theorem Ja9 {o : Oper} {a : Act} {w : World} {s x : Operand} {l m : List Nat} {ao : Option Addr} {v2 : Value} {lo hi lo2 hi2 : Nat} (ho : o.op = .call { callee := .builtin .append, args := #[s, x], argTypes := #[56, 56] })
  (hs : a.eval s = .slice ao l.length l.length) (hnone : ao = none → l.length = 0) (hx : a.eval x = v2) (h1 : ByS lo hi w (.slice ao l.length l.length) l) (h2 : ByS lo2 hi2 w v2 m) (hm : 0 < m.length) (hl : l.length ≤ 1000000) (hm2 : m.length ≤ 1000000) :
  stepAt Tryz.prog o a w fun v' w' => OwA (l ++ m) w.heap.size w'.heap.size v' w' ∧ Below w.heap.size w w' := by
 obtain ⟨iu8, hu8, uz0, uz1, uz2⟩ := info_parts J22
 refine Jb (fun v w' hh => ?_) (J66 ho J10 hu8 uz0 uz1 uz2 rfl (by decide) (J4e m) hs hnone hx h1 h2 hm (by unfold maxLen; omega) (by omega))
 refine ⟨OwB.a ?_, hh.2⟩
 unfold OwB
 rw [J8z, List.length_append]
 exact hh.1
theorem OwA.form {l : List Nat} {lo hi : Nat} {v : Value} {w : World} (h : OwA l lo hi v w) (h0 : 0 < l.length) : ∃ g cap, v = .slice (some ⟨g, 0, none⟩) l.length cap ∧ l.length ≤ cap ∧ cap ≤ maxLen ∧ lo ≤ g ∧ g < hi := by
 rcases h.1.2 with ⟨_, h2⟩ | ⟨g, cap, cur, rfl, r1, r2, r3, r4, _⟩
 · omega
 · exact ⟨g, cap, rfl, r3, r4, r1, h.2 g rfl⟩
theorem Jc2 (d : List Nat) (o : Nat) (h : o + 8 ≤ d.length) : le8 d o 8 = leN ((d.drop o).take 8) := by
 have hl : 8 ≤ (d.drop o).length := by rw [List.length_drop]; omega
 have hg : ∀ j, d.getD (o + j) 0 = (d.drop o).getD j 0 := fun j => by
  rw [List.getD_eq_getElem?_getD, List.getD_eq_getElem?_getD, List.getElem?_drop]
 simp only [le8, Nat.sub_zero]
 rw [show o + 7 = o + 7 from rfl, hg 7, hg (7 - 1), hg (7 - 2), hg (7 - 3), hg (7 - 4), hg (7 - 5), hg (7 - 6), hg (7 - 7)]
 generalize d.drop o = l at *
 match l, hl with
 | a :: b :: c :: e :: f :: g :: p :: q :: r, _ =>
  simp [leN]
  omega
section
open Go.RowKit

attribute [local irreducible] wpRg
end
section
open Go.RowKit

theorem gRedF (x : Int) (h : Word x) (w : World) : Calls Tryz.prog 100 #[.int .u64 x] w (Ret (.int .u64 (fv (fz x))) w) :=
 (fRed x h.1 h.2 w).mono fun e w' ⟨he, hw⟩ => by
  subst hw
  exact ⟨by rw [he, fv_fz], Below.refl _ _⟩
attribute [local irreducible] wpRg
end
end Go.Proofs.YtoiampgfnidfdaaGreatDoor
