/-
  Streams in memory; the reference's Valid and Reading.
-/
import Derived.Test.YtoiampgfnidfdaaGreatDoorRo26
import Derived.Test.YtoiampgfnidfdaaGreatDoorLen
import Derived.DeepKeys
import Derived.Laws.StructEq
import Derived.ChangeKeysEq
set_option maxRecDepth 100000
set_option maxHeartbeats 8000000
namespace Go.Proofs.YtoiampgfnidfdaaGreatDoor
open Go.RowKit
section
open Go.RowKit

theorem J3k : En Tryz.prog 77 := enters_of Tryz.func77 (by kernel_rfl) rfl
theorem J7l : En Tryz.prog 78 := enters_of Tryz.func78 (by kernel_rfl) rfl
theorem J8e : En Tryz.prog 35 := enters_of Tryz.func35 (by kernel_rfl) rfl
theorem gSplit (n : Nat) (h2 : 2 ≤ n) (h8 : n ≤ 8) (w : World) : Calls Tryz.prog 114 #[.int .i64 (n : Int)] w (Ret (.int .i64 (splN n : Nat)) w) := by
 obtain rfl | rfl | rfl | rfl | rfl | rfl | rfl : n = 2 ∨ n = 3 ∨ n = 4 ∨ n = 5 ∨ n = 6 ∨ n = 7 ∨ n = 8 := by omega
 ·
  skip
  have hb := J5n 1 (by decide) w
  rw [show Lib.bitLen 1 = 1 by decide] at hb
  go_enter Tryz.func114, Tryz.ntmps114
  go_wp2_with fail
  refine hb.mono ?_
  rintro e w2 ⟨rfl, rfl⟩
  go_wp2
  go_ret
  exact ⟨by rw [spl2]; rfl, Below.refl _ _⟩
 ·
  skip
  have hb := J5n 2 (by decide) w
  rw [show Lib.bitLen 2 = 2 by decide] at hb
  go_enter Tryz.func114, Tryz.ntmps114
  go_wp2_with fail
  refine hb.mono ?_
  rintro e w2 ⟨rfl, rfl⟩
  go_wp2
  go_ret
  exact ⟨by rw [spl3]; rfl, Below.refl _ _⟩
 ·
  skip
  have hb := J5n 3 (by decide) w
  rw [show Lib.bitLen 3 = 2 by decide] at hb
  go_enter Tryz.func114, Tryz.ntmps114
  go_wp2_with fail
  refine hb.mono ?_
  rintro e w2 ⟨rfl, rfl⟩
  go_wp2
  go_ret
  exact ⟨by rw [spl4]; rfl, Below.refl _ _⟩
 ·
  skip
  have hb := J5n 4 (by decide) w
  rw [show Lib.bitLen 4 = 3 by decide] at hb
  go_enter Tryz.func114, Tryz.ntmps114
  go_wp2_with fail
  refine hb.mono ?_
  rintro e w2 ⟨rfl, rfl⟩
  go_wp2
  go_ret
  exact ⟨by rw [spl5]; rfl, Below.refl _ _⟩
 ·
  skip
  have hb := J5n 5 (by decide) w
  rw [show Lib.bitLen 5 = 3 by decide] at hb
  go_enter Tryz.func114, Tryz.ntmps114
  go_wp2_with fail
  refine hb.mono ?_
  rintro e w2 ⟨rfl, rfl⟩
  go_wp2
  go_ret
  exact ⟨by rw [spl6]; rfl, Below.refl _ _⟩
 ·
  skip
  have hb := J5n 6 (by decide) w
  rw [show Lib.bitLen 6 = 3 by decide] at hb
  go_enter Tryz.func114, Tryz.ntmps114
  go_wp2_with fail
  refine hb.mono ?_
  rintro e w2 ⟨rfl, rfl⟩
  go_wp2
  go_ret
  exact ⟨by rw [spl7]; rfl, Below.refl _ _⟩
 ·
  skip
  have hb := J5n 7 (by decide) w
  rw [show Lib.bitLen 7 = 3 by decide] at hb
  go_enter Tryz.func114, Tryz.ntmps114
  go_wp2_with fail
  refine hb.mono ?_
  rintro e w2 ⟨rfl, rfl⟩
  go_wp2
  go_ret
  exact ⟨by rw [spl8]; rfl, Below.refl _ _⟩
theorem Jmf (n : Nat) (h2 : 2 ≤ n) (h8 : n ≤ 8) : 1 ≤ splN n ∧ splN n < n := by
 obtain rfl | rfl | rfl | rfl | rfl | rfl | rfl : n = 2 ∨ n = 3 ∨ n = 4 ∨ n = 5 ∨ n = 6 ∨ n = 7 ∨ n = 8 := by omega
 · rw [spl2]; decide
 · rw [spl3]; decide
 · rw [spl4]; decide
 · rw [spl5]; decide
 · rw [spl6]; decide
 · rw [spl7]; decide
 · rw [spl8]; decide
theorem Jep : ∀ (ps : List Dg) (k : Nat), (∀ d ∈ ps, DgOk d) → (ps.flatMap byc).drop (k * 32) = (ps.drop k).flatMap byc
 | [], k, _ => by simp
 | d :: ps, 0, _ => by simp
 | d :: ps, k + 1, h => by
  have hl : (byc d).length = 32 := by rw [J3]; exact (h d (List.mem_cons_self ..)).1
  rw [List.flatMap_cons, List.drop_succ_cons, List.drop_append, hl, List.drop_eq_nil_of_le (by rw [hl, Nat.succ_mul]; omega), List.nil_append, show (k + 1) * 32 - 32 = k * 32 by rw [Nat.succ_mul]; omega, Jep ps k fun x hx => h x (List.mem_cons_of_mem _ hx)]
theorem Jka {W : World} {g off cap n k cap' : Nat} {l : List Dg} (h : DgsA W (.slice (some ⟨g, off, none⟩) n cap) l) (hn : l.length = n) (hk : k ≤ n) (hc : k ≤ cap') : DgsA W (.slice (some ⟨g, off, none⟩) k cap') (l.take k) := by
 subst hn
 refine ⟨?_, fun d hd => h.2 d (List.mem_of_mem_take hd)⟩
 rw [List.length_take, Nat.min_eq_left hk, ← J82 _ _ h.2]
 exact rd_pre h.1 hk hc
theorem Jkb {W : World} {g off cap n k cap' : Nat} {l : List Dg} (h : DgsA W (.slice (some ⟨g, off, none⟩) n cap) l) (hn : l.length = n) (hk : k < n) (hc : n - k ≤ cap') : DgsA W (.slice (some ⟨g, off + k * 32, none⟩) (n - k) cap') (l.drop k) := by
 subst hn
 refine ⟨?_, fun d hd => h.2 d (List.mem_of_mem_drop hd)⟩
 obtain ⟨h1, h2, A, c, h3, h4, h5⟩ := h.1
 cases h3
 obtain ⟨g', off', r1, r2, r3, r4, r5⟩ := h5 (by omega)
 cases r1
 rw [← Jep _ _ h.2, List.length_drop]
 refine ⟨by rw [List.length_drop, h1, Nat.sub_mul], by omega, _, cap', rfl, hc, fun _ => ⟨g, off + k * 32, rfl, r2, r3, r4, fun j u hu => ?_⟩⟩
 rw [List.getElem?_drop] at hu
 rw [Nat.add_assoc]
 exact r5 _ _ hu
theorem J9o (f : Nat) (l : List Dg) (h : ∀ d ∈ l, DgOk d) (h0 : 0 < l.length) (hf : 0 < f) : DgOk (treeN pairD f l) := by
 obtain ⟨f, rfl⟩ : ∃ g, f = g + 1 := ⟨f - 1, by omega⟩
 unfold treeN
 split
 ·
  rw [List.getD_eq_getElem?_getD, List.getElem?_eq_getElem h0]
  exact h _ (List.getElem_mem h0)
 · exact J2c _ _
attribute [local irreducible] wpRg
theorem gFold : ∀ (f : Nat) (l : List Dg), 0 < l.length → l.length ≤ f → l.length ≤ 8 → ∀ (v : Value) (w : World), Lsh w → DgsA w v l → Calls Tryz.prog 77 #[v] w (Ret (dgv (treeN pairD f l)) w)
 | 0, l, h0, h1, _, _, _, _, _ => absurd h0 (by omega)
 | f + 1, l, h0, hf, h8, v, w, hL, hv => by
  obtain ⟨g, off, cap, rfl, hcp, hg, -⟩ := hv.1.form h0
  have HL := Lib.hid hL
  have IH := Lib.hid (gFold f)
  have HOK := Lib.hid (J9o (f + 1) l hv.2 h0 (Nat.succ_pos _))
  obtain ⟨n, hn⟩ : ∃ n, n = l.length := ⟨_, rfl⟩
  rw [← hn] at h0 hf h8 hcp hv ⊢
  have HV := Lib.hid hv
  clear hL hv
  have HN := Lib.hid hn.symm
  clear hn
  by_cases h1 : n = 1
  ·
   subst h1
   have HT := Lib.hid (show treeN pairD (f + 1) l = l.getD 0 [] by unfold treeN; rw [if_pos HN.out])
   obtain ⟨d, hd⟩ : ∃ d, l[0]? = some d := ⟨l[0]'(by rw [HN.out]; decide), List.getElem?_eq_getElem (by rw [HN.out]; decide)⟩
   have hgd : l.getD 0 [] = d := by rw [List.getD_eq_getElem?_getD, hd]; rfl
   rw [HT.out, hgd]
   have hv1 := HV.out
   obtain ⟨g', off', cap', hvv, hcp', hg', hr, hpo⟩ := hv1.at hd
   rw [HN.out] at hvv
   cases hvv
   rw [Nat.zero_mul, Nat.add_zero] at hr
   clear hv1 hd hgd
   go_enter Tryz.func77, Tryz.ntmps77
   go_upto_region 1 with (fail)
   refine J13 fun W hB hz b2 => ?_
   obtain ⟨cs0, hcs0, b2'⟩ : ∃ cs : Array Value, cs.size = 32 ∧ Blk W w.heap.size 23 cs := ⟨_, rfl, b2⟩
   have hrW := Jr hr hg hB
   clear hz b2 hr
   go_upto_region 2 with (fail)
   refine wp_region_lit ?_
   iterate 2 (refine wpList_plain rfl fun K hK => ?_; go_big_op; refine hK _ _ ?_; clear hK K)
   refine wpSk rfl (J1 (cs := byc d) Jg rfl (by rw [Jc, J3, hpo.1]) rfl rfl hrW) fun v9 w9 hh => ?_
   obtain ⟨rfl, rfl⟩ := hh
   try simp only [PutS]
   refine J6 rfl 23 (.tmp 2) (.tmp 9) rfl rfl (cells := byc d) rfl b2' (by rw [J3, hpo.1, hcs0]; decide) (by rw [Jc, J3, hpo.1]) (Jw _) (Ja _ _ (by rw [hcs0, J3, hpo.1])) fun X hX bX => ?_
   have hBX := J2 hB hX (Nat.le_refl _)
   clear hX b2' hrW
   try simp only [PutS]
   go_wp2_with fail
   exact bodyPost_ret (v := dgv d) (Jv (cs := byc d) (g := w.heap.size) rfl rfl Jg rfl (by rw [Jc, J3, hpo.1]) bX) rfl ⟨rfl, hBX⟩
  ·
   have HT := Lib.hid (show treeN pairD (f + 1) l = pairD (treeN pairD f (l.take (splN n))) (treeN pairD f (l.drop (splN n))) by rw [← HN.out]; rw [treeN, if_neg (by rw [HN.out]; exact h1)])
   have h2 : 2 ≤ n := by omega
   obtain ⟨hk1, hk2⟩ := Jmf n h2 h8
   have HSP := Lib.hid (gSplit n h2 h8)
   obtain ⟨k, hk⟩ : ∃ k, k = splN n := ⟨_, rfl⟩
   rw [← hk] at hk1 hk2 HSP HT
   clear hk
   have hT1 : ∀ W, Below w.heap.size w W → Calls Tryz.prog 77 #[.slice (some ⟨g, off, none⟩) k cap] W (Ret (dgv (treeN pairD f (l.take k))) W) := fun W hW =>
    IH.out (l.take k) (by rw [List.length_take, HN.out]; omega) (by rw [List.length_take, HN.out]; omega) (by rw [List.length_take, HN.out]; omega) _ W (HL.out.keep hW) (Jka (HV.out.keep hW) HN.out (by omega) (by omega))
   have hT2 : ∀ W, Below w.heap.size w W → Calls Tryz.prog 77 #[.slice (some ⟨g, off + k * 32, none⟩) (n - k) (cap - k)] W (Ret (dgv (treeN pairD f (l.drop k))) W) := fun W hW =>
    IH.out (l.drop k) (by rw [List.length_drop, HN.out]; omega) (by rw [List.length_drop, HN.out]; omega) (by rw [List.length_drop, HN.out]; omega) _ W (HL.out.keep hW) (Jkb (HV.out.keep hW) HN.out hk2 (by omega))
   have HT1 := Lib.hid hT1
   have HT2 := Lib.hid hT2
   have HO1 := Lib.hid (J9o f (l.take k) (fun d hd => HV.out.2 d (List.mem_of_mem_take hd)) (by rw [List.length_take, HN.out]; omega) (by omega))
   have HO2 := Lib.hid (J9o f (l.drop k) (fun d hd => HV.out.2 d (List.mem_of_mem_drop hd)) (by rw [List.length_drop, HN.out]; omega) (by omega))
   rw [HT.out] at HOK ⊢
   clear hT1 hT2 IH HT
   generalize treeN pairD f (l.take k) = d1 at *
   generalize treeN pairD f (l.drop k) = d2 at *
   go_enter Tryz.func77, Tryz.ntmps77
   go_upto_region 1 with (fail)
   refine J13 fun W hB hz b2 => ?_
   obtain ⟨cs0, hcs0, b2'⟩ : ∃ cs : Array Value, cs.size = 32 ∧ Blk W w.heap.size 23 cs := ⟨_, rfl, b2⟩
   clear hz b2
   go_wp2_with fail
   refine (HSP.out W).mono ?_
   rintro e w12 ⟨rfl, B12⟩
   have b2w := b2'.keep B12
   have hBw := hB.trans (B12.mono hB.size)
   clear b2' hB B12
   go_upto_region 4 with (fail)
   refine Jd 9 [(3, Spec.val (dgv d1)), (7, Spec.val (dgv d2)), (8, Spec.val (dgv (pairD d1 d2)))] (by kernel_rfl) (by kernel_rfl) (by kernel_rfl) trivial ?_
   iterate 3 (refine rg_det rfl rfl rfl (fun K hK => ?_); go_big_quiet_op; refine hK _ ?_; clear hK K)
   refine rg_val rfl rfl (fun W1 hW1 hF => J7 J3k (HT1.out W1 (hBw.trans ((J8 hW1).mono hBw.size))) rfl rfl) ?_
   intro a' ha
   simp only [PutS] at ha
   subst ha
   iterate 3 (refine rg_det rfl rfl rfl (fun K hK => ?_); go_big_quiet_op; refine hK _ ?_; clear hK K)
   refine rg_val rfl rfl (fun W1 hW1 hF => J7 J3k (HT2.out W1 (hBw.trans ((J8 hW1).mono hBw.size))) rfl rfl) ?_
   intro a' ha
   simp only [PutS] at ha
   subst ha
   refine rg_val rfl rfl (fun W1 hW1 hF => J7 J3j (gPair d1 d2 HO1.out HO2.out W1 (HL.out.keep (hBw.trans ((J8 hW1).mono hBw.size)))) rfl rfl) ?_
   intro a' ha
   simp only [PutS] at ha
   subst ha
   refine rg_nil (fun w' hw' hF => ?_)
   obtain ⟨z, rfl⟩ := hw'
   simp only [List.drop_succ_cons, List.drop_zero]
   have bz := b2w.keep z.h
   have hBz := hBw.trans (z.h.mono hBw.size)
   refine J6 rfl 23 (.tmp 2) (.tmp 21) rfl rfl (cells := byc (pairD d1 d2)) rfl bz (by rw [J3, HOK.out.1, hcs0]; decide) (by rw [Jc, J3, HOK.out.1]) (Jw _) (Ja _ _ (by rw [hcs0, J3, HOK.out.1])) fun X hX bX => ?_
   have hBX := J2 hBz hX (Nat.le_refl _)
   clear hX bz b2w hBw hBz hF
   try simp only [PutS]
   go_wp2_with fail
   exact bodyPost_ret (v := dgv (pairD d1 d2)) (Jv (cs := byc (pairD d1 d2)) (g := w.heap.size) rfl rfl Jg rfl (by rw [Jc, J3, HOK.out.1]) bX) rfl ⟨rfl, hBX⟩
end
section
open Go.RowKit

def ByD (W : World) (v : Value) (b : List Nat) : Prop := RdA 1 W v b.length (byc b)
theorem ByD.keep {W W' : World} {v : Value} {b : List Nat} (h : ByD W v b) (hb : Below W.heap.size W W') : ByD W' v b := RdA.keep h hb
def BsA (W : World) (v : Value) (bs : List (List Nat)) : Prop := ∃ us : List Value, RdA 1 W v us.length us ∧ Al (ByD W) us bs
theorem BsA.keep {W W' : World} {v : Value} {bs : List (List Nat)} (h : BsA W v bs) (hb : Below W.heap.size W W') : BsA W' v bs := by
 obtain ⟨us, h1, h2⟩ := h
 exact ⟨us, h1.keep hb, h2.mono fun _ _ h => h.keep hb⟩
theorem BsA.len {W : World} {v : Value} {bs : List (List Nat)} (h : BsA W v bs) : ∃ A cap, v = .slice A bs.length cap := by
 obtain ⟨us, h1, h2⟩ := h
 obtain ⟨A, cap, h3⟩ := Rd.len h1
 exact ⟨A, cap, by rw [h3, h2.1]⟩
def dg0L : Dg := List.replicate 32 0
theorem Jam : ∀ (vs pre c2 post : List Value), c2.length = vs.length → spl (pre ++ (c2 ++ post)).toArray pre.length vs = (pre ++ (vs ++ post)).toArray
 | [], pre, c2, post, h => by
  rw [List.eq_nil_of_length_eq_zero h]
  rfl
 | v :: vs, pre, c :: c2, post, h => by
  have e : ((pre ++ (c :: c2 ++ post)).toArray.setIfInBounds pre.length v) = ((pre ++ [v]) ++ (c2 ++ post)).toArray := by simp
  rw [spl, e]
  have := Jam vs (pre ++ [v]) c2 post (by simpa using h)
  rw [List.length_append, List.length_singleton] at this
  rw [this]
  simp
theorem Jc7 (l : List Dg) (h : ∀ d ∈ l, d.length = 32) : (l.flatMap byc).length = l.length * 32 := by
 induction l with
 | nil => rfl
 | cons d l ih => rw [List.flatMap_cons, List.length_append, J3, h d (List.mem_cons_self ..), ih fun x hx => h x (List.mem_cons_of_mem _ hx), List.length_cons, Nat.succ_mul]; omega
theorem Jmg (l : List Dg) (h : ∀ d ∈ l, d.length = 32) (k : Nat) (hk : k < l.length) (d : Dg) (hd : d.length = 32) : spl (l.flatMap byc).toArray (k * 32) (byc d) = ((l.set k d).flatMap byc).toArray := by
 have e : l = l.take k ++ (l[k] :: l.drop (k + 1)) := by rw [List.getElem_cons_drop, List.take_append_drop]
 have hl : ((l.take k).flatMap byc).length = k * 32 := by rw [Jc7 _ fun d hd => h d (List.mem_of_mem_take hd), List.length_take, Nat.min_eq_left (Nat.le_of_lt hk)]
 have e2 : l.flatMap byc = (l.take k).flatMap byc ++ (byc l[k] ++ (l.drop (k + 1)).flatMap byc) := by
  conv => lhs; rw [e]
  rw [List.flatMap_append, List.flatMap_cons]
 have e3 : (l.set k d).flatMap byc = (l.take k).flatMap byc ++ (byc d ++ (l.drop (k + 1)).flatMap byc) := by
  rw [List.set_eq_take_append_cons_drop, if_pos hk, List.flatMap_append, List.flatMap_cons]
 rw [e2, e3, ← hl]
 exact Jam (byc d) _ (byc l[k]) _ (by rw [J3, J3, hd, h _ (List.getElem_mem hk)])
theorem zb_get (n k : Nat) (h : k < n) : (zb n)[k]? = some (.int .u8 0) := by simp [zb, h]
theorem Jmh (n : Nat) : (List.replicate n dg0L).flatMap byc = zb (n * 32) := by
 induction n with
 | zero => rfl
 | succ n ih =>
  rw [List.replicate_succ, List.flatMap_cons, ih, show byc dg0L = zb 32 from rfl, Nat.succ_mul, Nat.add_comm]
  unfold zb
  rw [List.replicate_append_replicate]
theorem mk_dg (n : Nat) (hn : n ≤ 1000) (w : World) : (Instr.makeSlice 73 (.int .i64 (n : Int)) (.int .i64 (n : Int))).run Tryz.prog w = .ok (.slice (some ⟨w.heap.size, 0, none⟩) n n) (w.alloc (.cells ((List.replicate n dg0L).flatMap byc).toArray 23)) := by
 obtain ⟨i0, hi0, hz0, hz1, hz2⟩ := info_parts J2b
 have h := run_make (P := Tryz.prog) w _ _ i0 _ J3q hi0 hz0 .i64 .i64 (n : Int) (n : Int) (by omega) (Int.le_refl _) (by rw [hz2]; omega) (by omega)
 rw [h, Int.toNat_natCast, hz1, Jmh]
 congr 4
 apply Array.ext_getElem?
 intro k
 unfold madeCells
 by_cases hk : k < n * 32
 ·
  have h32 : k % 32 < 32 := Nat.mod_lt _ (by decide)
  simp only [List.getElem?_toArray, zb_get _ _ hk, Array.getElem?_map, Value.cells]
  rw [Array.getElem?_range]
  simp only [hk, if_true, Option.map_some, List.size_toArray, zb_len]
  congr 1
  have hz : (zb 32).toArray[k % 32]? = some (.int .u8 0) := by simpa using zb_get 32 (k % 32) h32
  rw [getElem!_def, hz]
 · rw [Array.getElem?_eq_none (by simp; omega), Array.getElem?_eq_none (by simp [zb_len]; omega)]
def hsK (bs : List (List Nat)) (k : Nat) : List Dg := (bs.take k).map leafD ++ List.replicate (bs.length - k) dg0L
theorem Jkc (bs : List (List Nat)) : hsK bs 0 = List.replicate bs.length dg0L := by simp [hsK]
theorem Jmi (bs : List (List Nat)) : hsK bs bs.length = bs.map leafD := by simp [hsK]
theorem Jge (bs : List (List Nat)) (k : Nat) (hk : k ≤ bs.length) : (hsK bs k).length = bs.length := by
 unfold hsK
 rw [List.length_append, List.length_map, List.length_take, List.length_replicate]
 omega
theorem hsK_32 (bs : List (List Nat)) (k : Nat) : ∀ d ∈ hsK bs k, d.length = 32 := by
 intro d hd
 rcases List.mem_append.1 hd with h | h
 ·
  obtain ⟨b, _, rfl⟩ := List.mem_map.1 h
  exact (J2d b).1
 · rw [(List.mem_replicate.1 h).2]; rfl
theorem Jkd (bs : List (List Nat)) (k : Nat) (b : List Nat) (h : bs[k]? = some b) : hsK bs (k + 1) = (hsK bs k).set k (leafD b) := by
 have hl := (List.getElem?_eq_some_iff.1 h).1
 unfold hsK
 rw [List.take_add_one, h, List.map_append, List.set_append_right _ _ (by simp; omega)]
 simp only [Option.toList_some, List.map_cons, List.map_nil, List.length_map, List.length_take, Nat.min_eq_left (Nat.le_of_lt hl), Nat.sub_self, List.append_assoc]
 rw [show bs.length - k = (bs.length - (k + 1)) + 1 by omega, List.replicate_succ, List.set_cons_zero]
 rfl
theorem J86 : En Tryz.prog 105 := enters_of Tryz.func105 (by kernel_rfl) rfl
attribute [local irreducible] wpRg
theorem gHashes (bs : List (List Nat)) (h8 : bs.length ≤ 8) (hbs : ∀ b ∈ bs, b.length ≤ 900000 ∧ ∀ x ∈ b, x < 256) (v : Value) (w : World) (hL : Lsh w) (hv : BsA w v bs) : Calls Tryz.prog 78 #[v] w fun e w' => ∃ v', e = .returned v' ∧ DgsA w' v' (bs.map leafD) ∧ Below w.heap.size w w' := by
 obtain ⟨A, cap, rfl⟩ := hv.len
 have HV := Lib.hid hv
 have HL := Lib.hid hL
 have HB := Lib.hid hbs
 have mkd := mk_dg bs.length (by omega) w
 clear hv hL hbs
 go_enter Tryz.func78, Tryz.ntmps78
 go_wp2_with fail
 have b0 : Blk (w.alloc (.cells ((List.replicate bs.length dg0L).flatMap byc).toArray 23)) w.heap.size 23 ((hsK bs 0).flatMap byc).toArray := by rw [Jkc]; exact World.alloc_heap_new w _
 have B0 := (Below.refl _ w).alloc (Nat.le_refl _) (.cells ((List.replicate bs.length dg0L).flatMap byc).toArray 23)
 generalize w.alloc (.cells ((List.replicate bs.length dg0L).flatMap byc).toArray 23) = W0 at *
 clear mkd
 go_loopw [11] (fun i wr => ∃ k : Nat, k ≤ bs.length ∧ i = .int .i64 k ∧ Blk wr w.heap.size 23 ((hsK bs k).flatMap byc).toArray ∧ Below w.heap.size w wr) (fun i _ => bs.length - (intOf i).toNat)
 case atStart => exact ⟨0, Nat.zero_le _, rfl, b0, B0⟩
 case round =>
  clear b0 B0
  obtain ⟨k, hk, rfl, hb, hBr⟩ := hrel
  by_cases hlt : k < bs.length
  ·
   obtain ⟨us, hr, ha⟩ := HV.out
   obtain ⟨u, b, hu, hbk, hby⟩ := ha.get hlt
   obtain ⟨hb9, hb8⟩ := HB.out b (List.mem_of_getElem? hbk)
   obtain ⟨g, off, cap', hvv, hcp, hg, hcs⟩ := RdA.form hr (by have := (List.getElem?_eq_some_iff.1 hu).1; omega)
   rw [ha.1] at hvv hcp
   cases hvv
   have c1 := (hBr.cell (p := ⟨g, off + k, none⟩) hg).trans (hcs k u hu)
   obtain ⟨Ab, cb, rfl⟩ := Rd.len hby
   have HBY := Lib.hid (hby.keep hBr)
   have HN := Lib.hid (Jkd bs k b hbk)
   have hlg := Nat.lt_of_lt_of_le hg hBr.size
   have HS := Lib.hid (Jmg (hsK bs k) (hsK_32 bs k) k (by rw [Jge bs k hk]; exact hlt) (leafD b) (J2d b).1)
   have HLN := Lib.hid (Jc7 (hsK bs k) (hsK_32 bs k))
   have HLL := Lib.hid (Jge bs k hk)
   have HB8 := Lib.hid hb8
   clear hr ha hu hbk hby hcs hb8
   go_upto_region 5 with (fail)
   refine wp_region_lit ?_
   iterate 3 (refine wpList_plain rfl fun K hK => ?_; go_big_op; refine hK _ _ ?_; clear hK K)
   refine wpSk rfl (J7 J86 (gLeaf b hb9 HB8.out _ _ _ wr (HL.out.keep hBr) HBY.out) rfl rfl) fun v19 w19 hh => ?_
   obtain ⟨rfl, B19⟩ := hh
   try simp only [PutS]
   have hbw := hb.keep B19
   have hBw := hBr.trans (B19.mono hBr.size)
   clear c1 hb hBr B19 hg hcp
   refine wpList_plain rfl fun K hK => ?_; go_big_op; refine hK _ _ ?_; clear hK K
   refine J6 rfl 23 (.tmp 20) (.tmp 19) rfl rfl (cells := byc (leafD b)) rfl hbw (by rw [List.size_toArray, HLN.out, HLL.out, J3, (J2d b).1]; omega) (by rw [Jc, J3, (J2d b).1]) (Jw _) HS.out fun X hX bX => ?_
   rw [← HN.out] at bX
   have hBX := J2 hBw hX (Nat.le_refl _)
   clear hX hbw hBw
   try simp only [PutS]
   go_wp2_with fail
   exact ⟨⟨k + 1, by omega, by go_num, bX, hBX⟩, by simp [intOf]; omega⟩
  ·
   obtain rfl : k = bs.length := by omega
   rw [Jmi] at hb
   go_wp2_with fail
   refine bodyPost_ret (v := .slice (some ⟨w.heap.size, 0, none⟩) bs.length bs.length) (by simp [results, Tryz.results78, go_sem]) rfl ⟨_, rfl, ⟨?_, fun d hd => ?_⟩, hBr⟩
   ·
    have hll : (bs.map leafD).length = bs.length := by simp
    rw [hll]
    refine ⟨by rw [Jc7 _ fun d hd => by obtain ⟨b, _, rfl⟩ := List.mem_map.1 hd; exact (J2d b).1, hll], by omega, _, bs.length, rfl, Nat.le_refl _, fun _ => ⟨w.heap.size, 0, rfl, Nat.zero_le _, hb.lt, hb.lt, fun j u hu => ?_⟩⟩
    rw [Nat.zero_add, hb.cell]
    simpa using hu
   ·
    obtain ⟨b, _, rfl⟩ := List.mem_map.1 hd
    exact J2d b
end
section
open Go.RowKit

def rootT (bs : List (List Nat)) : Dg := if bs.length = 0 then dg0L else treeN pairD bs.length (bs.map leafD)
def rootE (bs : List (List Nat)) : Nat := if bs.length = 0 then 1 else 0
theorem Ji8 (bs : List (List Nat)) (h : bs.length ≤ 8) : rootT bs = bagN pairD (peaksN pairD [] 0 (bs.map leafD)) := by
 unfold rootT
 split
 ·
  rename_i h0
  rw [List.eq_nil_of_length_eq_zero h0]
  rfl
 · rw [Jji pairD (bs.map leafD) (by rw [List.length_map]; omega) (by rw [List.length_map]; exact h), List.length_map]
theorem Jeq (bs : List (List Nat)) : DgOk (rootT bs) := by
 unfold rootT
 split
 · exact ⟨rfl, fun x hx => by rw [(List.mem_replicate.1 hx).2]; decide⟩
 ·
  refine J9o _ _ (fun d hd => ?_) (by rw [List.length_map]; omega) (by omega)
  obtain ⟨b, _, rfl⟩ := List.mem_map.1 hd
  exact J2d b
attribute [local irreducible] wpRg
theorem gTree (bs : List (List Nat)) (h8 : bs.length ≤ 8) (hbs : ∀ b ∈ bs, b.length ≤ 900000 ∧ ∀ x ∈ b, x < 256) (v : Value) (w : World) (hL : Lsh w) (hv : BsA w v bs) : Calls Tryz.prog 35 #[v] w (Ret (.tuple #[dgv (rootT bs), .int .i64 (rootE bs : Nat)]) w) := by
 obtain ⟨A, cap, rfl⟩ := hv.len
 have HH := Lib.hid (fun W hW => gHashes bs h8 hbs _ W (hL.keep hW) (hv.keep hW))
 have HL := Lib.hid hL
 have HO := Lib.hid (Jeq bs)
 clear hv hL hbs
 go_enter Tryz.func35, Tryz.ntmps35
 go_upto_region 1 with (fail)
 refine J13 fun W hB hz b2 => ?_
 obtain ⟨cs0, hcs0, b2'⟩ : ∃ cs : Array Value, cs.size = 32 ∧ Blk W w.heap.size 23 cs := ⟨_, rfl, b2⟩
 clear hz b2
 by_cases h0 : bs.length = 0
 ·
  have hR := Lib.hid (show rootT bs = dg0L by unfold rootT; rw [if_pos h0])
  have hRE := Lib.hid (show rootE bs = 1 by unfold rootE; rw [if_pos h0])
  rw [h0]
  clear h0
  go_upto_region 3 with (fail)
  refine wp_region_lit ?_
  refine wpSk rfl (J6y rfl) fun v10 w10 hh => ?_
  obtain ⟨rfl, rfl⟩ := hh
  try simp only [PutS]
  refine J6 rfl 23 (.tmp 2) (.tmp 10) rfl rfl (cells := byc (List.replicate 32 0)) rfl b2' (by rw [hcs0]; exact Nat.le_refl 32) (by rw [Jc]; rfl) (Jw _) (Ja _ _ (by rw [hcs0]; rfl)) fun X hX bX => ?_
  have hBX := J2 hB hX (Nat.le_refl _)
  clear hX b2'
  try simp only [PutS]
  go_wp2_with fail
  exact bodyPost_ret (v := .tuple #[dgv (List.replicate 32 0), .int .i64 1]) (res_mt (c1 := byc (List.replicate 32 0)) (g1 := w.heap.size) rfl rfl rfl Jg rfl (by rw [Jc]; rfl) bX) rfl ⟨by rw [hR.out, hRE.out]; rfl, hBX⟩
 ·
  have hR := Lib.hid (show rootT bs = treeN pairD bs.length (bs.map leafD) by unfold rootT; rw [if_neg h0])
  have hRE := Lib.hid (show rootE bs = 0 by unfold rootE; rw [if_neg h0])
  obtain ⟨ds, hds⟩ : ∃ ds, ds = bs.map leafD := ⟨_, rfl⟩
  obtain ⟨n, hn⟩ : ∃ n, n = bs.length := ⟨_, rfl⟩
  have hdl : ds.length = n := by rw [hds, List.length_map, hn]
  have hH1 := HH.out W hB
  rw [← hn] at h0 h8 hH1 ⊢
  rw [← hds] at hH1 hR
  rw [← hn] at hR
  have HDL := Lib.hid hdl
  clear hn hds hdl HH
  generalize rootT bs = d at *
  generalize rootE bs = re at *
  go_upto_region 6 with (fail)
  refine wp_region_lit ?_
  refine wpList_plain rfl fun K hK => ?_; go_big_op; refine hK _ _ ?_; clear hK K
  refine wpSk rfl (Jm (R := fun v W2 => DgsA W2 v ds ∧ Below W.heap.size W W2) J7l (hH1.mono fun r W2 ⟨v', q1, q2, q3⟩ => ⟨v', q1, q2, q3⟩) rfl rfl) fun v16 w16 hh => ?_
  obtain ⟨h16, B16⟩ := hh
  try simp only [PutS]
  obtain ⟨A16, c16, rfl⟩ := h16.len
  have b2w := b2'.keep B16
  have hBw := hB.trans (B16.mono hB.size)
  have hF := gFold n ds (by rw [HDL.out]; omega) (by rw [HDL.out]; exact Nat.le_refl _) (by rw [HDL.out]; exact h8) _ w16 (HL.out.keep hBw) h16
  rw [← hR.out] at hF
  rw [HDL.out] at hF ⊢
  refine wpSk rfl (J7 J3k hF rfl rfl) fun v17 w17 hh => ?_
  obtain ⟨rfl, B17⟩ := hh
  try simp only [PutS]
  have b3w := b2w.keep B17
  have hBx := hBw.trans (B17.mono hBw.size)
  refine J6 rfl 23 (.tmp 2) (.tmp 17) rfl rfl (cells := byc d) rfl b3w (by rw [hcs0, J3, HO.out.1]; exact Nat.le_refl 32) (by rw [Jc, J3, HO.out.1]) (Jw _) (Ja _ _ (by rw [hcs0, J3, HO.out.1])) fun X hX bX => ?_
  have hBX := J2 hBx hX (Nat.le_refl _)
  clear hX b2' b2w b3w hBw hBx hF B17 B16 h16 hH1
  try simp only [PutS]
  go_wp2_with fail
  exact bodyPost_ret (v := .tuple #[dgv d, .int .i64 0]) (res_mt (c1 := byc d) (g1 := w.heap.size) rfl rfl rfl Jg rfl (by rw [Jc, J3, HO.out.1]) bX) rfl ⟨by rw [hRE.out]; rfl, hBX⟩
end

def sd26 : Dg := [1, 2, 3] ++ List.replicate 29 0
def ra26 : Rdg := ⟨3, 10, 2, 100⟩
def rb26 : Rdg := ⟨5, 11, 2, 50⟩
def p26a : List Pt := newPts sd26 0 1 2
def p26b : List Pt := p26a.map (addP 0 ra26.amts)
def p26c : List Pt := p26b.map (addP 1 rb26.amts)
def p26d : List Pt := p26c.map (addP 0 [0, 0, 0, 0, -1])
def k26a : List Dg := pushN pairD (tz1 0) [] (leafD ra26.enc)
def k26b : List Dg := pushN pairD (tz1 1) k26a (leafD rb26.enc)
def m26z : Mt := ⟨0, sd26, []⟩
def m26a : Mt := ⟨1, sd26, [⟨1, 0, false, p26a, []⟩]⟩
def m26b : Mt := ⟨2, sd26, [⟨1, 1, false, p26b, k26a⟩]⟩
def m26c : Mt := ⟨3, sd26, [⟨1, 2, false, p26c, k26b⟩]⟩
def m26d : Mt := ⟨4, sd26, [⟨1, 2, false, p26d, k26b⟩]⟩
def m26e : Mt := ⟨5, sd26, [⟨1, 2, true, p26d, k26b⟩]⟩
def m26f : Mt := ⟨6, sd26, [⟨1, 2, true, useP [0, 1] p26d, k26b⟩]⟩
theorem x26a : takeM m26z ra26 = (m26z, 260) := rfl
theorem x26b : openM m26z 1 2 = (m26a, 0) := rfl
theorem x26c : openM m26a 1 2 = (m26a, 260) := rfl
theorem x26d : openM m26a 17 2 = (m26a, 1) := rfl
theorem x26e : takeM m26a ra26 = (m26b, 0) := rfl
theorem x26f : takeM m26b rb26 = (m26c, 0) := rfl
theorem x26g : takeM m26c rb26 = (m26c, 2) := rfl
theorem x26h : retractM m26c 0 ra26 = (m26d, 0) := rfl
theorem x26i : retractM m26c 2 ra26 = (m26c, 4) := rfl
theorem x26j : spendM m26d 0 = (m26d, [], 260) := rfl
theorem x26k : closeM m26d = (m26e, 0) := rfl
theorem x26l : spendM m26e 1 = (m26e, [], 4) := rfl
theorem x26m : spendM m26e 0 = (m26f, [0, 1], 0) := rfl
theorem x26n : spendM m26f 0 = (m26f, [], 261) := rfl
theorem x26o : leftM m26e 0 = 1 := rfl
theorem x26p : leftM m26f 0 = 0 := rfl
theorem x26q : leftM m26f 5 = 0 := rfl
theorem Jmj : k26a = [leafD ra26.enc] := by unfold k26a; rw [Jbe (by decide)]; rfl
theorem Jgf : k26b = [pairD (leafD ra26.enc) (leafD rb26.enc)] := by
 unfold k26b
 rw [Jg1 (by decide), Jbe (by decide), Jmj]
 rfl
theorem x26r : wordsM m26f = 34 := by
 unfold wordsM m26f
 rw [Jgf]
 rfl
theorem x26s : rootM m26e 0 = (rootT [[35, 10, 100], [37, 11, 50]], 0) := by
 rw [Ji8 _ (by decide)]
 rfl
def l26a : Stm := [(ra26, false)]
def l26b : Stm := [(ra26, false), (rb26, false)]
def l26c : Stm := [(ra26, true), (rb26, false)]
theorem Jgg : sd26.length = 32 ∧ ∀ x ∈ sd26, x < 256 := by decide
theorem z26_ok : StOk26 0 (m26z, []) := ⟨Jgg, Nat.le_refl _, rfl, Nat.le_refl _, fun i e l h => (by cases h), fun i e h => (by cases h)⟩
theorem a26_ok : StOk26 1 (m26a, [[]]) := stepOpen z26_ok 1 2 (by decide) (by decide) rfl
theorem b26_ok : StOk26 2 (m26b, [l26a]) := stepTake a26_ok ra26 rfl
theorem c26_ok : StOk26 3 (m26c, [l26b]) := stepTake b26_ok rb26 rfl
theorem d26_ok : StOk26 4 (m26d, [l26c]) := stepRetract c26_ok 0 ra26 rfl rfl
theorem e26_ok : StOk26 5 (m26e, [l26c]) := stepClose d26_ok rfl
theorem f26_ok : StOk26 6 (m26f, [l26c]) := stepSpend e26_ok 0 rfl
def r26 : E := cdE (keyD sd26 (cdB 0 0 0))
theorem coord26 : coordM sd26 0 0 1 = [r26] := rfl
theorem eq26a (r : E) : eqi 0 [r] = 1 - r := by
 rw [J9c, Jfo, E.mul_one]
 rfl
theorem eq26b (r : E) : eqi 1 [r] = r := by
 rw [J9c, Jfo, E.mul_one]
 rfl
def w26 : E := eb (fz 3) * (1 - r26) + eb (fz 5) * r26
def v26 : List E := [w26, eb (fz 10) * (1 - r26) + eb (fz 11) * r26, eb (fz 2), eb (fz 100) * (1 - r26) + eb (fz 50) * r26, 1]
theorem one26 (r x : E) : x * (1 - r) + x * r = x := by rw [← E.mul_add, E.sub_add_cancel, E.mul_one]
theorem v26_c : ∃ p q, p26c = [p, q] ∧ p.V = v26 ∧ p.R = [r26] := by
 refine ⟨_, _, rfl, ?_, rfl⟩
 show [0 + eb (fz 3) * eqi 0 [r26] + eb (fz 5) * eqi 1 [r26], 0 + eb (fz 10) * eqi 0 [r26] + eb (fz 11) * eqi 1 [r26], 0 + eb (fz 2) * eqi 0 [r26] + eb (fz 2) * eqi 1 [r26], 0 + eb (fz 100) * eqi 0 [r26] + eb (fz 50) * eqi 1 [r26], 0 + eb (fz 1) * eqi 0 [r26] + eb (fz 1) * eqi 1 [r26]] = _
 rw [eq26a, eq26b]
 simp only [E.zero_add]
 rw [one26, one26]
 rfl
theorem neg26 (r : E) : (1 : E) + eb (fz (-1)) * (1 - r) = r := by
 have h1 : eb (fz 1) + eb (fz (-1)) = 0 := Jcu
 have h2 : (1 : E) = eb (fz 1) := rfl
 have h3 : (1 : E) * (1 - r) + eb (fz (-1)) * (1 - r) = 0 := by rw [← E.add_mul, h2, h1, E.zero_mul]
 have h4 : (1 : E) = (1 - r) + r := (E.sub_add_cancel 1 r).symm
 calc (1 : E) + eb (fz (-1)) * (1 - r) = ((1 - r) + r) + eb (fz (-1)) * (1 - r) := by rw [← h4]
  _ = r + (1 * (1 - r) + eb (fz (-1)) * (1 - r)) := by rw [E.one_mul, E.add_comm (1 - r) r, E.add_assoc]
  _ = r := by rw [h3, E.add_zero]
theorem v26_d : ∃ p q, p26d = [p, q] ∧ p.V.length = 5 ∧ p.V[4]? = some r26 ∧ p.V[0]? = some w26 := by
 obtain ⟨p, q, h1, h2, h3⟩ := v26_c
 refine ⟨addP 0 [0, 0, 0, 0, -1] p, addP 0 [0, 0, 0, 0, -1] q, by unfold p26d; rw [h1]; rfl, ?_, ?_, ?_⟩
 · unfold addP; rw [h2]; rfl
 ·
  unfold addP
  rw [h2, h3]
  show some ((1 : E) + eb (fz (-1)) * eqi 0 [r26]) = _
  rw [eq26a, neg26]
 ·
  unfold addP
  rw [h2, h3]
  show some (w26 + eb (fz 0) * eqi 0 [r26]) = _
  rw [eb_fz0, E.zero_mul, E.add_zero]
theorem Ji9 (e : Ep) : (epB e).length = 7 + (e.pts.flatMap ptB).length + 1 + (e.peaks.flatMap id).length := by
 rw [J70]
 have g3 : (epH e).length = 7 := by unfold epH; simp [J2k]
 simp only [List.length_append, List.length_singleton, g3]
 omega
theorem x26t : (encM m26f).length = 243 := by
 have h1 : (mtH m26f).length = 41 := by unfold mtH; rw [List.length_append, List.length_append, J2k]; rfl
 have hp : ∀ p ∈ useP [0, 1] p26d, p.V.length = 5 := fun p hp => (f26_ok.n5 _ (List.mem_singleton.2 rfl) p hp).2
 have g1 : ((useP [0, 1] p26d).flatMap ptB).length = 162 := by
  have h2 : (useP [0, 1] p26d).length = 2 := rfl
  obtain ⟨a, b, hab⟩ : ∃ a b, useP [0, 1] p26d = [a, b] := ⟨_, _, rfl⟩
  rw [hab] at hp ⊢
  simp only [List.flatMap_cons, List.flatMap_nil, List.length_append, List.length_nil]
  rw [Jc6 a (hp a (List.mem_cons_self ..)), Jc6 b (hp b (List.mem_cons_of_mem _ (List.mem_cons_self ..)))]
 have g2 : (k26b.flatMap id).length = 32 := by
  rw [Jgf, List.flatMap_cons, List.flatMap_nil, List.append_nil]
  exact (J2c _ _).1
 have e1 : m26f.eps = [⟨1, 2, true, useP [0, 1] p26d, k26b⟩] := rfl
 rw [J60, List.length_append, h1, e1, List.flatMap_cons, List.flatMap_nil, List.append_nil, Ji9]
 generalize useP [0, 1] p26d = P at *
 generalize k26b = K at *
 dsimp only
 rw [g1, g2]
section
open Go.RowKit

theorem J3f : En Tryz.prog 42 := enters_of Tryz.func42 (by kernel_rfl) rfl
attribute [local irreducible] wpRg
theorem gFirst (m : Mt) (hN : MtN m) (e : Ep) (p : Pt) (he : m.eps[0]? = some e) (hp : e.pts[0]? = some p) (h5 : p.V.length = 5) (vE : Value) (bs : Bse) (w : World) (hw : bs.ok w) (hE : EpsB bs vE m.eps) : Calls Tryz.prog 42 #[mtV m vE] w fun r w' => ∃ v, r = .returned v ∧ ExB bs v p.V ∧ Below w.heap.size w w' := by
 obtain ⟨S, hS⟩ : ∃ S, S = mtV m vE := ⟨_, rfl⟩
 rw [← hS]
 have HN := Lib.hid hN
 have HE := Lib.hid hE
 obtain ⟨A, cap, rfl⟩ := hE.len
 have hml := hN.eps
 clear hN hE
 go_enter Tryz.func42, Tryz.ntmps42
 go_upto_region 1 with (fail)
 refine J13 fun W hB hz b1 => ?_
 have b1' : Blk W w.heap.size 35 (mtc m (.slice A m.eps.length cap)).toArray := by first | exact b1 | (rw [hS] at b1; exact b1)
 have hsl := HN.out.seed.1
 have hkW := hw.below hB
 obtain ⟨us, hr, ha⟩ := HE.out
 obtain ⟨u, e9, hu, he9, hin⟩ := ha.get (k := 0) (List.getElem?_eq_some_iff.1 he).1
 obtain rfl : e = e9 := Option.some.inj (he.symm.trans he9)
 obtain ⟨ps, hps, hal⟩ := hin.2.1
 obtain ⟨u2, p9, hu2, hp9, hpin⟩ := hal.get (k := 0) (List.getElem?_eq_some_iff.1 hp).1
 obtain rfl : p = p9 := Option.some.inj (hp.symm.trans hp9)
 obtain ⟨g, off, cap', hv, hcp, hg, hcs⟩ := RdA.at J16 (hr W hkW) hu
 rw [ha.1] at hv hcp
 cases hv
 obtain ⟨g2, off2, cap2, hv2, hcp2, hg2, hcs2⟩ := RdA.at J27 (hps W hkW) hu2
 rw [hal.1] at hv2 hcp2
 have e3 := hcs 3 _ rfl
 have f1 := hcs2 1 _ rfl
 have hpl9 := (hps W hkW).2.1
 rw [hal.1] at hpl9
 have hx := hpin.2.1
 obtain ⟨Ax, cx, hvx⟩ := Rd.len (hx W hkW)
 have hel : 0 < m.eps.length := (List.getElem?_eq_some_iff.1 he).1
 have hpl : 0 < e.pts.length := (List.getElem?_eq_some_iff.1 hp).1
 obtain ⟨n1, hn1⟩ : ∃ n, m.eps.length = n + 1 := ⟨m.eps.length - 1, by omega⟩
 obtain ⟨n2, hn2⟩ : ∃ n, e.pts.length = n + 1 := ⟨e.pts.length - 1, by omega⟩
 rw [h5] at hvx
 rw [hvx] at f1 hx
 have c33 := J11 b1' hsl
 have l1 := b1'.lt
 rw [hn1] at c33 hcp hml
 rw [hn2] at hv2 hcp2 hpl9
 rw [hv2] at e3
 rw [Nat.zero_mul, Nat.zero_add] at e3 f1
 have HX := Lib.hid hx
 have HB := Lib.hid hB
 clear b1 hz hS hx hn1 hn2 hel hpl h5 b1' hB he hp he9 hp9 hcs hcs2 hr ha hu hin hps hal hu2 hpin hvx hv2 hkW hw
 have z1 : ((n1 : Int) + 1 == 0) = false := by simp; omega
 have z2 : ((n2 : Int) + 1 == 0) = false := by simp; omega
 go_wp2_with fail
 exact bodyPost_ret (v := .slice Ax 5 cx) (by simp [results, Tryz.results42, go_sem]) rfl ⟨_, rfl, HX.out, HB.out⟩
end

theorem J1v {b : Bse} {x : Mt × Int} {M : Mt} {c : Int} {w : World} (hx : x = (M, c)) : ∀ r W2, MRes b x w r W2 → ∃ v, r = .returned v ∧ (∃ vE', v = .tuple #[mtV M vE', .int .i64 c] ∧ EpsB (b.new w W2) vE' M.eps ∧ Below w.heap.size w W2) := by
 subst hx
 rintro r W2 ⟨vE', h1, h2, h3⟩
 exact ⟨_, h1, vE', rfl, h2, h3⟩
theorem J71 {b : Bse} {x : Mt × List Nat × Int} {M : Mt} {l : List Nat} {c : Int} {w : World} (hx : x = (M, l, c)) : ∀ r W2, SRes b x w r W2 → ∃ v, r = .returned v ∧ (∃ vE' vL, v = .tuple #[mtV M vE', vL, .int .i64 c] ∧ EpsB (b.new w W2) vE' M.eps ∧ RdA 1 W2 vL l.length (intc l) ∧ Below w.heap.size w W2) := by
 subst hx
 rintro r W2 ⟨vE', vL, h1, h2, h3, h4⟩
 exact ⟨_, h1, vE', vL, rfl, h2, h3, h4⟩
theorem eps_to {w W2 : World} {S : Nat → Prop} {v : Value} {es : List Ep} (h : EpsB (Bse.new ⟨w, S⟩ w W2) v es) (hS : ∀ g, w.heap.size ≤ g → g < W2.heap.size → S g) : EpsB ⟨W2, S⟩ v es :=
 h.le (Bse.le_of (Nat.le_refl _) fun g hg => ⟨hg.1.elim (fun h => h.1) (fun h => hS g h hg.2), rfl⟩)
theorem EpsB.fwd {X Y : World} {S : Nat → Prop} {v : Value} {es : List Ep} (h : EpsB ⟨X, S⟩ v es) (hb : Below X.heap.size X Y) : EpsB ⟨Y, S⟩ v es := h.le (Bse.le_ok (c := ⟨Y, S⟩) ((Bse.ok_self ⟨X, S⟩).below hb) fun _ hg => hg.1)
theorem EpsB.pt {X Y : World} {S : Nat → Prop} {v : Value} {es : List Ep} {g : Nat} (h : EpsB ⟨X, S⟩ v es) (hp : Put X Y g) (hg : ¬ S g) : EpsB ⟨Y, S⟩ v es := h.le (Bse.le_ok (c := ⟨Y, S⟩) ((Bse.ok_self ⟨X, S⟩).put hp fun h => hg h.1) fun _ hg => hg.1)
theorem EpsB.sub {X : World} {S T : Nat → Prop} {v : Value} {es : List Ep} (h : EpsB ⟨X, S⟩ v es) (hS : ∀ g, S g → g < X.heap.size → T g) : EpsB ⟨X, T⟩ v es := h.le (Bse.le_ok (c := ⟨X, T⟩) (Bse.ok_self ⟨X, S⟩) fun g hg => hS g hg.1 hg.2)
theorem EpsB.now {X : World} {S : Nat → Prop} {v : Value} {es : List Ep} (h : EpsB ⟨X, S⟩ v es) : EpsA X v es := h.old (Bse.ok_self ⟨X, S⟩)
theorem ExB.fwd {X Y : World} {S : Nat → Prop} {v : Value} {xs : List E} (h : ExB ⟨X, S⟩ v xs) (hb : Below X.heap.size X Y) : ExB ⟨Y, S⟩ v xs := fun Z hZ => h Z (Bse.le_ok (c := ⟨Y, S⟩) ((Bse.ok_self ⟨X, S⟩).below hb) (fun _ hg => hg.1) Z hZ)
theorem ExB.pt {X Y : World} {S : Nat → Prop} {v : Value} {xs : List E} {g : Nat} (h : ExB ⟨X, S⟩ v xs) (hp : Put X Y g) (hg : ¬ S g) : ExB ⟨Y, S⟩ v xs := fun Z hZ => h Z (Bse.le_ok (c := ⟨Y, S⟩) ((Bse.ok_self ⟨X, S⟩).put hp fun h => hg h.1) (fun _ hg => hg.1) Z hZ)
theorem ExB.sub {X : World} {S T : Nat → Prop} {v : Value} {xs : List E} (h : ExB ⟨X, S⟩ v xs) (hS : ∀ g, S g → g < X.heap.size → T g) : ExB ⟨X, T⟩ v xs := fun Z hZ => h Z (Bse.le_ok (c := ⟨X, T⟩) (Bse.ok_self ⟨X, S⟩) (fun g hg => hS g hg.1 hg.2) Z hZ)
theorem ExB.now {X : World} {S : Nat → Prop} {v : Value} {xs : List E} (h : ExB ⟨X, S⟩ v xs) : ExA X v xs := h X (Bse.ok_self ⟨X, S⟩)
theorem J7o (b : Bse) : EpsB b (.slice none 0 0) [] := ⟨[], fun X _ => nil_rd X 5, Al.nil⟩
theorem ex_rng {W : World} {v : Value} {xs : List E} (h : ExA W v xs) {k : Nat} {x : E} (hk : xs[k]? = some x) : ∃ g off cap, v = .slice (some ⟨g, off, none⟩) xs.length cap ∧ xs.length ≤ cap ∧ g < W.heap.size ∧ W.rangeAt g (off + k * 2) (ec x) := by
 obtain ⟨g, off, cap, h1, h2, -, -, h3, h4⟩ := J32 h (Nat.lt_of_le_of_lt (Nat.zero_le k) (List.getElem?_eq_some_iff.1 hk).1)
 obtain ⟨q1, q2⟩ := h4 k x hk
 refine ⟨g, off, cap, h1, h2, h3, fun j u hu => ?_⟩
 rcases j with _ | _ | j
 · rw [Nat.add_zero, q1]; simpa [ec] using hu
 · rw [q2]; simpa [ec] using hu
 · simp [ec] at hu
theorem Jfc : Tryz.prog.underlying 23 = some (.array 32 5) := by kernel_rfl
theorem Jke : Tryz.prog.plainKey 5 = true := by kernel_rfl
theorem Jhf : Tryz.prog.cellsOf 5 = 1 := by kernel_rfl
theorem eqItems26 {d : Nat} {xs : Array Value} {w : World} : ∀ is : List Nat, (∀ i ∈ is, ∃ x : Nat, xs[i]? = some (.int .u8 (x : Int))) → (Op.eqItems (d + 1) 5 (Tryz.prog.cellsOf 5) xs xs is).run Tryz.prog w = .ok true w
 | [], _ => by simp [Op.eqItems]
 | i :: is, h => by
  obtain ⟨x, hx⟩ := h i (List.mem_cons_self ..)
  have hp : (part 5 xs (i * 1)).run Tryz.prog w = .ok (.int .u8 (x : Int)) w := run_part_plain w Jke (by rw [Nat.mul_one]; exact hx)
  have he : (Op.equalIn (d + 1) 5 (.int .u8 (x : Int)) (.int .u8 (x : Int))).run Tryz.prog w = .ok true w := by
   rw [run_equalIn_int w d 5 .u8 .u8 _ _ (by kernel_rfl)]
   simp
  have hr := eqItems26 (d := d) (xs := xs) (w := w) is (fun j hj => h j (List.mem_cons_of_mem _ hj))
  rw [Jhf] at hr ⊢
  rw [Nat.mul_one] at hp
  simp [Op.eqItems, Sem.run_bind, hp, he, hr]
theorem Jd7 : Tryz.prog.eqGuardType Tryz.prog.depth 23 = false := by kernel_rfl
theorem Jgh (d : Dg) (hd : d.length = 32) (w : World) : (Op.equalIn 10000 23 (.agg (byc d).toArray) (.agg (byc d).toArray)).run Tryz.prog w = .ok true w := by
 obtain ⟨iu, hu⟩ : ∃ i, Tryz.prog.info? 5 = some i := by
  obtain ⟨i, h, -⟩ := info_parts J22
  exact ⟨i, h⟩
 rw [run_equalIn_array w 9999 _ _ Jfc hu]
 refine eqItems26 (d := 9998) _ fun i hi => ?_
 have hi := List.mem_range.1 hi
 obtain ⟨x, hx⟩ : ∃ x, d[i]? = some x := ⟨_, List.getElem?_eq_getElem (by omega)⟩
 exact ⟨x, by simp [byc]; exact ⟨x, hx, rfl⟩⟩
theorem Jkf {o : Oper} {a : Act} {w : World} {x y : Operand} {r : TypeId} {d : Dg} (ho : o.op = .binOp .eql 23 x y r) (hx : a.eval x = dgv d) (hy : a.eval y = dgv d) (hd : d.length = 32) : stepAt Tryz.prog o a w fun v w' => v = .bool true ∧ w' = w := by
 have h := Jgh d hd w
 unfold stepAt execOp
 simp only [ho, hx, hy]
 unfold dgv
 simp only [Sem.run_bind, run_eqGuard_agg w .eql 23 x y _ _ Jd7, run_eql_struct, h, Result.andThen_ok, Sem.run_pure]
 exact ⟨rfl, rfl⟩
theorem Jer {o : Oper} {a : Act} {w : World} {x y : Operand} {r : TypeId} {d : Dg} (ho : o.op = .binOp .neq 23 x y r) (hx : a.eval x = dgv d) (hy : a.eval y = dgv d) (hd : d.length = 32) : stepAt Tryz.prog o a w fun v w' => v = .bool false ∧ w' = w := by
 have h := Jgh d hd w
 unfold stepAt execOp
 simp only [ho, hx, hy]
 unfold dgv
 simp only [Sem.run_bind, run_eqGuard_agg w .neq 23 x y _ _ Jd7, run_neq_struct, h, Result.andThen_ok, Sem.run_pure]
 exact ⟨rfl, rfl⟩
theorem Jia : Tryz.prog.built 23 [(0, .int .u8 1), (1, .int .u8 2), (2, .int .u8 3)] = some (byc sd26).toArray := by kernel_rfl
theorem Jkg {o : Oper} {a : Act} {w : World} (ho : o.op = .build 23 #[(0, .const (.int .u8 1)), (1, .const (.int .u8 2)), (2, .const (.int .u8 3))]) : stepAt Tryz.prog o a w fun v w' => v = .agg (byc sd26).toArray ∧ w' = w := by
 have hr := run_build (P := Tryz.prog) w 23 #[(0, .int .u8 1), (1, .int .u8 2), (2, .int .u8 3)] _ Jia
 unfold stepAt execOp
 simp only [ho, Sem.run_bind, List.map_toArray, List.map_cons, List.map_nil]
 rw [show (a.eval (.const (.int .u8 1))) = .int .u8 1 from rfl, show (a.eval (.const (.int .u8 2))) = .int .u8 2 from rfl, show (a.eval (.const (.int .u8 3))) = .int .u8 3 from rfl, hr]
 exact ⟨rfl, rfl⟩
def Was (p : Value → World → Prop) (_ m : Nat) (v : Value) (w : World) : Prop := ∃ w0, w0.heap.size = m ∧ p v w0 ∧ Below m w0 w
theorem was_st {p : Value → World → Prop} : Stable (Was p) := fun _ _ _ _ _ ⟨w0, h1, h2, h3⟩ hb => ⟨w0, h1, h2, h3.trans hb⟩
def PM (S : Nat → Prop) (M : Mt) (c : Int) (v : Value) (w : World) : Prop := ∃ vE, v = .tuple #[mtV M vE, .int .i64 c] ∧ EpsB ⟨w, S⟩ vE M.eps
def TupM (M : Mt) (c : Int) (_ : Nat) (v : Value) : Prop := ∃ A cap, v = .tuple #[mtV M (.slice A M.eps.length cap), .int .i64 c]
theorem fit_pm {S : Nat → Prop} {M : Mt} {c : Int} : Fit (Was (PM S M c)) (TupM M c) := ⟨was_st, fun _ => ⟨_, none, 0, rfl⟩, fun n m v w h => by
 obtain ⟨w0, _, ⟨vE, rfl, hE⟩, _⟩ := h
 obtain ⟨A, cap, rfl⟩ := hE.len
 exact ⟨A, cap, rfl⟩⟩
theorem J7p {S : Nat → Prop} {x : Mt × Int} {M : Mt} {c : Int} {w : World} (hx : x = (M, c)) (hS : ∀ g, w.heap.size ≤ g → S g) : ∀ r W2, MRes ⟨w, S⟩ x w r W2 → RetR (Was (PM S M c)) w r W2 := fun r W2 h => by
 obtain ⟨v, h1, vE, h2, h3, h4⟩ := J1v hx r W2 h
 exact ⟨v, h1, ⟨W2, rfl, ⟨vE, h2, eps_to h3 fun g hg _ => hS g hg⟩, Below.refl _ _⟩, h4⟩
theorem pm_of {S : Nat → Prop} {M : Mt} {c : Int} {n m : Nat} {vE : Value} {w : World} (h : Was (PM S M c) n m (.tuple #[mtV M vE, .int .i64 c]) w) : EpsB ⟨w, S⟩ vE M.eps := by
 obtain ⟨w0, h1, ⟨vE2, h2, h3⟩, h4⟩ := h
 have hv : vE2 = vE := by
  simp only [Value.tuple.injEq, mtV, Value.agg.injEq, List.toArray_inj, Array.mk.injEq, List.cons.injEq, and_true] at h2
  have h5 := h2
  unfold mtc at h5
  simp only [List.cons.injEq, List.append_cancel_left_eq, List.cons.injEq, and_true, true_and] at h5
  exact h5.symm
 subst hv
 subst h1
 exact h3.fwd h4
theorem J2g : Tryz.prog.underlying 86 = some (.struct (Tryz.prog.fieldsOf 86)) := by kernel_rfl
theorem J2i : (Tryz.prog.info? 86).map (·.size) = some 2 := by kernel_rfl
theorem addW26 (w : World) : Calls Tryz.prog 44 #[ev (eb (fz 3) * (1 - r26)), ev (eb (fz 5) * r26)] w (Ret (ev w26) w) := eAdd _ _ w
theorem Jd8 {o : Oper} {a : Act} {w : World} {x y : Operand} {r : TypeId} {d : Dg} (ho : o.op = .binOp .eql 23 x y r) (hx : a.eval x = dgv d) (hy : a.eval y = dgv d) (hd : d.length = 32) : stepAt Tryz.prog o a w fun v w' => v = .bool true ∧ Below w.heap.size w w' :=
 Jb (fun _ _ h => ⟨h.1, by rw [h.2]; exact Below.refl _ _⟩) (Jkf ho hx hy hd)
def SlQ (n : Nat) (_ _ : Nat) (v : Value) (_ : World) : Prop := ∃ A cap, v = .slice A n cap
theorem Jmk {n : Nat} : Fit (SlQ n) (SlF n) := ⟨fun _ _ _ _ _ h _ => h, fun _ => ⟨_, none, 0, rfl⟩, fun _ _ _ _ h => h⟩
theorem Jkh : (Tryz.prog.info? 56).map (fun i => (i.zero, i.size, i.bytes)) = some (some (.slice none 0 0), 1, 24) := by kernel_rfl
theorem Jib : Tryz.prog.underlying 60 = some (.slice 56) := by kernel_rfl
theorem Jc8 {X : World} {g size n : Nat} {t : TypeId} {cs : List Value} {cs' : Array Value} {cap : Nat} (hb : Blk X g t cs') (hc : cs' = cs.toArray) (hl : cs.length = n * size) (hn : n ≤ 1000000 ∧ n ≤ cap) : RdA size X (.slice (some ⟨g, 0, none⟩) n cap) n cs := by
 subst hc
 refine ⟨hl, by omega, _, cap, rfl, hn.2, fun _ => ⟨g, 0, rfl, Nat.zero_le _, hb.lt, hb.lt, fun j u hu => ?_⟩⟩
 rw [Nat.zero_add, hb.cell]
 simpa using hu
theorem join26 {A : Prop} {M : Nat → Option Addr → Nat → World → Prop} (Q : Nat → Option Addr → Nat → World → Prop) (h : (∀ n a c X, Q n a c X → M n a c X) → A) (k : ∀ n a c X, Q n a c X → M n a c X) : A := h k
section
open Go.RowKit

structure StrW where
 l : Value
 g : Value
def smc (x : StrW) : List Value := [x.l, x.g]
theorem J39 (x : StrW) : (smc x).length = 2 := rfl
def gnc (s : Stm) : List Value := s.map fun y => Value.bool y.2
theorem Jml (s : Stm) : (gnc s).length = s.length := by simp [gnc]
theorem Jgi (s : Stm) : ∀ v ∈ gnc s, v.oneCell' = true := by
 intro v hv
 obtain ⟨x, _, rfl⟩ := List.mem_map.1 hv
 rfl
def rdsc (s : Stm) : List Value := s.flatMap fun y => rdc y.1
theorem Jes (s : Stm) : ∀ v ∈ rdsc s, v.oneCell' = true := by
 intro v hv
 obtain ⟨x, _, hx⟩ := List.mem_flatMap.1 hv
 simp only [rdc, List.mem_cons, List.not_mem_nil, or_false] at hx
 rcases hx with rfl | rfl | rfl | rfl <;> rfl
def StrIB (b : Bse) (x : StrW) (s : Stm) : Prop := RdB b 4 x.l s.length (rdsc s) ∧ RdB b 1 x.g s.length (gnc s)
def StmsB (b : Bse) (v : Value) (ss : List Stm) : Prop := ∃ us : List StrW, RdB b 2 v us.length (us.flatMap smc) ∧ Al (StrIB b) us ss
def StrIn (W : World) (x : StrW) (s : Stm) : Prop := RdA 4 W x.l s.length (rdsc s) ∧ RdA 1 W x.g s.length (gnc s)
section
variable {b c : Bse} {X : World}
theorem RdB.le {size n : Nat} {v : Value} {cs : List Value} (h : RdB b size v n cs) (hl : b.le c) : RdB c size v n cs := fun X hX => h X (hl X hX)
theorem StrIB.le {u : StrW} {s : Stm} (h : StrIB b u s) (hl : b.le c) : StrIB c u s := ⟨h.1.le hl, h.2.le hl⟩
theorem StrIB.old {u : StrW} {s : Stm} (h : StrIB b u s) (ho : b.ok X) : StrIn X u s := ⟨h.1 X ho, h.2 X ho⟩
theorem StmsB.le {v : Value} {ss : List Stm} (h : StmsB b v ss) (hl : b.le c) : StmsB c v ss := by
 obtain ⟨us, h1, h2⟩ := h
 exact ⟨us, h1.le hl, h2.mono fun _ _ h => h.le hl⟩
theorem StmsB.len {v : Value} {ss : List Stm} (h : StmsB b v ss) : ∃ A cap, v = .slice A ss.length cap := by
 obtain ⟨us, h1, h2⟩ := h
 obtain ⟨A, cap, h3⟩ := Rd.len (h1 _ b.ok_self)
 exact ⟨A, cap, by rw [h3, h2.1]⟩
theorem StrIB.len {u : StrW} {s : Stm} (h : StrIB b u s) : (∃ A cap, u.l = .slice A s.length cap) ∧ ∃ A cap, u.g = .slice A s.length cap := ⟨Rd.len (h.1 _ b.ok_self), Rd.len (h.2 _ b.ok_self)⟩
theorem StmsB.fwd {X Y : World} {S : Nat → Prop} {v : Value} {ss : List Stm} (h : StmsB ⟨X, S⟩ v ss) (hb : Below X.heap.size X Y) : StmsB ⟨Y, S⟩ v ss := h.le (Bse.le_ok (c := ⟨Y, S⟩) ((Bse.ok_self ⟨X, S⟩).below hb) fun _ hg => hg.1)
theorem StmsB.pt {X Y : World} {S : Nat → Prop} {v : Value} {ss : List Stm} {g : Nat} (h : StmsB ⟨X, S⟩ v ss) (hp : Put X Y g) (hg : ¬ S g) : StmsB ⟨Y, S⟩ v ss := h.le (Bse.le_ok (c := ⟨Y, S⟩) ((Bse.ok_self ⟨X, S⟩).put hp fun h => hg h.1) fun _ hg => hg.1)
end
theorem Jan {X : World} {S : Nat → Prop} {N n size : Nat} {e : TypeId} {v : Value} {cs : List Value} (h : X.ownsRow N e size v n cs) (hs : n ≤ 1000000) (hS : ∀ g, N ≤ g → S g) : RdB ⟨X, S⟩ size v n cs :=
 fun _ hY => RdA.of (Rd.of_own (J9k h hY.keepsS hS) (by omega) (Nat.le_refl _))
def opc (o : Op26) : List Value := [.int .u8 (o.kind : Int), .int .u8 (o.b0 : Int), .int .u8 (o.b1 : Int), .int .u8 (o.b2 : Int), .int .u8 (o.i : Int), .int .u8 (o.n : Int)]
theorem J1r : En Tryz.prog 80 := enters_of Tryz.func80 (by kernel_rfl) rfl
theorem J2f : En Tryz.prog 62 := enters_of Tryz.func62 (by kernel_rfl) rfl
theorem and15' : ∀ c : Fin 256, bits .and .u8 ((c.val : Nat) : Int) 15 = ((c.val % 16 : Nat) : Int) := by decide +kernel
theorem and15 (c : Nat) (h : c < 256) : bits .and .u8 (c : Int) 15 = ((c % 16 : Nat) : Int) := and15' ⟨c, h⟩
attribute [local irreducible] wpRg
theorem gReading26 (o : Op26) (ho : o.ok) (w : World) : Calls Tryz.prog 80 #[.agg (opc o).toArray] w (Ret (rdV o.rdg) w) := by
 obtain ⟨kind, b0, b1, b2, i, n⟩ := o
 obtain ⟨h1, h2, h3, h4, h5, h6⟩ := ho
 dsimp only at h1 h2 h3 h4 h5 h6
 have h15 := and15 b0 h2
 unfold opc
 dsimp only
 go_enter Tryz.func80, Tryz.ntmps80
 go_wp2_with fail
 refine stk2 (M := fun W => bodyPost _ _ _ _ _ W) fun W hB hz q1 q2 => ?_
 exact bodyPost_ret (v := rdV (Op26.rdg ⟨kind, b0, b1, b2, i, n⟩)) (Jv (cs := rdc (Op26.rdg ⟨kind, b0, b1, b2, i, n⟩)) (g := w.heap.size + 1) rfl rfl J1c rfl (by rw [J1f]; rfl) q2) rfl ⟨rfl, hB⟩
theorem rValid12 (r : Rdg) (hr : RdgIn r) (w : World) : Calls Tryz.prog 62 #[rdV r] w (Ret (.bool (decide r.ok)) w) := by
 obtain ⟨a, b, c, d⟩ := r
 unfold rdV rdc
 dsimp only
 go_enter Tryz.func62, Tryz.ntmps62
 go_upto_region 1 with (fail)
 refine J13 fun W hB hz b1 => ?_
 have e1 := b1.cell
 have HB := Lib.hid hB
 clear hz hB
 by_cases h1 : (0 : Int) ≤ a
 rotate_left 1
 ·
  have HN := Lib.hid (show decide (Rdg.ok ⟨a, b, c, d⟩) = false from decide_eq_false fun h => h1 h.1.1)
  go_wp2_with fail
  exact bodyPost_ret (v := .bool false) (by simp [results, Tryz.results62, go_sem]) rfl ⟨by rw [HN.out], HB.out⟩
 by_cases h2 : a < 16
 rotate_left 1
 ·
  have HN := Lib.hid (show decide (Rdg.ok ⟨a, b, c, d⟩) = false from decide_eq_false fun h => h2 h.1.2)
  go_wp2_with fail
  exact bodyPost_ret (v := .bool false) (by simp [results, Tryz.results62, go_sem]) rfl ⟨by rw [HN.out], HB.out⟩
 by_cases h3 : (0 : Int) ≤ c
 rotate_left 1
 ·
  have HN := Lib.hid (show decide (Rdg.ok ⟨a, b, c, d⟩) = false from decide_eq_false fun h => h3 h.2.2.1.1)
  go_wp2_with fail
  exact bodyPost_ret (v := .bool false) (by simp [results, Tryz.results62, go_sem]) rfl ⟨by rw [HN.out], HB.out⟩
 by_cases h4 : c < 16
 rotate_left 1
 ·
  have HN := Lib.hid (show decide (Rdg.ok ⟨a, b, c, d⟩) = false from decide_eq_false fun h => h4 h.2.2.1.2)
  go_wp2_with fail
  exact bodyPost_ret (v := .bool false) (by simp [results, Tryz.results62, go_sem]) rfl ⟨by rw [HN.out], HB.out⟩
 by_cases h5 : (0 : Int) ≤ b
 rotate_left 1
 ·
  have HN := Lib.hid (show decide (Rdg.ok ⟨a, b, c, d⟩) = false from decide_eq_false fun h => h5 h.2.1.1)
  go_wp2_with fail
  exact bodyPost_ret (v := .bool false) (by simp [results, Tryz.results62, go_sem]) rfl ⟨by rw [HN.out], HB.out⟩
 by_cases h6 : b < 256
 rotate_left 1
 ·
  have HN := Lib.hid (show decide (Rdg.ok ⟨a, b, c, d⟩) = false from decide_eq_false fun h => h6 h.2.1.2)
  go_wp2_with fail
  exact bodyPost_ret (v := .bool false) (by simp [results, Tryz.results62, go_sem]) rfl ⟨by rw [HN.out], HB.out⟩
 by_cases h7 : (0 : Int) ≤ d
 rotate_left 1
 ·
  have HN := Lib.hid (show decide (Rdg.ok ⟨a, b, c, d⟩) = false from decide_eq_false fun h => h7 h.2.2.2.1)
  go_wp2_with fail
  exact bodyPost_ret (v := .bool false) (by simp [results, Tryz.results62, go_sem]) rfl ⟨by rw [HN.out], HB.out⟩
 by_cases h8 : d < 256
 rotate_left 1
 ·
  have HN := Lib.hid (show decide (Rdg.ok ⟨a, b, c, d⟩) = false from decide_eq_false fun h => h8 h.2.2.2.2)
  go_wp2_with fail
  exact bodyPost_ret (v := .bool false) (by simp [results, Tryz.results62, go_sem]) rfl ⟨by rw [HN.out], HB.out⟩
 have HN := Lib.hid (show decide (Rdg.ok ⟨a, b, c, d⟩) = true from decide_eq_true ⟨⟨h1, h2⟩, ⟨h5, h6⟩, ⟨h3, h4⟩, ⟨h7, h8⟩⟩)
 go_wp2_with fail
 exact bodyPost_ret (v := .bool true) (by simp [results, Tryz.results62, go_sem]) rfl ⟨by rw [HN.out], HB.out⟩
end
end Go.Proofs.YtoiampgfnidfdaaGreatDoor
