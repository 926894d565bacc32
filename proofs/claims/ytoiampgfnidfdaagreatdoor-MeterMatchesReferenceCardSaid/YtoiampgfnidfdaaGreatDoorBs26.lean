/-
  What lies in a set of blocks of a world, and in every world that keeps these.
-/
import Derived.Test.YtoiampgfnidfdaaGreatDoorGu4
set_option maxRecDepth 100000
set_option maxHeartbeats 8000000
namespace Go.Proofs.YtoiampgfnidfdaaGreatDoor
open Go.RowKit
section
open Go.RowKit

theorem J5d : En Tryz.prog 101 := enters_of Tryz.func101 (by kernel_rfl) rfl
theorem J6g : En Tryz.prog 53 := enters_of Tryz.func53 (by kernel_rfl) rfl
def cdK (seed : Dg) (n k log j : Nat) : List E := coordM seed n k j ++ List.replicate (log - j) 0
theorem Jm2 (seed : Dg) (n k log j : Nat) (h : j ≤ log) : (cdK seed n k log j).length = log := by simp [cdK, coordM]; omega
theorem Jjq (seed : Dg) (n k log : Nat) : cdK seed n k log 0 = List.replicate log 0 := by simp [cdK, coordM]
theorem Jm3 (seed : Dg) (n k log : Nat) : cdK seed n k log log = coordM seed n k log := by simp [cdK]
theorem Jg5 (seed : Dg) (n k log j : Nat) (h : j < log) : (cdK seed n k log j)[j]? = some 0 := by
 unfold cdK
 rw [List.getElem?_append_right (by rw [J1n]; exact Nat.le_refl _), J1n, Nat.sub_self, List.getElem?_replicate, if_pos (by omega)]
theorem Jm4 (seed : Dg) (n k log j : Nat) (h : j < log) : (cdK seed n k log j).set j (cdE (keyD seed (cdB n k j))) = cdK seed n k log (j + 1) := by
 unfold cdK
 rw [List.set_append_right _ _ (by rw [J1n]; exact Nat.le_refl _), J1n, Nat.sub_self, Jav, show log - j = (log - (j + 1)) + 1 by omega, List.replicate_succ, List.set_cons_zero, List.append_assoc]
 rfl
theorem Jef {W : World} {g : Nat} {t : TypeId} {d : List Nat} (h : Blk W g t (byc d).toArray) (hd : d.length = 32) (o m c : Nat) (ho : o + m ≤ 32) (hc : m ≤ c) : ByS 0 W.heap.size W (.slice (some ⟨g, o, none⟩) m c) ((d.drop o).take m) := by
 have hl : ((d.drop o).take m).length = m := by rw [List.length_take, List.length_drop, hd]; omega
 refine ⟨by rw [J3]; omega, by omega, some ⟨g, o, none⟩, c, by rw [hl], by omega, fun _ => ⟨g, o, rfl, Nat.zero_le _, h.lt, h.lt, fun j u hu => ?_⟩⟩
 rw [h.cell]
 unfold byc at hu ⊢
 rw [List.getElem?_map, List.getElem?_take] at hu
 split at hu
 ·
  rw [List.getElem?_drop] at hu
  simpa using hu
 · cases hu
theorem Jg6 (key : Dg) (b : List Nat) : DgOk (keyD key b) := ⟨Js _, sha_lt _⟩
attribute [local irreducible] wpRg
theorem gCoords (seed : Dg) (hs : DgOk seed) (n k log : Nat) (hn : n ≤ 1000000) (hk : k ≤ 1000000) (hl : log ≤ 200) (w : World) (hL : Lsh w) : Calls Tryz.prog 53 #[dgv seed, .int .i64 (n : Int), .int .i64 (k : Int), .int .i64 (log : Int)] w (RetR (ExtA (coordM seed n k log)) w) := by
 obtain ⟨Sk, hSk⟩ : ∃ S, S = dgv seed := ⟨_, rfl⟩
 rw [← hSk]
 have HL := Lib.hid hL
 have HS := Lib.hid hs
 clear hL hs
 go_enter Tryz.func53, Tryz.ntmps53
 go_upto_region 1 with (fail)
 refine J13 fun W hB hz b4 => ?_
 have b4' : Blk W w.heap.size 23 (byc seed).toArray := by first | exact b4 | (rw [hSk] at b4; exact b4)
 have hWs : W.heap.size = w.heap.size + 1 := hz.out
 clear b4 hz hSk
 have mk := mk_ext log (by omega) W
 rw [hWs] at mk
 go_upto_region 2 with (fail)
 refine J13 fun X hX hXz b9 => ?_
 rw [hWs] at b9
 have hXs : X.heap.size = w.heap.size + 1 + 1 := by rw [hXz.out, hWs]
 have hBX := hB.trans (hX.mono hB.size)
 have b4X := b4'.keep hX
 have b90 : Blk X (w.heap.size + 1) 86 ((cdK seed n k log 0).flatMap ec).toArray := by rw [Jjq]; exact b9
 clear hXz mk b4' b9 hX hB hWs
 refine wp_region_lit ?_
 refine wpSk rfl (Jcz [112, 111, 105, 110, 116] rfl (by decide) (by decide) rfl (by simp [Act.eval, byc])) fun v15 w15 hh => ?_
 obtain ⟨rfl, s15, B15⟩ := hh
 try simp only [PutS]
 simp only [List.length_cons, List.length_nil, Nat.zero_add, Nat.reduceAdd] at s15
 refine wpSk rfl (Jbo s15 (by decide) rfl rfl) fun v16 w16 hh => ?_
 obtain ⟨rfl, s16, B16⟩ := hh
 try simp only [PutS]
 have B156 := B15.trans B16
 iterate 4 (refine wpList_plain rfl fun K hK => ?_; go_big_op; refine hK _ _ ?_; clear hK K)
 refine wpSk rfl (J4p [n % 256, k % 256] rfl (by simp) (by simp) rfl (by simp [Act.eval, byc])) fun v21 w21 hh => ?_
 obtain ⟨s21, B21⟩ := hh
 try simp only [PutS]
 have hz16 := B156.size
 refine wpSk rfl (Ja9 (l := [112, 111, 105, 110, 116]) rfl rfl (fun h => by cases h) rfl (s16.keep B21) s21 (by simp) (by decide) (by simp)) fun v22 w22 hh => ?_
 obtain ⟨o22, B22⟩ := hh
 try simp only [PutS]
 have B22' := (B156.trans (B21.mono hz16)).trans (B22.mono (by have := B21.size; omega))
 rw [show [112, 111, 105, 110, 116] ++ [n % 256, k % 256] = (cdB n k 0).take 7 from rfl] at o22
 obtain ⟨g10, c10, hv10, hc10, hm10, hg10, hg10b⟩ := o22.form (by simp [cdB])
 have hb8 : (cdB n k 0).take 7 = [112, 111, 105, 110, 116, n % 256, k % 256] := rfl
 rw [hb8] at o22 hv10 hc10
 simp only [List.length_cons, List.length_nil, Nat.zero_add, Nat.reduceAdd] at hv10 hc10
 subst hv10
 have b4c := b4X.keep B22'
 have b9c := b90.keep B22'
 have hBc := hBX.trans (B22'.mono hBX.size)
 have o10 : ByS (w.heap.size + 1 + 1) w22.heap.size w22 (.slice (some ⟨g10, 0, none⟩) 7 c10) [112, 111, 105, 110, 116, n % 256, k % 256] := (o22.bys (by simp)).wide (by have := B21.size; omega) (Nat.le_refl _)
 have hgw : w.heap.size + 1 < g10 := by have := B21.size; omega
 clear B15 B16 B156 B21 B22 B22' s15 s16 s21 o22 b4X b90 hBX hz16 hXs hg10
 try simp only [PutS]
 go_wp2_with fail
 obtain ⟨i32', h32, i320, i321, i322⟩ := info_parts J2b
 obtain ⟨T, hT⟩ : ∃ T, T = w22.heap.size := ⟨_, rfl⟩
 rw [← hT] at o10
 have hTw : w.heap.size + 1 < T := by omega
 clear hT hg10b
 go_loopw [25] (fun i wr => ∃ j : Nat, j ≤ log ∧ i = .int .i64 j ∧ Blk wr (w.heap.size + 1) 86 ((cdK seed n k log j).flatMap ec).toArray ∧ Blk wr w.heap.size 23 (byc seed).toArray ∧ ByS (w.heap.size + 1 + 1) T wr (.slice (some ⟨g10, 0, none⟩) 7 c10) [112, 111, 105, 110, 116, n % 256, k % 256] ∧ Below w.heap.size w wr) (fun i _ => log - (intOf i).toNat)
 case atStart => exact ⟨0, Nat.zero_le _, rfl, b9c, b4c, o10, hBc⟩
 case round =>
  clear b9c b4c o10 hBc
  obtain ⟨j, hj, rfl, b9, b4, o10, hBr⟩ := hrel
  by_cases hlt : j < log
  ·
   have hj8 : j % 256 = j := Nat.mod_eq_of_lt (by omega)
   have hlb : ([112, 111, 105, 110, 116, n % 256, k % 256] : List Nat).length = 7 := rfl
   have hb7 : ∀ x ∈ ([112, 111, 105, 110, 116, n % 256, k % 256] ++ [j % 256] : List Nat), x < 256 := by
    intro x hx
    simp only [List.cons_append, List.nil_append, List.mem_cons, List.not_mem_nil, or_false] at hx
    omega
   have HC7 := Lib.hid hb7
   have HE := Lib.hid (show ([112, 111, 105, 110, 116, n % 256, k % 256] ++ [j % 256] : List Nat) = cdB n k j from rfl)
   have h77 : ByS (w.heap.size + 1 + 1) T wr (.slice (some ⟨g10, 0, none⟩) 7 7) [112, 111, 105, 110, 116, n % 256, k % 256] := by
    obtain ⟨q1, q2, A, c, hv, q3, q4⟩ := o10
    cases hv
    exact ⟨q1, q2, _, 7, rfl, Nat.le_refl _, q4⟩
   have H77 := Lib.hid h77
   have hbl := b4.lt
   clear hb7 h77
   go_upto_region 6 with (fail)
   refine Jd 13 [(0, Spec.val (dgv seed)), (9, Spec.rel (ByA [j % 256]) AnyV), (10, Spec.rel (OwA ([112, 111, 105, 110, 116, n % 256, k % 256] ++ [j % 256])) AnyV), (11, Spec.val (dgv (keyD seed ([112, 111, 105, 110, 116, n % 256, k % 256] ++ [j % 256])))), (12, Spec.rel (New 23 (zb 32).toArray) (NewF))] (by kernel_rfl) (by kernel_rfl) (by kernel_rfl) ⟨fit_of (by_st), fit_of (ow_st), J8x, trivial⟩ ?_
   refine rg_val rfl rfl (fun W1 hW1 hF => Jf (cs := byc seed) Jg rfl (by rw [Jc, J3, HS.out.1]) rfl rfl (J4 (b4.keep (J8 hW1)))) ?_
   intro a' ha
   simp only [PutS] at ha
   subst ha
   iterate 8 (refine rg_det rfl rfl rfl (fun K hK => ?_); go_big_quiet_op; refine hK _ ?_; clear hK K)
   refine rg_rel rfl rfl (fun W1 hW1 hF => J4p [j % 256] rfl (by simp) (by simp) rfl (by simp [Act.eval, byc]; omega)) ?_
   intro n9 m9 v9 hn9 hm9 hd9 hf9 a' ha
   simp only [PutS] at ha
   subst ha
   refine rg_rel rfl rfl (fun W1 hW1 hF => Ja9 (l := [112, 111, 105, 110, 116, n % 256, k % 256]) rfl rfl (fun h => by cases h) rfl (H77.out.keep (J8 hW1)) (J1a hF (by kernel_rfl)).2 (by simp) (by simp) (by simp)) ?_
   intro n10 m10 v10 hn10 hm10 hd10 hf10 a' ha
   simp only [PutS] at ha
   subst ha
   refine rg_val rfl rfl (fun W1 hW1 hF => J7 J80 (gKeyed seed HS.out ([112, 111, 105, 110, 116, n % 256, k % 256] ++ [j % 256]) (by simp) HC7.out _ _ _ W1 (HL.out.keep (hBr.trans ((J8 hW1).mono hBr.size))) ((J1a hF (by kernel_rfl)).2.bys (by simp))) rfl rfl) ?_
   intro a' ha
   simp only [PutS] at ha
   subst ha
   refine rg_rel rfl rfl (fun W1 hW1 hF => J4m h32 i320 rfl) ?_
   intro n12 m12 v12 hn12 hm12 hd12 hf12 a' ha
   simp only [PutS] at ha
   subst ha
   obtain rfl := hf12
   refine rg_nil (fun w' hw' hF => ?_)
   obtain ⟨z, rfl⟩ := hw'
   simp only [List.drop_succ_cons, List.drop_zero]
   obtain ⟨hq12, -, hl12, bq⟩ := J30 hF
   rw [HE.out]
   obtain ⟨d, hd⟩ : ∃ d, d = keyD seed (cdB n k j) := ⟨_, rfl⟩
   have hdk : DgOk d := by rw [hd]; exact Jg6 _ _
   rw [← hd]
   have HD := Lib.hid hd
   clear hd
   refine J6 rfl 23 (.tmp 12) (.tmp 39) rfl rfl (cells := byc d) rfl bq (by rw [J3, hdk.1]; simp [zb]) (by rw [Jc, J3, hdk.1]) (Jw _) (Ja _ _ (by rw [J3, hdk.1]; simp [zb])) fun Y hY bY => ?_
   have hBwY : Below wr.heap.size wr Y := J2 z.h hY hn12
   have b9Y := b9.keep hBwY
   have b4Y := b4.keep hBwY
   have o10Y := Rd.keep o10 hBwY
   have hBY := hBr.trans (hBwY.mono hBr.size)
   have hgn : w.heap.size + 1 < n12 := by have := b9.lt; omega
   have hlY := bY.lt
   clear hF bq hY o10 b9 b4 hBr H77 HC7 hBwY hl12 hq12 hn12 hm12 hd12 hn9 hm9 hd9 hf9 hn10 hm10 hd10 hf10 hbl hlb
   try simp only [PutS]
   go_upto_region 7 with (fail)
   refine wp_region_lit ?_
   iterate 3 (refine wpList_plain rfl fun K hK => ?_; go_big_op; refine hK _ _ ?_; clear hK K)
   have y0 := Jef bY hdk.1 0 8 32 (by decide) (by decide)
   refine wpSk rfl (J7 J5d (gRead ((d.drop 0).take 8) (by simp [hdk.1]) (fun x hx => hdk.2 x (List.mem_of_mem_drop (List.mem_of_mem_take hx))) _ _ _ Y y0) rfl rfl) fun v43 w43 hh => ?_
   obtain ⟨rfl, B43⟩ := hh
   try simp only [PutS]
   rw [← Jc2 d 0 (by rw [hdk.1]; decide)]
   have hlt8 : le8 d 0 8 < 18446744073709551616 := le8_lt d hdk.2 0 8
   refine wpSk rfl (J7 J4k (gRedF (le8 d 0 8 : Nat) ⟨by omega, by omega⟩ w43) rfl rfl) fun v44 w44 hh => ?_
   obtain ⟨rfl, B44⟩ := hh
   try simp only [PutS]
   have B4 := B43.trans (B44.mono B43.size)
   have b9c := b9Y.keep B4
   have b4c := b4Y.keep B4
   have o10c := Rd.keep o10Y B4
   have bdc := bY.keep B4
   have hBc := hBY.trans (B4.mono hBY.size)
   obtain ⟨s1, s2⟩ := Jhi b9c (Jg5 seed n k log j hlt)
   have e9 := b9c.frozen
   have hl9 := b9c.lt
   have hld := bdc.lt
   clear B43 B44 B4 b9Y b4Y o10Y bY hBY y0 hlt8 hlY
   go_upto_region 8 with (fail)
   obtain ⟨x0, hx0⟩ : ∃ x, x = fz ((le8 d 0 8 : Nat) : Int) := ⟨_, rfl⟩
   rw [← hx0]
   refine set1 (M := fun W => Code.wp _ _ _ _ W) b9c fun Z hZ bZ => ?_
   have b4Z := hZ.blk b4c (by omega)
   have bdZ := hZ.blk bdc (by omega)
   have hBZ := J2 hBc hZ (by omega)
   have o10Z : ByS (w.heap.size + 1 + 1) T Z (.slice (some ⟨g10, 0, none⟩) 7 c10) [112, 111, 105, 110, 116, n % 256, k % 256] := o10c.other (Nat.le_of_eq hZ.size.symm) fun g h1 _ _ => hZ.other g (by omega)
   clear b4c bdc hBc o10c hZ b9c s1 e9 hl9 hld
   refine wp_region_lit ?_
   iterate 3 (refine wpList_plain rfl fun K hK => ?_; go_big_op; refine hK _ _ ?_; clear hK K)
   have y8 := Jef bdZ hdk.1 8 8 24 (by decide) (by decide)
   refine wpSk rfl (J7 J5d (gRead ((d.drop 8).take 8) (by simp [hdk.1]) (fun x hx => hdk.2 x (List.mem_of_mem_drop (List.mem_of_mem_take hx))) _ _ _ Z y8) rfl rfl) fun v50 w50 hh => ?_
   obtain ⟨rfl, B50⟩ := hh
   try simp only [PutS]
   rw [← Jc2 d 8 (by rw [hdk.1]; decide)]
   have hlt8 : le8 d 8 8 < 18446744073709551616 := le8_lt d hdk.2 8 8
   refine wpSk rfl (J7 J4k (gRedF (le8 d 8 8 : Nat) ⟨by omega, by omega⟩ w50) rfl rfl) fun v51 w51 hh => ?_
   obtain ⟨rfl, B51⟩ := hh
   try simp only [PutS]
   have B5 := B50.trans (B51.mono B50.size)
   have b9c := bZ.keep B5
   have b4c := b4Z.keep B5
   have o10c := Rd.keep o10Z B5
   have hBc := hBZ.trans (B5.mono hBZ.size)
   have s2' : w51.cell? ⟨w.heap.size + 1, j * 2 + 1, none⟩ = some (.int .u64 0) := by
    rw [b9c.cell]
    simp
    exact J1l ec_len _ j 1 0 _ (Jg5 seed n k log j hlt) rfl
   have e9 := b9c.frozen
   have hl9 := b9c.lt
   clear B50 B51 B5 bZ b4Z o10Z bdZ hBZ y8 hlt8 s2
   go_upto_region 9 with (fail)
   obtain ⟨x1, hx1⟩ : ∃ x, x = fz ((le8 d 8 8 : Nat) : Int) := ⟨_, rfl⟩
   rw [← hx1]
   refine set1 (M := fun W => Code.wp _ _ _ _ W) b9c fun Z2 hZ2 bZ2 => ?_
   have hx : (⟨x0, x1⟩ : E) = cdE (keyD seed (cdB n k j)) := by rw [hx0, hx1, ← HD.out]; rfl
   have b9n : Blk Z2 (w.heap.size + 1) 86 ((cdK seed n k log (j + 1)).flatMap ec).toArray := by
    rw [← Jm4 seed n k log j hlt, ← hx, ← Jb3 (⟨x0, x1⟩ : E) _ j (by rw [Jm2 seed n k log j (by omega)]; exact hlt)]
    simpa using bZ2
   have b4n := hZ2.blk b4c (by omega)
   have hBn := J2 hBc hZ2 (by omega)
   have o10n : ByS (w.heap.size + 1 + 1) T Z2 (.slice (some ⟨g10, 0, none⟩) 7 c10) [112, 111, 105, 110, 116, n % 256, k % 256] := o10c.other (Nat.le_of_eq hZ2.size.symm) fun g h1 _ _ => hZ2.other g (by omega)
   clear hx hx0 hx1 bZ2 b9c b4c hBc o10c hZ2 s2' e9
   go_wp2_with fail
   exact ⟨⟨j + 1, by omega, by go_num, b9n, b4n, o10n, hBn⟩, by simp [intOf]; omega⟩
  ·
   obtain rfl : j = log := by omega
   rw [Jm3] at b9
   go_wp2_with fail
   refine bodyPost_ret (v := .slice (some ⟨w.heap.size + 1, 0, none⟩) j j) (by simp [results, Tryz.results53, go_sem]) rfl ⟨_, rfl, ?_, hBr⟩
   have hlen := J1n seed n k j
   have hw := b9.lt
   refine ⟨by rw [hlen, Jz ec_len, hlen], by rw [hlen]; omega, _, j, by rw [hlen], by rw [hlen]; exact Nat.le_refl _, fun _ => ⟨_, 0, rfl, by omega, hw, hw, fun i u hu => ?_⟩⟩
   rw [Nat.zero_add, b9.cell]
   simpa using hu
end
section
open Go.RowKit

theorem J3p : En Tryz.prog 90 := enters_of Tryz.func90 (by kernel_rfl) rfl
theorem J2s : En Tryz.prog 43 := enters_of Tryz.func43 (by kernel_rfl) rfl
theorem Jy {w : World} {base n size : Nat} {e : TypeId} {v : Value} {cs : List Value} (h : w.ownsRow base e size v n cs) : ∃ A cap, v = .slice A n cap := by
 rcases h.2 with ⟨rfl, h2⟩ | ⟨g, cap, cur, rfl, _⟩
 · exact ⟨none, 0, by rw [h2]⟩
 · exact ⟨_, _, rfl⟩
theorem Jjr (l : List Nat) (i x : Nat) (hx : l[i]? = some x) : leN (l.take (i + 1)) = leN (l.take i) + 256 ^ i * x := by
 have hi := (List.getElem?_eq_some_iff.1 hx).1
 rw [List.take_add_one, hx]
 simp only [Option.toList_some]
 rw [Jee, List.length_take, Nat.min_eq_left (by omega)]
theorem Ji5 (y x j : Nat) (hy : y < 256 ^ j) (hx : x < 256) (hj : 256 ^ j ≤ 72057594037927936) : IntKind.u64.wrap ((y : Int) + IntKind.u64.wrap ((x : Int) * 2 ^ (8 * j))) = ((y + 256 ^ j * x : Nat) : Int) := by
 have h1 : (2 : Int) ^ (8 * j) = ((256 ^ j : Nat) : Int) := by
  rw [Int.pow_mul]
  simp
 rw [h1]
 generalize 256 ^ j = p at *
 have h2 : (x : Int) * (p : Int) = ((p * x : Nat) : Int) := by rw [Int.natCast_mul, Int.mul_comm]
 have h3 : p * x ≤ p * 255 := Nat.mul_le_mul_left _ (by omega)
 rw [h2]
 generalize p * x = q at *
 rw [IntWalk.u64_in (q : Int) (by omega), IntWalk.u64_in _ (by omega)]
 omega
attribute [local irreducible] wpRg
theorem rWord26 (d : Dg) (hd : DgOk d) (o : Nat) (ho : o ≤ 24) (w : World) : Calls Tryz.prog 90 #[dgv d, .int .i64 (o : Int)] w (Ret (.int .u64 (le8 d o 8 : Nat)) w) := by
 obtain ⟨S, hS⟩ : ∃ S, S = dgv d := ⟨_, rfl⟩
 rw [← hS]
 have HD := Lib.hid hd
 have hdl := hd.1
 have HE := Lib.hid (Jc2 d o (by omega))
 clear hd
 go_enter Tryz.func90, Tryz.ntmps90
 go_upto_region 1 with (fail)
 refine J13 fun W hB hz b2 => ?_
 have b2' : Blk W w.heap.size 23 (byc d).toArray := by first | exact b2 | (rw [hS] at b2; exact b2)
 clear b2 hz hS
 go_wp2_with fail
 go_loopw [5, 6] (fun u i wr => ∃ j : Nat, j ≤ 8 ∧ i = .int .i64 j ∧ u = .int .u64 (leN ((d.drop o).take j) : Nat) ∧ Blk wr w.heap.size 23 (byc d).toArray ∧ Below w.heap.size w wr) (fun _ i _ => 8 - (intOf i).toNat)
 case atStart => exact ⟨0, Nat.zero_le _, rfl, rfl, b2', hB⟩
 case round =>
  clear b2' hB
  obtain ⟨j, hj, rfl, rfl, b2, hBr⟩ := hrel
  by_cases hlt : j < 8
  ·
   obtain ⟨x, hx⟩ : ∃ x, d[o + j]? = some x := ⟨d[o + j]'(by omega), List.getElem?_eq_getElem (by omega)⟩
   have hx8 := HD.out.2 x (List.mem_of_getElem? hx)
   have c1 : wr.cell? ⟨w.heap.size, o + j, none⟩ = some (.int .u8 (x : Int)) := by rw [b2.cell]; simp [byc, hx]
   have hbl := b2.lt
   have HN := Lib.hid (Jjr (d.drop o) j x (by rw [List.getElem?_drop, hx]))
   have hle : leN ((d.drop o).take j) < 256 ^ j := by
    have := leN_lt ((d.drop o).take j) (fun y hy => HD.out.2 y (List.mem_of_mem_drop (List.mem_of_mem_take hy)))
    rwa [List.length_take, List.length_drop, hdl, Nat.min_eq_left (by omega)] at this
   generalize leN ((d.drop o).take j) = y at *
   clear hx
   have h256 : 256 ^ j ≤ 72057594037927936 := Nat.le_trans (Nat.pow_le_pow_right (by decide) (show j ≤ 7 by omega)) (by decide)
   have HW := Lib.hid (Ji5 y x j hle hx8 h256)
   clear hle h256
   go_wp2_with fail
   rw [HW.out]
   exact ⟨⟨j + 1, by omega, by go_num, by rw [HN.out], b2, hBr⟩, by simp [intOf]; omega⟩
  ·
   obtain rfl : j = 8 := by omega
   rw [← HE.out]
   go_wp2_with fail
   exact bodyPost_ret (v := .int .u64 (le8 d o 8 : Nat)) (by simp [results, Tryz.results90, go_sem]) rfl ⟨rfl, hBr⟩
theorem rCoords (seed : Dg) (hs : DgOk seed) (n k log : Nat) (hn : n ≤ 1000000) (hk : k ≤ 1000000) (hl : log ≤ 200) (w : World) : Calls Tryz.prog 43 #[dgv seed, .agg #[.int .i64 (n : Int), .int .i64 (k : Int)], .int .i64 (log : Int)] w (RetR (ExtA (coordM seed n k log)) w) := by
 obtain ⟨Sk, hSk⟩ : ∃ S, S = dgv seed := ⟨_, rfl⟩
 rw [← hSk]
 have HS := Lib.hid hs
 clear hs
 obtain ⟨i0, hi0, iz0, iz1, iz2⟩ := info_parts J6n
 obtain ⟨i32', h32, i320, i321, i322⟩ := info_parts J2b
 go_enter Tryz.func43, Tryz.ntmps43
 go_upto_region 1 with (fail)
 refine J1h fun W hB hz b3 b4 => ?_
 have b3' : Blk W w.heap.size 23 (byc seed).toArray := by first | exact b3 | (rw [hSk] at b3; exact b3)
 have hWs : W.heap.size = w.heap.size + 1 + 1 := hz.out
 clear b3 hz hSk
 go_wp2_with fail
 go_loopw [7, 8] (fun u i wr => ∃ j : Nat, j ≤ log ∧ i = .int .i64 j ∧ wr.ownsRow (w.heap.size + 1 + 1) 86 2 u (coordM seed n k j).length ((coordM seed n k j).flatMap ec) ∧ Blk wr w.heap.size 23 (byc seed).toArray ∧ Blk wr (w.heap.size + 1) 92 #[.int .i64 (n : Int), .int .i64 (k : Int)] ∧ Below w.heap.size w wr) (fun _ i _ => log - (intOf i).toNat)
 case atStart =>
  refine ⟨0, Nat.zero_le _, rfl, ⟨rfl, .inr ⟨w.heap.size + 1 + 1, 0, #[], rfl, Nat.le_refl _, ?_, Nat.le_refl _, by simp, rfl, by simp [coordM]⟩⟩, b3'.below ((Below.refl _ W).alloc (Nat.le_refl _) _) b3'.lt, b4.below ((Below.refl _ W).alloc (Nat.le_refl _) _) b4.lt, hB.trans ((Below.refl _ W).alloc (by omega) _)⟩
  have := World.alloc_heap_new W (.cells #[] 86)
  rwa [hWs] at this
 case round =>
  clear b3' b4 hB hWs
  obtain ⟨j, hj, rfl, hown, b3, b4, hBr⟩ := hrel
  by_cases hlt : j < log
  ·
   have c1 := b4.cell
   have h4l := b4.lt
   go_upto_region 5 with (fail)
   refine wp_region_lit ?_
   refine wpSk rfl (Jcz [112, 111, 105, 110, 116] rfl (by decide) (by decide) rfl (by simp [Act.eval, byc])) fun v17 w17 hh => ?_
   obtain ⟨rfl, s17, B17⟩ := hh
   try simp only [PutS]
   simp only [List.length_cons, List.length_nil, Nat.zero_add, Nat.reduceAdd] at s17
   refine wpSk rfl (Jbo s17 (by decide) rfl rfl) fun v18 w18 hh => ?_
   obtain ⟨rfl, s18, B18⟩ := hh
   try simp only [PutS]
   have B178 := B17.trans B18
   have b4w := b4.keep B178
   clear c1
   have c1 := b4w.cell
   iterate 8 (refine wpList_plain rfl fun K hK => ?_; go_big_op; refine hK _ _ ?_; clear hK K)
   refine wpSk rfl (J4p [n % 256, k % 256, j % 256] rfl (by simp) (by simp) rfl (by simp [Act.eval, byc]; omega)) fun v27 w27 hh => ?_
   obtain ⟨s27, B27⟩ := hh
   try simp only [PutS]
   have hz := B178.size
   have hz7 := B27.size
   refine wpSk rfl (Ja9 (l := [112, 111, 105, 110, 116]) rfl rfl (fun h => by cases h) rfl (s18.keep B27) s27 (by simp) (by decide) (by simp)) fun v28 w28 hh => ?_
   obtain ⟨o28, B28⟩ := hh
   try simp only [PutS]
   have B5 := (B178.trans (B27.mono hz)).trans (B28.mono (by omega))
   rw [show [112, 111, 105, 110, 116] ++ [n % 256, k % 256, j % 256] = cdB n k j from rfl] at o28
   have s28 := o28.bys (by simp [cdB])
   obtain ⟨A28, c28, hv28, -, -, -⟩ := o28.form (by simp [cdB])
   subst hv28
   have hb8 : ∀ x ∈ cdB n k j, x < 256 := by
    intro x hx
    simp only [cdB, List.cons_append, List.nil_append, List.mem_cons, List.not_mem_nil, or_false] at hx
    omega
   have hlen8 : (cdB n k j).length = 8 := rfl
   have hownB := Jq hown (Nat.le_refl _) B5
   have b3B := b3.keep B5
   have b4B := b4.keep B5
   have hBB := hBr.trans (B5.mono hBr.size)
   clear hown b3 b4 hBr B17 B18 B178 B27 B28 B5 s17 s18 s27 o28 hz hz7 c1 b4w
   try simp only [PutS]
   go_upto_region 6 with (fail)
   refine wp_region_lit ?_
   refine wpSk rfl (J1 (cs := byc seed) Jg rfl (by rw [Jc, J3, HS.out.1]) rfl rfl (J4 b3B)) fun v29 w29 hh => ?_
   obtain ⟨rfl, rfl⟩ := hh
   try simp only [PutS]
   refine wpList_plain rfl fun K hK => ?_; go_big_op; refine hK _ _ ?_; clear hK K
   refine wpSk rfl (J7 J62 (rKeyed seed HS.out (cdB n k j) (by rw [hlen8]; decide) hb8 _ _ _ w29 s28) rfl rfl) fun v31 w31 hh => ?_
   obtain ⟨rfl, B31⟩ := hh
   try simp only [PutS]
   obtain ⟨d, hd⟩ : ∃ d, d = keyD seed (cdB n k j) := ⟨_, rfl⟩
   have hdk : DgOk d := by rw [hd]; exact Jg6 _ _
   rw [← hd]
   have HD := Lib.hid hd
   clear hd
   refine wpSk rfl (Jl h32 i320 rfl) fun v10 w10 hh => ?_
   obtain ⟨rfl, rfl⟩ := hh
   try simp only [PutS]
   have c10 : Blk (w31.alloc (.cells (Value.agg (zb 32).toArray).cells 23)) w31.heap.size 23 (zb 32).toArray := World.alloc_heap_new w31 _
   have BA := B31.trans ((Below.refl _ w31).alloc B31.size (.cells (Value.agg (zb 32).toArray).cells 23))
   obtain ⟨g10, hg10⟩ : ∃ g, g = w31.heap.size := ⟨_, rfl⟩
   rw [← hg10] at c10 ⊢
   refine J6 rfl 23 (.tmp 10) (.tmp 31) rfl rfl (cells := byc d) rfl c10 (by rw [J3, hdk.1]; simp [zb]) (by rw [Jc, J3, hdk.1]) (Jw _) (Ja _ _ (by rw [J3, hdk.1]; simp [zb])) fun Y hY bY => ?_
   have BY : Below w29.heap.size w29 Y := J2 BA hY (by have := B31.size; omega)
   have hownY := Jq hownB (Nat.le_refl _) BY
   have b3Y := b3B.keep BY
   have b4Y := b4B.keep BY
   have hBY := hBB.trans (BY.mono hBB.size)
   clear hownB b3B b4B hBB B31 BA c10 hY BY hg10 s28 hb8
   obtain ⟨A7, c7, rfl⟩ := Jy hownY
   try simp only [PutS]
   go_upto_region 7 with (fail)
   refine Jd 9 [(1, Spec.val (dgv d)), (2, Spec.val (.int .u64 (le8 d 0 8 : Nat))), (3, Spec.val (.int .u64 (fv (fz (le8 d 0 8 : Nat))))), (4, Spec.val (dgv d)), (5, Spec.val (.int .u64 (le8 d 8 8 : Nat))), (6, Spec.val (.int .u64 (fv (fz (le8 d 8 8 : Nat))))), (8, Spec.rel (Lit 86 1 #[.int .u64 (fv (fz (le8 d 0 8 : Nat))), .int .u64 (fv (fz (le8 d 8 8 : Nat)))]) (LitF 1))] (by kernel_rfl) (by kernel_rfl) (by kernel_rfl) ⟨J8w, trivial⟩ ?_
   refine rg_det rfl rfl rfl (fun K hK => ?_)
   go_big_quiet_op
   refine hK _ ?_; clear hK K
   refine rg_val rfl rfl (fun W1 hW1 hF => Jf (cs := byc d) Jg rfl (by rw [Jc, J3, hdk.1]) rfl rfl (J4 (bY.keep (J8 hW1)))) ?_
   intro a' ha
   simp only [PutS] at ha
   subst ha
   refine rg_val rfl rfl (fun W1 hW1 hF => J7 J3p (rWord26 d hdk 0 (by decide) W1) rfl rfl) ?_
   intro a' ha
   simp only [PutS] at ha
   subst ha
   refine rg_val rfl rfl (fun W1 hW1 hF => J7 J3c (rRedF (le8 d 0 8 : Nat) ⟨by omega, by have := le8_lt d hdk.2 0 8; omega⟩ W1) rfl rfl) ?_
   intro a' ha
   simp only [PutS] at ha
   subst ha
   refine rg_val rfl rfl (fun W1 hW1 hF => Jf (cs := byc d) Jg rfl (by rw [Jc, J3, hdk.1]) rfl rfl (J4 (bY.keep (J8 hW1)))) ?_
   intro a' ha
   simp only [PutS] at ha
   subst ha
   refine rg_val rfl rfl (fun W1 hW1 hF => J7 J3p (rWord26 d hdk 8 (by decide) W1) rfl rfl) ?_
   intro a' ha
   simp only [PutS] at ha
   subst ha
   refine rg_val rfl rfl (fun W1 hW1 hF => J7 J3c (rRedF (le8 d 8 8 : Nat) ⟨by omega, by have := le8_lt d hdk.2 8 8; omega⟩ W1) rfl rfl) ?_
   intro a' ha
   simp only [PutS] at ha
   subst ha
   refine rg_det rfl rfl rfl (fun K hK => ?_)
   go_big_quiet_op
   refine hK _ ?_; clear hK K
   refine rg_rel rfl rfl (fun W1 hW1 hF => J15 Tryz.underlying78 hi0 iz0 iz1 (by decide) (by decide) rfl rfl rfl) ?_
   intro n8 m8 v8 hn8 hm8 hd8 hf8 a' ha
   simp only [PutS] at ha
   subst ha
   obtain rfl := hf8
   refine rg_nil (fun w' hw' hF => ?_)
   obtain ⟨z, rfl⟩ := hw'
   simp only [List.drop_succ_cons, List.drop_zero]
   obtain ⟨-, -, hl8, bl⟩ := J30 hF
   have hownz := Jq hownY (Nat.le_refl _) z.h
   have b3z := b3Y.keep z.h
   have b4z := b4Y.keep z.h
   have hBz := hBY.trans (z.h.mono hBY.size)
   have hsz : w.heap.size + 1 + 1 ≤ z.w.heap.size := by have := b4z.lt; omega
   clear hF hownY b3Y b4Y hBY
   refine Jaq rfl _ _ rfl Tryz.underlying78 hi0 iz0 iz1 iz2 rfl (by decide) (cl := ec (cdE d)) rfl (ec_one _) rfl rfl hownz bl (by rw [J1n]; unfold maxLen; omega) (by rw [J1n]; omega) hsz fun v41 w41 hown3 hgrow hB3 => ?_
   have hcs : coordM seed n k (j + 1) = coordM seed n k j ++ [cdE d] := by rw [Jav, HD.out]
   have hown4 : w41.ownsRow (w.heap.size + 1 + 1) 86 2 v41 (coordM seed n k (j + 1)).length ((coordM seed n k (j + 1)).flatMap ec) := by
    rw [hcs, List.flatMap_append, List.length_append]
    simpa using hown3
   have b34 := b3z.below hB3 (by omega)
   have b44 := b4z.below hB3 (by omega)
   have hB4 := hBz.trans (hB3.mono (by omega))
   clear hownz b3z b4z hBz hown3 hgrow hB3 hcs
   try simp only [PutS]
   go_wp2_with fail
   exact ⟨⟨j + 1, by omega, by go_num, hown4, b34, b44, hB4⟩, by simp [intOf]; omega⟩
  ·
   obtain rfl : j = log := by omega
   obtain ⟨A7, c7, rfl⟩ := Jy hown
   go_wp2_with fail
   refine bodyPost_ret (v := .slice A7 (coordM seed n k j).length c7) (by simp [results, Tryz.results43, go_sem]) rfl ⟨_, rfl, ?_, hBr⟩
   exact (Jf2 hown rfl (by rw [J1n]; omega) (Nat.le_refl _)).wide (by omega) (Nat.le_refl _)
end

theorem J49 : (Tryz.prog.info? 75).map (fun i => (i.zero, i.size, i.bytes)) = some (some (.agg #[.int .i64 0, .int .i64 0, .bool false, .slice none 0 0, .slice none 0 0]), 5, 72) := by kernel_rfl
theorem J5w : (Tryz.prog.info? 80).map (fun i => (i.zero, i.size, i.bytes)) = some (some (.agg #[.slice none 0 0, .slice none 0 0, .bool false]), 3, 56) := by kernel_rfl
def OwR (e : TypeId) (size n : Nat) (cs : List Value) (lo hi : Nat) (v : Value) (w : World) : Prop := w.ownsRow lo e size v n cs ∧ ∀ g, v.ownBlock = some g → g < hi
theorem own_a {e : TypeId} {size n base : Nat} {cs : List Value} {v : Value} {w : World} (h : w.ownsRow base e size v n cs) : OwR e size n cs base w.heap.size v w := ⟨h, fun _ hg => (Jk h hg).2⟩
theorem J93 {lo hi size n cap : Nat} {w : World} {cs : List Value} (h : Rd lo hi size w (.slice none n cap) n cs) : n = 0 ∧ cs = [] := by
 obtain ⟨h1, h2, A, c', h3, h4, h5⟩ := h
 cases h3
 rcases Nat.eq_zero_or_pos n with h0 | h0
 ·
  subst h0
  exact ⟨rfl, List.eq_nil_of_length_eq_zero (by rw [h1]; omega)⟩
 ·
  obtain ⟨g, off, q, _⟩ := h5 h0
  cases q
theorem gCloneEp (n : Nat) (cs : List Value) (hn : n ≤ 1000000) (h1 : ∀ u ∈ cs, u.oneCell' = true) (v : Value) (lo hi : Nat) (w : World) (h : Rd lo hi 5 w v n cs) : Calls Tryz.prog 97 #[v] w (RetR (OwR 75 5 n cs) w) := by
 obtain ⟨A, cap, rfl⟩ := Rd.len h
 have HV := Lib.hid h
 have H1 := Lib.hid h1
 clear h h1
 obtain ⟨i0, hi0, iz0, iz1, iz2⟩ := info_parts J49
 have q22 : ∀ (w : World) (a : Option Addr) (n c n' c' : Nat), (binOp .eql 33 (.slice a n c) (.slice none n' c')).run Tryz.prog w = .ok (.bool a.isNone) w := fun w a n c n' c' => Lib.run_eql_slice_nil w _ _ a n c n' c' Tryz.underlying33
 go_enter Tryz.func97, Tryz.ntmps97
 cases A with
 | none =>
  obtain ⟨rfl, rfl⟩ := J93 HV.out
  go_wp2_with fail
  refine bodyPost_ret (v := .slice none 0 0) (by simp [results, Tryz.results97, go_sem]) rfl ⟨_, rfl, ⟨⟨rfl, .inl ⟨rfl, rfl⟩⟩, fun g hg => by cases hg⟩, Below.refl _ _⟩
 | some a =>
  go_upto_region 3 with (fail)
  refine wp_region_lit ?_
  refine wpSk rfl (J2w Tryz.underlying33 hi0 iz0 rfl) fun v0 w1 hh => ?_
  obtain ⟨⟨rfl, hl1, b1⟩, B1⟩ := hh
  try simp only [PutS]
  refine wpList_plain rfl fun K hK => ?_; go_big_op; refine hK _ _ ?_; clear hK K
  refine J21 rfl _ _ rfl Tryz.underlying33 hi0 iz0 iz1 iz2 rfl (by decide) (cl := cs) (base := w.heap.size) (cs := []) (k := 0) H1.out rfl rfl (Rd.keep HV.out B1) ⟨rfl, .inr ⟨w.heap.size, 0, #[], rfl, Nat.le_refl _, b1, Nat.le_refl _, Nat.zero_le _, rfl, rfl⟩⟩ (by unfold maxLen; omega) (by omega) B1.size fun v3 w3 o3 _ B3 => ?_
  rw [Nat.zero_add, List.nil_append] at o3
  have B4 := B1.trans B3
  clear B1 B3 b1
  obtain ⟨A3, c3, rfl⟩ := Jy o3
  have HO := Lib.hid o3
  clear o3
  go_wp2_with fail
  exact bodyPost_ret (v := .slice A3 n c3) (by simp [results, Tryz.results97, go_sem]) rfl ⟨_, rfl, own_a HO.out, B4⟩
theorem gClonePt (n : Nat) (cs : List Value) (hn : n ≤ 1000000) (h1 : ∀ u ∈ cs, u.oneCell' = true) (v : Value) (lo hi : Nat) (w : World) (h : Rd lo hi 3 w v n cs) : Calls Tryz.prog 98 #[v] w (RetR (OwR 80 3 n cs) w) := by
 obtain ⟨A, cap, rfl⟩ := Rd.len h
 have HV := Lib.hid h
 have H1 := Lib.hid h1
 clear h h1
 obtain ⟨i0, hi0, iz0, iz1, iz2⟩ := info_parts J5w
 have q22 : ∀ (w : World) (a : Option Addr) (n c n' c' : Nat), (binOp .eql 72 (.slice a n c) (.slice none n' c')).run Tryz.prog w = .ok (.bool a.isNone) w := fun w a n c n' c' => Lib.run_eql_slice_nil w _ _ a n c n' c' Tryz.underlying72
 go_enter Tryz.func98, Tryz.ntmps98
 cases A with
 | none =>
  obtain ⟨rfl, rfl⟩ := J93 HV.out
  go_wp2_with fail
  refine bodyPost_ret (v := .slice none 0 0) (by simp [results, Tryz.results98, go_sem]) rfl ⟨_, rfl, ⟨⟨rfl, .inl ⟨rfl, rfl⟩⟩, fun g hg => by cases hg⟩, Below.refl _ _⟩
 | some a =>
  go_upto_region 3 with (fail)
  refine wp_region_lit ?_
  refine wpSk rfl (J2w Tryz.underlying72 hi0 iz0 rfl) fun v0 w1 hh => ?_
  obtain ⟨⟨rfl, hl1, b1⟩, B1⟩ := hh
  try simp only [PutS]
  refine wpList_plain rfl fun K hK => ?_; go_big_op; refine hK _ _ ?_; clear hK K
  refine J21 rfl _ _ rfl Tryz.underlying72 hi0 iz0 iz1 iz2 rfl (by decide) (cl := cs) (base := w.heap.size) (cs := []) (k := 0) H1.out rfl rfl (Rd.keep HV.out B1) ⟨rfl, .inr ⟨w.heap.size, 0, #[], rfl, Nat.le_refl _, b1, Nat.le_refl _, Nat.zero_le _, rfl, rfl⟩⟩ (by unfold maxLen; omega) (by omega) B1.size fun v3 w3 o3 _ B3 => ?_
  rw [Nat.zero_add, List.nil_append] at o3
  have B4 := B1.trans B3
  clear B1 B3 b1
  obtain ⟨A3, c3, rfl⟩ := Jy o3
  have HO := Lib.hid o3
  clear o3
  go_wp2_with fail
  exact bodyPost_ret (v := .slice A3 n c3) (by simp [results, Tryz.results98, go_sem]) rfl ⟨_, rfl, own_a HO.out, B4⟩
theorem gCloneEx (n : Nat) (cs : List Value) (hn : n ≤ 1000000) (h1 : ∀ u ∈ cs, u.oneCell' = true) (v : Value) (lo hi : Nat) (w : World) (h : Rd lo hi 2 w v n cs) : Calls Tryz.prog 84 #[v] w (RetR (OwR 86 2 n cs) w) := by
 obtain ⟨A, cap, rfl⟩ := Rd.len h
 have HV := Lib.hid h
 have H1 := Lib.hid h1
 clear h h1
 obtain ⟨i0, hi0, iz0, iz1, iz2⟩ := info_parts J6n
 have q22 : ∀ (w : World) (a : Option Addr) (n c n' c' : Nat), (binOp .eql 78 (.slice a n c) (.slice none n' c')).run Tryz.prog w = .ok (.bool a.isNone) w := fun w a n c n' c' => Lib.run_eql_slice_nil w _ _ a n c n' c' Tryz.underlying78
 go_enter Tryz.func84, Tryz.ntmps84
 cases A with
 | none =>
  obtain ⟨rfl, rfl⟩ := J93 HV.out
  go_wp2_with fail
  refine bodyPost_ret (v := .slice none 0 0) (by simp [results, Tryz.results84, go_sem]) rfl ⟨_, rfl, ⟨⟨rfl, .inl ⟨rfl, rfl⟩⟩, fun g hg => by cases hg⟩, Below.refl _ _⟩
 | some a =>
  go_upto_region 3 with (fail)
  refine wp_region_lit ?_
  refine wpSk rfl (J2w Tryz.underlying78 hi0 iz0 rfl) fun v0 w1 hh => ?_
  obtain ⟨⟨rfl, hl1, b1⟩, B1⟩ := hh
  try simp only [PutS]
  refine wpList_plain rfl fun K hK => ?_; go_big_op; refine hK _ _ ?_; clear hK K
  refine J21 rfl _ _ rfl Tryz.underlying78 hi0 iz0 iz1 iz2 rfl (by decide) (cl := cs) (base := w.heap.size) (cs := []) (k := 0) H1.out rfl rfl (Rd.keep HV.out B1) ⟨rfl, .inr ⟨w.heap.size, 0, #[], rfl, Nat.le_refl _, b1, Nat.le_refl _, Nat.zero_le _, rfl, rfl⟩⟩ (by unfold maxLen; omega) (by omega) B1.size fun v3 w3 o3 _ B3 => ?_
  rw [Nat.zero_add, List.nil_append] at o3
  have B4 := B1.trans B3
  clear B1 B3 b1
  obtain ⟨A3, c3, rfl⟩ := Jy o3
  have HO := Lib.hid o3
  clear o3
  go_wp2_with fail
  exact bodyPost_ret (v := .slice A3 n c3) (by simp [results, Tryz.results84, go_sem]) rfl ⟨_, rfl, own_a HO.out, B4⟩
section
open Go.RowKit

theorem J3u : En Tryz.prog 66 := enters_of Tryz.func66 (by kernel_rfl) rfl
theorem J2e : En Tryz.prog 50 := enters_of Tryz.func50 (by kernel_rfl) rfl
structure MtN (m : Mt) : Prop where
 seed : DgOk m.seed
 ver : m.ver < 9223372036854775808
 eps : m.eps.length ≤ 1000
 ep : ∀ (i : Nat) e, m.eps[i]? = some e → e.pts.length ≤ 1000 ∧ e.log ≤ 16 ∧ e.count ≤ 65536 ∧ e.peaks.length ≤ 1000
theorem Jaw {m : Mt} (h : 0 < m.eps.length) : m.isOpen = !(m.at (m.eps.length - 1)).closed := by
 unfold Mt.isOpen
 rw [List.getLast?_eq_getElem?, at_get m (m.eps.length - 1) (by omega)]
theorem Jax {m : Mt} (h : m.eps.length = 0) : m.isOpen = false := by
 unfold Mt.isOpen
 rw [List.getLast?_eq_getElem?, List.getElem?_eq_none (by omega)]
attribute [local irreducible] wpRg
theorem gFind (m : Mt) (hN : MtN m) (vE : Value) (n : Int) (w : World) (hE : EpsA w vE m.eps) : Calls Tryz.prog 66 #[mtV m vE, .int .i64 n] w (Ret (.bool (decide (0 ≤ n) && decide (n < m.eps.length))) w) := by
 obtain ⟨S, hS⟩ : ∃ S, S = mtV m vE := ⟨_, rfl⟩
 rw [← hS]
 have HN := Lib.hid hN
 have HE := Lib.hid hE
 obtain ⟨A, cap, rfl⟩ := hE.len
 have hml := hN.eps
 clear hN hE
 go_enter Tryz.func66, Tryz.ntmps66
 go_upto_region 1 with (fail)
 refine J13 fun W hB hz b1 => ?_
 have b1' : Blk W w.heap.size 35 (mtc m (.slice A m.eps.length cap)).toArray := by first | exact b1 | (rw [hS] at b1; exact b1)
 have c33 := J11 b1' HN.out.seed.1
 have hbl := b1'.lt
 clear b1 hz hS
 by_cases hn : 0 ≤ n
 ·
  go_wp2_with fail
  refine bodyPost_ret (v := .bool (decide (0 ≤ n) && decide (n < m.eps.length))) (by simp [results, Tryz.results66, go_sem, hn]) rfl ⟨rfl, hB⟩
 ·
  go_wp2_with fail
  refine bodyPost_ret (v := .bool (decide (0 ≤ n) && decide (n < m.eps.length))) (by simp [results, Tryz.results66, go_sem, hn]; intro h; omega) rfl ⟨rfl, hB⟩
theorem gCurrent (m : Mt) (hN : MtN m) (vE : Value) (w : World) (hE : EpsA w vE m.eps) : Calls Tryz.prog 50 #[mtV m vE] w (Ret (.tuple #[.int .i64 ((m.eps.length : Int) - 1), .bool m.isOpen]) w) := by
 obtain ⟨S, hS⟩ : ∃ S, S = mtV m vE := ⟨_, rfl⟩
 rw [← hS]
 have HN := Lib.hid hN
 have HE := Lib.hid hE
 obtain ⟨A, cap, rfl⟩ := hE.len
 have hml := hN.eps
 clear hN hE
 go_enter Tryz.func50, Tryz.ntmps50
 go_upto_region 1 with (fail)
 refine J13 fun W hB hz b1 => ?_
 have b1' : Blk W w.heap.size 35 (mtc m (.slice A m.eps.length cap)).toArray := by first | exact b1 | (rw [hS] at b1; exact b1)
 have c33 := J11 b1' HN.out.seed.1
 have hbl := b1'.lt
 clear b1 hz hS
 rcases Nat.eq_zero_or_pos m.eps.length with h0 | h0
 ·
  rw [h0] at c33
  go_upto_region 2 with (fail)
  have c33 := Je hbl c33
  refine Jd 14 [] (by kernel_rfl) (by kernel_rfl) (by kernel_rfl) trivial ?_
  iterate 4 (refine rg_det rfl rfl rfl (fun K hK => ?_); go_big_quiet_op; refine hK _ ?_; clear hK K)
  iterate 7 (refine J5r (by kernel_rfl) ?_; intro a' ha; simp only [PutS] at ha; subst ha)
  iterate 3 (refine rg_det rfl rfl rfl (fun K hK => ?_); go_big_quiet_op; refine hK _ ?_; clear hK K)
  refine rg_nil (fun w' hw' hF => ?_)
  obtain ⟨z, rfl⟩ := hw'
  simp only [List.drop_succ_cons, List.drop_zero]
  have hBz := hB.trans (z.h.mono hB.size)
  clear c33 hF
  go_wp2_with fail
  exact bodyPost_ret (v := .tuple #[.int .i64 ((m.eps.length : Int) - 1), .bool false]) (by simp [results, Tryz.results50, go_sem, h0]) rfl ⟨by rw [Jax h0], hBz⟩
 ·
  have hO := Jaw h0
  obtain ⟨n, hn⟩ : ∃ n, n = m.eps.length - 1 := ⟨_, rfl⟩
  have hnl : m.eps.length = n + 1 := by omega
  rw [← hn] at hO
  have HO := Lib.hid hO
  clear hO
  obtain ⟨g, off, cap', p, d, hv, hc, hg, e0, e1, e2, e3, e4, -, -⟩ := (HE.out.keep hB).at (at_get m n (by omega))
  cases hv
  rw [hnl] at c33 hc
  have HNL := Lib.hid hnl
  have hn1 : n ≤ 1000 := by omega
  clear hn hnl h0 hml HE HN
  generalize (m.at n).closed = cl at *
  clear e0 e1 e3 e4 b1'
  have k2 := Je hg e2
  have k33 := Je hbl c33
  go_upto_region 2 with (fail)
  refine Jd 14 [] (by kernel_rfl) (by kernel_rfl) (by kernel_rfl) trivial ?_
  iterate 14 (refine rg_det rfl rfl rfl (fun K hK => ?_); go_big_quiet_op; refine hK _ ?_; clear hK K)
  refine rg_nil (fun w' hw' hF => ?_)
  obtain ⟨z, rfl⟩ := hw'
  simp only [List.drop_succ_cons, List.drop_zero]
  have hBz := hB.trans (z.h.mono hB.size)
  clear c33 k33 k2 e2 hF
  go_wp2_with fail
  exact bodyPost_ret (v := .tuple #[.int .i64 ((m.eps.length : Int) - 1), .bool (!cl)]) (by simp [results, Tryz.results50, go_sem, HNL.out]) rfl ⟨by rw [HO.out], hBz⟩
end
section
open Go.RowKit

structure Bse where
 W : World
 S : Nat → Prop
def InB (b : Bse) (g : Nat) : Prop := b.S g ∧ g < b.W.heap.size
def Bse.ok (b : Bse) (X : World) : Prop := b.W.heap.size ≤ X.heap.size ∧ ∀ g, InB b g → X.heap[g]? = b.W.heap[g]?
theorem Bse.ok_self (b : Bse) : b.ok b.W := ⟨Nat.le_refl _, fun _ _ => rfl⟩
theorem Bse.ok.below {b : Bse} {X Y : World} (h : b.ok X) (hb : Below X.heap.size X Y) : b.ok Y := ⟨Nat.le_trans h.1 hb.size, fun g hg => (hb.block g (Nat.lt_of_lt_of_le hg.2 h.1)).trans (h.2 g hg)⟩
theorem Bse.ok.keeps {b : Bse} {X Y : World} {S : Nat → Prop} (h : b.ok X) (hk : Keeps S X Y) (hS : ∀ g, InB b g → S g) : b.ok Y := ⟨Nat.le_trans h.1 hk.size, fun g hg => (hk.same g (hS g hg) (Nat.lt_of_lt_of_le hg.2 h.1)).trans (h.2 g hg)⟩
theorem Bse.ok.put {b : Bse} {X Y : World} {g : Nat} (h : b.ok X) (hp : Put X Y g) (hg : ¬ InB b g) : b.ok Y := ⟨by rw [hp.size]; exact h.1, fun k hk => (hp.other k (fun e => hg (e ▸ hk))).trans (h.2 k hk)⟩
def Bse.le (b c : Bse) : Prop := ∀ X, c.ok X → b.ok X
theorem Bse.le_of {b c : Bse} (hs : b.W.heap.size ≤ c.W.heap.size) (h : ∀ g, InB b g → c.S g ∧ c.W.heap[g]? = b.W.heap[g]?) : b.le c := fun X hX => ⟨Nat.le_trans hs hX.1, fun g hg => (hX.2 g ⟨(h g hg).1, Nat.lt_of_lt_of_le hg.2 hs⟩).trans (h g hg).2⟩
theorem Bse.le_ok {b c : Bse} (h : b.ok c.W) (hS : ∀ g, InB b g → c.S g) : b.le c := Bse.le_of h.1 fun g hg => ⟨hS g hg, h.2 g hg⟩
def Bse.new (b : Bse) (w W2 : World) : Bse := ⟨W2, fun g => InB b g ∨ w.heap.size ≤ g⟩
theorem Bse.le_new {b : Bse} {w W2 : World} (h : b.ok W2) : b.le (b.new w W2) := Bse.le_ok h fun _ hg => .inl hg
theorem notIn {b : Bse} {g N : Nat} (h1 : b.W.heap.size ≤ g) (h2 : g < N) : ¬ (InB b g ∨ N ≤ g) := fun h => by
 rcases h with h | h
 · have := h.2; omega
 · omega
def RdB (b : Bse) (size : Nat) (v : Value) (n : Nat) (cs : List Value) : Prop := ∀ X, b.ok X → RdA size X v n cs
def ExB (b : Bse) (v : Value) (xs : List E) : Prop := ∀ X, b.ok X → ExA X v xs
def PtIB (b : Bse) (x : PtW) (p : Pt) : Prop := ExB b x.r p.R ∧ ExB b x.v p.V ∧ x.u = p.used
def PtsB (b : Bse) (v : Value) (ps : List Pt) : Prop := ∃ us : List PtW, RdB b 3 v us.length (us.flatMap ptc) ∧ Al (PtIB b) us ps
def DgsB (b : Bse) (v : Value) (ds : List Dg) : Prop := ∀ X, b.ok X → DgsA X v ds
def EpIB (b : Bse) (x : EpW) (e : Ep) : Prop := (x.log = e.log ∧ x.count = e.count ∧ x.closed = e.closed) ∧ PtsB b x.p e.pts ∧ DgsB b x.k e.peaks
def EpsB (b : Bse) (v : Value) (es : List Ep) : Prop := ∃ us : List EpW, RdB b 5 v us.length (us.flatMap epc) ∧ Al (EpIB b) us es
section
variable {b c : Bse} {X : World}
theorem PtIB.old {u : PtW} {p : Pt} (h : PtIB b u p) (ho : b.ok X) : PtIn X u p := ⟨h.1 X ho, h.2.1 X ho, h.2.2⟩
theorem PtsB.old {v : Value} {ps : List Pt} (h : PtsB b v ps) (ho : b.ok X) : PtsA X v ps := by
 obtain ⟨us, h1, h2⟩ := h
 exact ⟨us, h1 X ho, h2.mono fun _ _ h => h.old ho⟩
theorem DgsB.old {v : Value} {ds : List Dg} (h : DgsB b v ds) (ho : b.ok X) : DgsA X v ds := h X ho
theorem EpIB.old {u : EpW} {e : Ep} (h : EpIB b u e) (ho : b.ok X) : EpIn X u e := ⟨h.1, h.2.1.old ho, h.2.2.old ho⟩
theorem EpsB.old {v : Value} {es : List Ep} (h : EpsB b v es) (ho : b.ok X) : EpsA X v es := by
 obtain ⟨us, h1, h2⟩ := h
 exact ⟨us, h1 X ho, h2.mono fun _ _ h => h.old ho⟩
theorem PtIB.le {u : PtW} {p : Pt} (h : PtIB b u p) (hl : b.le c) : PtIB c u p := ⟨fun X hX => h.1 X (hl X hX), fun X hX => h.2.1 X (hl X hX), h.2.2⟩
theorem PtsB.le {v : Value} {ps : List Pt} (h : PtsB b v ps) (hl : b.le c) : PtsB c v ps := by
 obtain ⟨us, h1, h2⟩ := h
 exact ⟨us, fun X hX => h1 X (hl X hX), h2.mono fun _ _ h => h.le hl⟩
theorem DgsB.le {v : Value} {ds : List Dg} (h : DgsB b v ds) (hl : b.le c) : DgsB c v ds := fun X hX => h X (hl X hX)
theorem EpIB.le {u : EpW} {e : Ep} (h : EpIB b u e) (hl : b.le c) : EpIB c u e := ⟨h.1, h.2.1.le hl, h.2.2.le hl⟩
theorem EpsB.le {v : Value} {es : List Ep} (h : EpsB b v es) (hl : b.le c) : EpsB c v es := by
 obtain ⟨us, h1, h2⟩ := h
 exact ⟨us, fun X hX => h1 X (hl X hX), h2.mono fun _ _ h => h.le hl⟩
theorem EpsB.len {v : Value} {es : List Ep} (h : EpsB b v es) : ∃ A cap, v = .slice A es.length cap := (h.old b.ok_self).len
theorem Bse.ok.keepsS (h : b.ok X) : Keeps b.S b.W X := ⟨h.1, fun g hg hl => h.2 g ⟨hg, hl⟩⟩
theorem EpsB.out {v : Value} {es : List Ep} {w w1 W2 X : World} {g : Nat} (h : EpsB (b.new w1 W2) v es) (hp : Put W2 X g) (hw : b.ok w) (h1 : w.heap.size ≤ g) (h2 : g < w1.heap.size) (h3 : w.heap.size ≤ w1.heap.size) : EpsB (b.new w X) v es :=
 h.le (Bse.le_of (by show W2.heap.size ≤ X.heap.size; rw [hp.size]; exact Nat.le_refl _) fun k hk => ⟨hk.1.imp id fun h => Nat.le_trans h3 h, hp.other k fun e => by
  subst e
  rcases hk.1 with h | h
  · have := h.2; have := hw.1; omega
  · omega⟩)
end
end
end Go.Proofs.YtoiampgfnidfdaaGreatDoor
