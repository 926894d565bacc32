/-
  The program's SHA-256: the schedule.
-/
import Derived.Test.YtoiampgfnidfdaaGreatDoorSeq
import Derived.Test.YtoiampgfnidfdaaGreatDoorTag4
import Derived.Lib.AppendZeros
import Derived.Lib.AppendZerosOnto
set_option maxRecDepth 100000
set_option maxHeartbeats 8000000
namespace Go.Proofs.YtoiampgfnidfdaaGreatDoor
open Go.RowKit
section
open Go Go.RowKit

def sinkS (ops : Array Oper) (n s : Nat) : Bool := (List.range n).all fun i => i == s || (List.range (n + 1)).any fun j => decide (i < j) && decide (j ≠ s) && Region.waitsFor .any ops j i
def firstNS (n s size : Nat) : Array Bool := (firstN n size).setIfInBounds s false
def rgSB (ops : Array Oper) (n s : Nat) : Bool :=
 let B := befores ops.toList []
 ops.toList.all noDefer && decide (n < ops.size) && decide (s < n) && (List.range n).all (headB ops n B) && sinkS ops n s && Region.chainB .any ops n &&
  (List.range n).all (fun i => !isBefore B s i) && (match ops[s]? with | some o => o.guard.isNone | none => false) &&
  Region.seqB .any ops (ops.size - n) n (firstN n ops.size) &&
  decide (Region.ready .any ops ((firstNS n s ops.size).setIfInBounds n true) = [s]) &&
  Region.seqB .any ops (ops.size - n - 1) (n + 1) (((firstNS n s ops.size).setIfInBounds n true).setIfInBounds s true)

section
variable {P : Program} {ops : Array Oper} {n s : Nat} {B : List Nat} {Sp : List (Nat × Spec)} {C : World → Prop} {N0 : Nat} {a0 : Act}

theorem Jf8 (hs : sinkS ops n s = true) (hc : Region.chainB .any ops n = true) (_hn : n < ops.size) {listed : Array Bool} (inv : HeadInv .any ops n listed) :
  ∀ (d i : Nat), n - i = d → i < n → i ≠ s → listed.getD i true = false → ∀ t, n ≤ t → t ∉ Region.ready .any ops listed := by
 intro d
 induction d using Nat.strongRecOn with
 | _ d ih =>
  intro i hd hi his hun t ht hr
  obtain ⟨_, ot, hot, hall⟩ := mem_ready.1 hr
  have htlt : t < ops.size := (Array.getElem?_eq_some_iff.1 hot).1
  have h1 := List.all_eq_true.1 hs i (List.mem_range.2 hi)
  simp only [Bool.or_eq_true, beq_iff_eq, his, false_or, List.any_eq_true, List.mem_range, Bool.and_eq_true, decide_eq_true_eq] at h1
  obtain ⟨j, hj, ⟨hij, hjs⟩, hw⟩ := h1
  obtain ⟨oj, hoj, e, he, hb, hon⟩ := Region.waitsFor_spec hw
  by_cases hjn : j = n
  ·
   subst hjn
   by_cases htj : t = j
   ·
    subst htj
    obtain rfl : ot = oj := Option.some.inj (hot.symm.trans hoj)
    have := hall e he hb
    rw [hon, J34 hun] at this
    cases this
   ·
    have h2 := List.all_eq_true.1 hc t (List.mem_range.2 htlt)
    simp only [Bool.or_eq_true, decide_eq_true_eq] at h2
    rcases h2 with h2 | h2
    · omega
    ·
     obtain ⟨o2, ho2, e2, he2, hb2, hon2⟩ := Region.waitsFor_spec h2
     obtain rfl : ot = o2 := Option.some.inj (hot.symm.trans ho2)
     have := hall e2 he2 hb2
     rw [hon2, J34 (inv.tail (t - 1) (by omega) (by omega))] at this
     cases this
  ·
   have hjun : listed.getD j true = false := by
    cases hjl : listed.getD j false with
    | true =>
     have := inv.closed j oj hoj hjl e he hb
     rw [hon, J34 hun] at this
     cases this
    | false =>
     have hjs : j < listed.size := by rw [inv.size]; omega
     simp [hjs] at hjl ⊢
     exact hjl
   exact ih (n - j) (by omega) j rfl (by omega) hjs hjun t ht hr

theorem J5u {F F' : Act → World → Prop} (hF : ∀ a w, F a w → F' a w) : ∀ (l : List Oper) (i : Nat) (a : Act) (G : List (Nat × (World → Prop))) (rs : List (Nat × Nat)), wpRg P ops B Sp C N0 F l i a G rs → wpRg P ops B Sp C N0 F' l i a G rs
 | [], _, _, _, _, h => fun w hw hg => hF _ _ (h w hw hg)
 | o :: l, i, a, G, rs, h => by
  unfold wpRg at h ⊢
  split at h
  ·
   rename_i hw
   rw [if_pos hw]
   cases hs : specOf Sp i with
   | none =>
    rw [hs] at h
    obtain ⟨h1, v, h2, h3⟩ := h
    exact ⟨h1, v, h2, J5u hF l _ _ _ _ h3⟩
   | some s =>
    cases s with
    | skip u => rw [hs] at h; exact J5u hF l _ _ _ _ h
    | val u => rw [hs] at h; exact ⟨h.1, J5u hF l _ _ _ _ h.2⟩
    | rel A F => rw [hs] at h; exact ⟨h.1, fun n m v h1 h2 h3 h4 => J5u hF l _ _ _ _ (h.2 n m v h1 h2 h3 h4)⟩
  ·
   rename_i hw
   rw [if_neg hw]
   exact J5u hF l _ _ _ _ h

theorem Jht {Fin : Act → World → Prop} {d : Tmp} (hst : ∀ i A F, specOf Sp i = some (.rel A F) → Fit A F) (hns : ∀ i u, specOf Sp i ≠ some (.skip u)) (hN : ∀ w, C w → N0 ≤ w.heap.size)
  (hnd : ∀ (k : Nat) (o : Oper), ops[k]? = some o → noDefer o = true) (H : ∀ k, k < n → ∃ o d, HeadOk ops n B k o d) (hsz : ∀ (k : Nat) (d : Tmp), k < n → dstOf ops k = some d → d < a0.tmps.size)
  (hn : n ≤ ops.size) (hs : s < n) (hds : dstOf ops s = some d) (hbs : ∀ i, i < n → isBefore B s i = false)
  (htree : wpRg P ops B ((s, .skip (a0.tmps.getD d undef)) :: Sp) C N0 (fun a w => Fin (a.put (some d) (a0.tmps.getD d undef)) w) (ops.toList.take n) 0 a0 [] [])
  {listed : Array Bool} {a : Act} {w : World} {r : Nat → Nat × Nat} (hG : Good P ops n Sp C N0 a0 listed a w r) (hun : listed.getD s false = false) (hall : ∀ k, k < n → k ≠ s → listed.getD k false = true) : Fin a w := by
 have htl : (ops.toList.take n).length = n := by simp; omega
 have hsp : ∀ k, k ≠ s → specOf ((s, .skip (a0.tmps.getD d undef)) :: Sp) k = specOf Sp k := fun k hk => by simp only [specOf, if_neg hk]
 have hsr : ∀ a k, k ≠ s → (isRel ops Sp a k ↔ isRel ops ((s, .skip (a0.tmps.getD d undef)) :: Sp) a k) := fun a k hk => by unfold isRel; rw [hsp k hk]
 have hG' : Good P ops n ((s, .skip (a0.tmps.getD d undef)) :: Sp) C N0 a0 listed a w r := by
  refine ⟨hG.c, hG.defs, hG.size, hG.old, fun k o d' hk ho hd hl => ?_, fun k j hk hj hkj hlk hlj h1 h2 => ?_⟩
  ·
   have hks : k ≠ s := fun e => by subst e; rw [hun] at hl; cases hl
   obtain ⟨q1, q2, q3, q4⟩ := hG.ok k o d' hk ho hd hl
   exact ⟨q1, fun h1 h2 => q2 h1 (by rw [← hsp k hks]; exact h2), fun h1 u h2 => q3 h1 u (by rw [← hsp k hks]; exact h2), fun h1 A F h2 => q4 h1 A F (by rw [← hsp k hks]; exact h2)⟩
  ·
   have hks : k ≠ s := fun e => by subst e; rw [hun] at hlk; cases hlk
   have hjs : j ≠ s := fun e => by subst e; rw [hun] at hlj; cases hlj
   exact hG.apart k j hk hj hkj hlk hlj ((hsr a k hks).2 h1) ((hsr a j hjs).2 h2)
 obtain ⟨l', b, G, rs, hl1, _, R, hw⟩ := descend (Pi := fun k => k ≠ s) hnd H hsz hG' (fun k hk hks => hall k hk hks) (fun k j hk hks hb e => by subst e; rw [hbs k hk] at hb; cases hb)
  (fun i A F h => by
   by_cases his : i = s
   · subst his; simp [specOf] at h
   · rw [hsp i his] at h; exact hst i A F h)
  (fun k u h hks => hns k u (by rw [← hsp k hks]; exact h)) hN (Nat.le_refl _) (ops.toList.take n) 0 a0 [] [] (Nat.zero_le _) (by rw [htl]; omega)
  (fun j hj => by rw [htl] at hj; simp [hj]) ⟨rfl, rfl, fun _ _ => rfl, fun j hj => absurd hj (by omega), fun φ hφ => (by cases hφ), fun ρ hρ => (by cases hρ), fun φ hφ => (by cases hφ)⟩ htree
 obtain rfl : l' = [] := List.eq_nil_of_length_eq_zero (by omega)
 unfold wpRg at hw
 have hlt : d < a0.tmps.size := hsz s d hs hds
 have hab : b.put (some d) (a0.tmps.getD d undef) = a := by
  have hp : ∀ t, (b.put (some d) (a0.tmps.getD d undef)).tmps[t]? = a.tmps[t]? := fun t => by
   by_cases htd : t = d
   ·
    subst htd
    rw [put_eq (by rw [R.size]; exact hlt), ← Jcc hlt]
    refine (hG.old t fun k hk hl e => ?_).symm
    have hks : k ≠ s := fun e => by subst e; rw [hun] at hl; cases hl
    obtain ⟨o, d', h⟩ := H s hs
    have : d' = t := Option.some.inj ((show dstOf ops s = some d' by unfold dstOf; rw [h.op]; exact h.dst).symm.trans hds)
    subst this
    exact h.own k hk hks e
   ·
    rw [put_ne htd]
    by_cases hj : ∃ j, j < n ∧ dstOf ops j = some t
    ·
     obtain ⟨j, hjn, hjd⟩ := hj
     have hjs : j ≠ s := fun e => by subst e; exact htd (Option.some.inj (hjd.symm.trans hds))
     exact R.new j hjn hjs t hjd
    ·
     have h1 : ∀ j, j < n → dstOf ops j ≠ some t := fun j hj' e => hj ⟨j, hj', e⟩
     exact (R.old t fun j hj' => h1 j hj').trans (hG.old t fun j hj' _ => h1 j hj').symm
  obtain ⟨bt, bd⟩ := b
  obtain ⟨at', ad⟩ := a
  have e1 : bd = ad := R.defs.trans hG.defs.symm
  have e2 : (Act.put ⟨bt, bd⟩ (some d) (a0.tmps.getD d undef)).tmps = at' := Array.ext_getElem? hp
  simp only [Act.put] at e2 ⊢
  rw [e1, e2]
 have := hw w hG.c fun φ hφ => R.g φ hφ fun e => by
  obtain ⟨A, F, h⟩ := R.gi φ hφ
  rw [e] at h
  simp [specOf] at h
 rw [hab] at this
 exact this

theorem Je4 {Q : Exit → Act → World → Prop} {os : Oper} {d : Tmp} (hst : ∀ i A F, specOf Sp i = some (.rel A F) → Fit A F) (hns : ∀ i u, specOf Sp i ≠ some (.skip u)) (hC : ∀ w w', C w → Below w.heap.size w w' → C w') (hN : ∀ w, C w → N0 ≤ w.heap.size)
  (hnd : ∀ (k : Nat) (o : Oper), ops[k]? = some o → noDefer o = true) (hn : n < ops.size) (hs : s < n) (hos : ops[s]? = some os) (hds : os.dst = some d) (hgs : os.guard = none) (H : ∀ k, k < n → ∃ o d, HeadOk ops n B k o d) (hsz : ∀ (k : Nat) (d : Tmp), k < n → dstOf ops k = some d → d < a0.tmps.size)
  (hsink : sinkS ops n s = true) (hchain : Region.chainB .any ops n = true) (hbs : ∀ i, i < n → isBefore B s i = false) (hseq : Region.seqB .any ops (ops.size - n) n (firstN n ops.size) = true)
  (hr1 : Region.ready .any ops ((firstNS n s ops.size).setIfInBounds n true) = [s]) (hseq2 : Region.seqB .any ops (ops.size - n - 1) (n + 1) (((firstNS n s ops.size).setIfInBounds n true).setIfInBounds s true) = true)
  (htree : wpRg P ops B Sp C N0 (fun a w => wpList P ops Q (ops.toList.drop n) a w) (ops.toList.take n) 0 a0 [] [])
  (htree2 : wpRg P ops B ((s, .skip (a0.tmps.getD d undef)) :: Sp) C N0 (fun a w => ∀ on, ops[n]? = some on → wpList P ops Q (on :: os :: ops.toList.drop (n + 1)) (a.put (some d) (a0.tmps.getD d undef)) w) (ops.toList.take n) 0 a0 [] []) :
  ∀ (f : Nat) (listed : Array Bool) (a : Act) (w : World) (r : Nat → Nat × Nat), unl n listed = f → HeadInv .any ops n listed → Good P ops n Sp C N0 a0 listed a w r → wpAny P .any ops Q (f + (ops.size - n)) listed a w := by
 have hds' : dstOf ops s = some d := by unfold dstOf; rw [hos]; exact hds
 have hle := Nat.le_of_lt hn
 intro f
 induction f with
 | zero =>
  intro listed a w r hf inv hG
  have hall : ∀ k, k < n → listed.getD k false = true := fun k hk => by
   have h1 := J7s hf k hk
   have h2 : k < listed.size := by rw [inv.size]; omega
   simp [h2] at h1 ⊢
   exact h1
  have hfin := J97 hst hns hN hnd H hsz hle htree hG hall
  have hls := J8h inv.size hf inv.tail
  have hdl : (ops.toList.drop n).length = ops.size - n := by simp
  have := wpAny_of_seq (md := .any) (Q' := Q) (ops.toList.drop n) n listed a w (fun j => by simp [List.getElem?_drop]) (by rw [hdl, hls]; exact hseq) hfin
  rw [hdl] at this
  rw [Nat.zero_add]
  exact this
 | succ f ih =>
  intro listed a w r hf inv hG
  rw [show f + 1 + (ops.size - n) = (f + (ops.size - n)) + 1 by omega]
  have hex : ∃ i, i < n ∧ listed.getD i true = false := by
   refine Classical.byContradiction fun hno => ?_
   have : unl n listed = 0 := List.countP_eq_zero.2 fun i hi => by
    have hi' := List.mem_range.1 hi
    cases hd : listed.getD i true with
    | true => simp
    | false => exact absurd ⟨i, hi', hd⟩ hno
   omega
  obtain ⟨i0, hi0, hun0⟩ := hex
  obtain ⟨j0, _, hj0⟩ := J7e H inv.size hle i0 hi0 hun0
  refine ⟨fun h0 => (by rw [h0] at hj0; cases hj0), fun i hi => ?_⟩
  obtain ⟨hun, oi, hoi, _⟩ := mem_ready.1 hi
  rcases Nat.lt_or_ge i n with hin | hin
  ·
   obtain ⟨o, d, h⟩ := H i hin
   have hs := J8g hst hns hC hN hnd H hsz hle htree hG inv hin h hi
   have hunl := J7m (by rw [inv.size]; omega) hun n hin
   have next : ∀ a' w', (∃ r', Good P ops n Sp C N0 a0 (listed.setIfInBounds i true) a' w' r') → wpAny P .any ops Q (f + (ops.size - n)) (listed.setIfInBounds i true) a' w' :=
    fun a' w' ⟨r', hG'⟩ => ih _ a' w' r' (by omega) (inv.set hi hin) hG'
   unfold wpOp
   simp only [h.op]
   by_cases hw : Region.wanted o (yielded ops a.tmps) = true
   ·
    rw [if_pos hw] at hs ⊢
    exact .inl (Jn (Jb (fun v w' hv => next _ _ hv) hs))
   ·
    rw [if_neg hw] at hs ⊢
    exact next _ _ hs
  ·
   -- the first of the tail comes up while number s is still to come
   have hilt : i < ops.size := (Array.getElem?_eq_some_iff.1 hoi).1
   have honly : ∀ k, k < n → k ≠ s → listed.getD k true = true := fun k hk hks => by
    cases hd : listed.getD k true with
    | true => rfl
    | false => exact absurd hi (Jf8 hsink hchain hn inv _ k rfl hk hks hd i hin)
   have hi0s : i0 = s := Classical.byContradiction fun h => by rw [honly i0 hi0 h] at hun0; cases hun0
   subst hi0s
   have hlsz : listed.size = ops.size := inv.size
   have hlist : listed = firstNS n i0 ops.size := by
    apply Array.ext_getElem?
    intro k
    have e2 : (firstN n ops.size)[k]? = if k < ops.size then some (decide (k < n)) else none := by
     unfold firstN
     rw [List.getElem?_toArray, List.getElem?_map]
     by_cases hk : k < ops.size
     · rw [List.getElem?_range hk, if_pos hk]; rfl
     · rw [List.getElem?_eq_none (by simp; omega), if_neg hk]; rfl
    have e3 : (firstN n ops.size).size = ops.size := by simp [firstN]
    unfold firstNS
    rw [Array.getElem?_setIfInBounds]
    rcases Nat.lt_or_ge k ops.size with hk | hk
    ·
     have e1 : listed[k]? = some (listed.getD k true) := by
      have : k < listed.size := by omega
      simp [this]
     rw [e1, e2, if_pos hk, e3]
     by_cases hki : i0 = k
     ·
      subst hki
      rw [if_pos rfl, if_pos hk, hun0]
     ·
      rw [if_neg hki]
      by_cases hkn : k < n
      · rw [honly k hkn (Ne.symm hki)]; simp [hkn]
      · rw [inv.tail k (by omega) hk]; simp [hkn]
    · rw [Array.getElem?_eq_none (by omega), e2, if_neg (by omega), if_neg (by omega)]
   have hin' : i = n := by
    refine Classical.byContradiction fun hne => ?_
    have h2 := List.all_eq_true.1 hchain i (List.mem_range.2 hilt)
    simp only [Bool.or_eq_true, decide_eq_true_eq] at h2
    rcases h2 with h2 | h2
    · omega
    ·
     obtain ⟨o2, ho2, e2, he2, hb2, hon2⟩ := Region.waitsFor_spec h2
     obtain ⟨_, o3, ho3, hall3⟩ := mem_ready.1 hi
     obtain rfl : o2 = o3 := Option.some.inj (ho2.symm.trans ho3)
     have := hall3 e2 he2 hb2
     rw [hon2, J34 (inv.tail (i - 1) (by omega) (by omega))] at this
     cases this
   subst hin'
   have hfin := Jht (Fin := fun a w => ∀ on, ops[i]? = some on → wpList P ops Q (on :: os :: ops.toList.drop (i + 1)) a w) hst hns hN hnd H hsz hle hs hds' hbs htree2 hG (J34 hun0) (fun k hk hks => by
    have h1 := honly k hk hks
    have h2 : k < listed.size := by omega
    simp [h2] at h1 ⊢
    exact h1) oi hoi
   have hf1 : f = 0 := by
    have hle1 : unl i listed ≤ 1 := by
     unfold unl
     have := List.countP_le_length (p := fun k => decide (k = i0)) (l := List.range i)
     refine Nat.le_trans (List.countP_mono_left (q := fun k => decide (k = i0)) fun k hk h => ?_) ?_
     ·
      simp only [Bool.not_eq_true'] at h
      simp only [decide_eq_true_eq]
      exact Classical.byContradiction fun hne => by rw [honly k (List.mem_range.1 hk) hne] at h; cases h
     ·
      have : (List.range i).countP (fun k => decide (k = i0)) = (List.range i).count i0 := by
       unfold List.count
       congr 1
      rw [this]
      exact List.nodup_iff_count.1 List.nodup_range i0
    omega
   subst hf1
   have hdl : (ops.toList.drop (i + 1)).length = ops.size - i - 1 := by simp; omega
   rw [Nat.zero_add]
   have hwl : wpOp P ops Q i (wpList P ops Q (os :: ops.toList.drop (i + 1))) a w := by
    unfold wpOp; simp only [hoi]; exact hfin
   refine wpOp_mono (fun a' w' h' => ?_) hwl
   rw [hlist]
   rw [show ops.size - i = (ops.size - i - 1) + 1 by omega]
   refine ⟨fun h0 => (by rw [h0] at hr1; cases hr1), fun k hk => ?_⟩
   rw [hr1] at hk
   have hks : k = i0 := by simpa using hk
   subst hks
   have hwl2 : wpOp P ops Q k (wpList P ops Q (ops.toList.drop (i + 1))) a' w' := by
    unfold wpOp; simp only [hos]; exact h'
   refine wpOp_mono (fun a2 w2 h2 => ?_) hwl2
   have := wpAny_of_seq (md := .any) (Q' := Q) (ops.toList.drop (i + 1)) (i + 1) _ a2 w2 (fun j => by simp [List.getElem?_drop]) (by rw [hdl]; exact hseq2) h2
   rw [hdl] at this
   exact this
end

theorem J47 {P : Program} {id : Nat} {l : List Oper} {Q : Exit → Act → World → Prop} {a : Act} {W : World} (n s : Nat) (u : Value) {os on : Oper} {d : Tmp} (Sp : List (Nat × Spec)) (hm : P.follows .mixedOrders = true) (hB : rgSB l.toArray n s = true) (hz : sizesB l.toArray n a.tmps.size = true)
  (hos : l[s]? = some os) (hon : l[n]? = some on) (hds : os.dst = some d) (hu : a.tmps.getD d undef = u) (st : stables Sp)
  (walk : wpRg P l.toArray (befores l []) Sp (Grw W) W.heap.size (fun a' w' => wpList P l.toArray Q (l.drop n) a' w') (l.take n) 0 a [] [])
  (walk2 : wpRg P l.toArray (befores l []) ((s, .skip u) :: Sp) (Grw W) W.heap.size (fun a' w' => wpList P l.toArray Q (on :: os :: l.drop (n + 1)) (a'.put (some d) u) w') (l.take n) 0 a [] []) :
  (Code.region id l.toArray true).wp P Q a W := by
 subst hu
 refine wp_region_any hm ?_
 unfold rgSB at hB
 simp only [Bool.and_eq_true, decide_eq_true_eq] at hB
 obtain ⟨⟨⟨⟨⟨⟨⟨⟨⟨⟨h1, h2⟩, h3⟩, h4⟩, h5⟩, h6⟩, h7⟩, h8⟩, h9⟩, h10⟩, h11⟩ := hB
 have hnd : ∀ (k : Nat) (o : Oper), l.toArray[k]? = some o → noDefer o = true := fun k o ho => List.all_eq_true.1 h1 o (by
  have : l[k]? = some o := by simpa using ho
  exact List.mem_of_getElem? this)
 have hH : ∀ k, k < n → ∃ o d, HeadOk l.toArray n (befores l []) k o d := fun k hk => J9v (List.all_eq_true.1 h4 k (List.mem_range.2 hk))
 have hos' : l.toArray[s]? = some os := by simpa using hos
 rw [hos'] at h8
 simp only [Option.isNone_iff_eq_none] at h8
 have hbs : ∀ i, i < n → isBefore (befores l []) s i = false := fun i hi => by
  have := List.all_eq_true.1 h7 i (List.mem_range.2 hi)
  simpa using this
 have h0 : unl n (Array.replicate l.toArray.size false) = n := by
  unfold unl
  have : (List.range n).countP (fun i => !(Array.replicate l.toArray.size false).getD i true) = (List.range n).length := List.countP_eq_length.2 fun i hi => by
   have hi' := List.mem_range.1 hi
   have h1 : i < l.length := by simp only [List.size_toArray] at h2; omega
   simp [h1]
  rw [this, List.length_range]
 have inv0 : HeadInv .any l.toArray n (Array.replicate l.toArray.size false) :=
  ⟨by simp, fun j oj _ hl => (by rw [getD_replicate_false] at hl; cases hl), fun t _ ht => getD_in (by simpa using ht) (getD_replicate_false _ _)⟩
 have := Je4 (P := P) (Q := Q) (d := d) (J43 st) (J4b st) (fun w w' h h' => J7t h h') (fun w h => (J8 h).size) hnd h2 h3 hos' hds h8 hH (a0 := a) (J58 hz) h5 h6 hbs h9 h10 h11
  (by simpa using walk) (by
   have e : l.toArray.toList = l := by simp
   rw [e]
   refine J5u (fun a' w' hw on' hon' => ?_) _ _ _ _ _ walk2
   obtain rfl : on = on' := Option.some.inj (hon.symm.trans (by simpa using hon'))
   exact hw) n _ a { W with drawn := W.drawn + 1 } (fun _ => (0, 0)) h0 inv0
  ⟨grw_of (Below.refl _ W).drew, rfl, rfl, fun _ _ => rfl, fun k o d _ _ _ hl => (by rw [getD_replicate_false] at hl; cases hl), fun k j _ _ _ hl => (by rw [getD_replicate_false] at hl; cases hl)⟩
 rw [show n + (l.toArray.size - n) = l.toArray.size by omega] at this
 exact this
theorem J90 {P : Program} {ops : Array Oper} {B : List Nat} {Sp : List (Nat × Spec)} {W : World} {N0 : Nat} {Fin : Act → World → Prop} {o : Oper} {l : List Oper} {i : Nat} {a : Act} {G : List (Nat × (World → Prop))} {rs : List (Nat × Nat)} {u : Value}
  (hw : Region.wanted o (yielded ops a.tmps) = true) (hs : specOf Sp i = some (.skip u)) (h : ∀ a', a' = a.put o.dst u → wpRg P ops B Sp (Grw W) N0 Fin l (i + 1) a' G rs) : wpRg P ops B Sp (Grw W) N0 Fin (o :: l) i a G rs := by
 unfold wpRg; rw [if_pos hw, hs]; exact h _ rfl
theorem J5c {P : Program} {ops : Array Oper} {l : List Oper} {Q : Exit → Act → World → Prop} {a : Act} {d : Option Tmp} {u : Value} {w : World} (h : ∀ a', a' = a.put d u → wpList P ops Q l a' w) : wpList P ops Q l (a.put d u) w := h _ rfl
end
section
open Go.RowKit

attribute [local irreducible] wpRg
end
section
open Go.RowKit

theorem Jau (w : World) (a : Addr) (n : Nat) : (w.freeze a n).heap.size = w.heap.size := by
 unfold World.freeze
 split <;> simp
theorem Ja6 (w : World) (a : Addr) (n k : Nat) (h : k ≠ a.block) : (w.freeze a n).heap[k]? = w.heap[k]? := by
 unfold World.freeze
 split
 · rfl
 · simp [Array.getElem?_modify, Ne.symm h]
theorem Jf9 (w : World) (a p : Addr) (n : Nat) : (w.freeze a n).cell? p = w.cell? p := by
 by_cases h : p.block = a.block
 ·
  unfold World.freeze
  split
  · rfl
  ·
   unfold World.cell?
   simp only [Array.getElem?_modify, h, if_true]
   cases w.heap[a.block]? with
   | none => rfl
   | some o => cases o <;> rfl
 ·
  unfold World.cell?
  rw [Ja6 w a n p.block h]
theorem Je5 (w : World) (a : Addr) (n N : Nat) (h : N ≤ a.block) : Below N w (w.freeze a n) := by
 refine ⟨?_, ?_, ?_, by rw [Jau]; exact Nat.le_refl _, fun k hk => Ja6 w a n k (by omega)⟩
 all_goals
  unfold World.freeze
  split <;> rfl
theorem Jbo {o : Oper} {a : Act} {w : World} {x : Operand} {v : Value} {lo hi : Nat} {l : List Nat} (h : ByS lo hi w v l) (h0 : 0 < l.length) (ho : o.op = .convert 56 56 x) (hx : a.eval x = v) :
  stepAt Tryz.prog o a w fun v' w' => v' = v ∧ ByS lo hi w' v l ∧ Below lo w w' := by
 obtain ⟨g, off, cap, rfl, hc, hg1, hg2, hg3, hcell⟩ := J4n h h0
 have key : ∃ w', (convert 56 56 (.slice (some ⟨g, off, none⟩) l.length cap)).run Tryz.prog w = .ok (.slice (some ⟨g, off, none⟩) l.length cap) w' ∧ (w' = w ∨ ∃ k, w' = w.freeze ⟨g, k, none⟩ 1) := by
  cases hsh : w.shape? g with
  | none => exact ⟨w, by simp [convert, run_underlying J10, run_underlying Jbc, markStringish, hsh], .inl rfl⟩
  | some q => exact ⟨w.freeze ⟨g, q.2, none⟩ 1, by simp [convert, run_underlying J10, run_underlying Jbc, markStringish, hsh], .inr ⟨_, rfl⟩⟩
 obtain ⟨w', hr, hw⟩ := key
 unfold stepAt execOp
 simp only [ho, hx, Sem.run_bind, hr, Result.andThen_ok]
 refine ⟨rfl, ?_, ?_⟩
 ·
  rcases hw with rfl | ⟨k, rfl⟩
  · exact h
  ·
   obtain ⟨h1, h2, A, cap', h3, h4, h5⟩ := h
   refine ⟨h1, h2, A, cap', h3, h4, fun h0 => ?_⟩
   obtain ⟨g', off', q1, q2, q3, q4, q5⟩ := h5 h0
   exact ⟨g', off', q1, q2, q3, by rw [Jau]; exact q4, fun j u hu => by rw [Jf9]; exact q5 j u hu⟩
 ·
  rcases hw with rfl | ⟨k, rfl⟩
  · exact Below.refl _ _
  · exact Je5 _ _ _ _ hg1
attribute [local irreducible] wpRg
end

theorem u64_31 (n : Nat) (h0 : 0 < n) (hn : n < 32) : bits .and .u64 (18446744073709551616 - (n : Int)) 31 = ((32 - n : Nat) : Int) := by
 rw [show (18446744073709551616 - (n : Int)) = ((18446744073709551616 - n : Nat) : Int) by omega, show (31 : Int) = ((31 : Nat) : Int) by rfl, u64_and_nat _ _ (by omega) (by omega)]
 congr 1
 rw [show (31 : Nat) = 2 ^ 5 - 1 by rfl, Nat.and_two_pow_sub_one_eq_mod]
 omega
theorem gRotL (x : B32) (n : Nat) (h0 : 0 < n) (hn : n < 32) (w : World) : Calls Tryz.prog 162 #[.int .u32 (bv x), .int .i64 (-(n : Int))] w (Ret (.int .u32 (bv (rotr x n))) w) := by
 obtain ⟨m, hm⟩ : ∃ m, m = 32 - n := ⟨_, rfl⟩
 have hA := u64_31 n h0 hn
 rw [← hm, show (18446744073709551616 - (n : Int)) = IntKind.u64.wrap (-(n : Int)) by rw [IntKind.wrap_u64]; omega] at hA
 have hm32 : m < 32 := by omega
 have hnm : (32 : Int) - (m : Int) = (n : Int) := by omega
 obtain ⟨b0, b1⟩ := bv_lt x
 have HR := Lib.hid (show bits .or .u32 (IntKind.u32.wrap (bv x * 2 ^ m)) (bv x / 2 ^ n) = bv (rotr x n) by rw [bv_shr, bv_shl, bv_or, hm, BitVec.or_comm]; rfl)
 clear hm
 go_enter Tryz.func162, Tryz.ntmps162
 go_wp2_with fail
 rw [← IntKind.wrap_u32', HR.out]
 go_ret
 exact ⟨rfl, Below.refl _ _⟩
theorem Jj5 {base hi : Nat} {w X : World} {v : Value} {l : List Nat} (h : OwB base w v l) (hv : ∀ g, v.ownBlock = some g → g < hi) (hb : Below hi w X) : OwB base X v l := by
 obtain ⟨h1, h2⟩ := h
 refine ⟨h1, h2.imp id ?_⟩
 rintro ⟨g, cap, cur, rfl, q2, q3, q4⟩
 exact ⟨g, cap, cur, rfl, q2, (hb.block g (hv g rfl)).trans q3, q4⟩
def OwA (l : List Nat) (lo hi : Nat) (v : Value) (w : World) : Prop := OwB lo w v l ∧ ∀ g, v.ownBlock = some g → g < hi
theorem ow_st {l : List Nat} : Stable (OwA l) := fun _ _ _ _ _ h hb => ⟨Jj5 h.1 h.2 hb, h.2⟩
theorem OwB.a {base : Nat} {w : World} {v : Value} {l : List Nat} (h : OwB base w v l) : OwA l base w.heap.size v w := ⟨h, fun _ hg => (Jk h hg).2⟩
theorem Je6 {ops : Array Oper} {rest : List Oper} {o1 o2 : Oper} {a : Act} {Q : Exit → Act → World → Prop} {X0 X : World} {base g0 : Nat} {l : List Nat} {u : Value} {c : Nat} (g1 : o1.guard = none) (g2 : o2.guard = none) (s p x : Operand)
  (h1 : o1.op = .buildSlice 56 1 #[(0, x)]) (h2 : o2.op = .call { callee := .builtin .append, args := #[s, p], argTypes := #[56, 56] })
  (hx : a.eval x = .int .u8 (c : Int)) (hs : ∀ v, (a.put o1.dst v).eval s = u) (hp : ∀ v, (a.put o1.dst v).eval p = v) (hown : OwB base X u l) (hat : OwnAt X0 g0 u) (hgr : X0.grownBy X (some g0)) (hk : l.length ≤ 10000000) (hbase : base ≤ X.heap.size)
  (h : ∀ v v' w', OwB base w' v' (l ++ [c]) → OwnAt X0 g0 v' → X0.grownBy w' (some g0) → wpList Tryz.prog ops Q rest ((a.put o1.dst v).put o2.dst v') w') : wpList Tryz.prog ops Q (o1 :: o2 :: rest) a X := by
 obtain ⟨iu8, hu8, uz0, uz1, uz2⟩ := info_parts J22
 refine wpList_plain g1 fun K hK => Jn (Jb (fun v0 w1 hh => ?_) (J15 (cs := #[.int .u8 (c : Int)]) J10 hu8 uz0 uz1 (by decide) (by decide) h1 (by rw [hx]; rfl) rfl))
 obtain ⟨⟨rfl, hl1, b1⟩, hB1⟩ := hh
 refine hK _ _ ?_
 refine Jf7 g2 s p h2 J10 hu8 uz0 uz1 uz2 rfl (by decide) (cl := [.int .u8 (c : Int)]) rfl (fun v hv => by rw [List.mem_singleton.1 hv]; rfl) (hs _) (hp _) (Jq hown (Nat.le_refl _) hB1) hat (Jf6 hgr hB1) b1 (by unfold maxLen; omega) (by omega) (Nat.le_trans hbase hB1.size) fun v' w' hown' hat' hgr' => ?_
 refine h _ v' w' ?_ hat' hgr'
 unfold OwB
 rw [J8z, List.length_append]
 exact hown'
theorem Jbp : En Tryz.prog 160 := enters_of Tryz.func160 (by kernel_rfl) rfl
theorem gClone (l : List Nat) (hl : l.length ≤ 1000000) (v : Value) (lo hi : Nat) (w : World) (h : ByS lo hi w v l) : Calls Tryz.prog 160 #[v] w (RetR (OwA l) w) := by
 obtain ⟨A, cap, rfl⟩ := h.len
 have HV := Lib.hid h
 clear h
 have q22 : ∀ (w : World) (a : Option Addr) (n c n' c' : Nat), (binOp .eql 56 (.slice a n c) (.slice none n' c')).run Tryz.prog w = .ok (.bool a.isNone) w := fun w a n c n' c' => Lib.run_eql_slice_nil w _ _ a n c n' c' J10
 go_enter Tryz.func160, Tryz.ntmps160
 cases A with
 | none =>
  have h0 : l = [] := by
   obtain ⟨h1, h2, A, c', h3, h4, h5⟩ := HV.out
   cases h3
   cases l with
   | nil => rfl
   | cons x l =>
    obtain ⟨g, off, q, _⟩ := h5 (by simp)
    cases q
  subst h0
  go_wp2_with fail
  refine bodyPost_ret (v := .slice none 0 0) (by simp [results, Tryz.results160, go_sem]) rfl ⟨_, rfl, ⟨⟨rfl, .inl ⟨rfl, rfl⟩⟩, fun g hg => by cases hg⟩, Below.refl _ _⟩
 | some a =>
  go_upto_region 3 with (fail)
  refine wp_region_lit ?_
  refine J8s rfl rfl fun v1 w1 o1 B1 => ?_
  try simp only [PutS]
  refine wpList_plain rfl fun K hK => ?_; go_big_op; refine hK _ _ ?_; clear hK K
  refine J7g rfl _ _ rfl rfl rfl (HV.out.keep B1) o1 (by decide) (by omega) B1.size fun v3 w3 o3 B3 => ?_
  rw [List.nil_append] at o3
  have B4 := B1.trans B3
  clear o1 B1 B3
  obtain ⟨A3, c3, rfl⟩ := o3.len
  have HO := Lib.hid o3
  clear o3
  go_wp2_with fail
  exact bodyPost_ret (v := .slice A3 l.length c3) (by simp [results, Tryz.results160, go_sem]) rfl ⟨_, rfl, HO.out.a, B4⟩
section
open Go.RowKit

attribute [local irreducible] wpRg
theorem Jh4 (y x : Nat) (hy : y < 72057594037927936) (hx : x < 256) : bits .or .u64 ((y : Int) * 256) (x : Int) = ((y * 256 + x : Nat) : Int) := by
 rw [show (y : Int) * 256 = ((y * 256 : Nat) : Int) by omega, u64_or_nat _ _ (by omega) (by omega)]
 congr 1
 rw [show y * 256 = 2 ^ 8 * y by omega]
 exact (Nat.two_pow_add_eq_or_of_lt (i := 8) (by omega) y).symm
end
section
open Go.RowKit

theorem J5l : En Tryz.prog 124 := enters_of Tryz.func124 (by kernel_rfl) rfl
theorem Jhu : Tryz.prog.underlying 3 = some (.int .i64) := by kernel_rfl
attribute [local irreducible] wpRg
theorem gGrow0 (n : Nat) (hn : n ≤ 10000000) (w : World) : Calls Tryz.prog 146 #[.slice none 0 0, .int .i64 (n : Int)] w (RetR (OwA []) w) := by
 obtain ⟨iu8, hu8, uz0, uz1, uz2⟩ := info_parts J22
 by_cases h0 : n = 0
 ·
  subst h0
  go_enter Tryz.func146, Tryz.ntmps146
  go_wp2_with fail
  exact bodyPost_ret (v := .slice none 0 0) (by simp [results, Tryz.results146, go_sem]) rfl ⟨_, rfl, ⟨⟨rfl, .inl ⟨rfl, rfl⟩⟩, fun g hg => by cases hg⟩, Below.refl _ _⟩
 ·
  obtain ⟨G, hG⟩ : ∃ G, G = grownCap w n 0 5 := ⟨_, rfl⟩
  have hG1 : n ≤ G := by rw [hG]; exact grownCap_ge _ _ _ _
  have hG2 : G ≤ maxLen := by rw [hG]; exact grownCap_le_maxLen _ _ _ _ (by unfold maxLen; omega)
  have hG3 : G ≤ 9223372036854775807 := by unfold maxLen at hG2; omega
  have hpos : (n : Int) > 0 := by omega
  have hrz := fun ty => Lib.run_append_nil_zeros (P := Tryz.prog) w 56 3 ty _ iu8 _ .i64 .i64 J10 Jhu hu8 uz0 n (by omega) (by rw [uz1]; decide) (by omega) (by rw [uz2]; omega)
  rw [← hG] at hrz
  obtain ⟨C, hC⟩ : ∃ C, C = Builtin.zeroCells (Value.int .u8 0).cells n ++ Builtin.zeroCells (Value.int .u8 0).cells (G - n) := ⟨_, rfl⟩
  have hCs : C.size = G := by
   rw [hC]
   simp [Builtin.zeroCells, Value.cells]
   omega
  rw [← hC] at hrz
  have HR := Lib.hid hrz
  clear hC hG hrz
  go_enter Tryz.func146, Tryz.ntmps146
  go_wp2_with (at_builtin; refine Lib.wpList_append_run _ rfl _ _ _ _ rfl _ _ rfl rfl _ _ (HR.out _) ?_)
  refine bodyPost_ret (v := .slice (some ⟨w.heap.size, 0, none⟩) 0 G) (by simp [results, Tryz.results146, go_sem]) rfl ⟨_, rfl, ⟨⟨rfl, .inr ⟨w.heap.size, G, C, rfl, Nat.le_refl _, ?_, Nat.zero_le _, hG2, by rw [hCs, Nat.mul_one], by simp [byc]⟩⟩, fun g hg => ?_⟩, ?_⟩
  · exact World.alloc_heap_new w _
  ·
   cases hg
   show w.heap.size < (w.alloc (.cells C 5)).heap.size
   simp
  ·
   have hb := (Below.refl w.heap.size w).alloc (Nat.le_refl _) (.cells C 5)
   exact ⟨hb.os, hb.tape, hb.output, hb.size, hb.block⟩
def BylS (lo hi : Nat) (w : World) (v : Value) (ps : List (List Nat)) : Prop := ∃ us : List Value, us.length = ps.length ∧ Rd lo hi 1 w v ps.length us ∧ ∀ (i : Nat) (u : Value) (p : List Nat), us[i]? = some u → ps[i]? = some p → ∃ lo hi, ByS lo hi w u p
theorem BylS.len {lo hi : Nat} {w : World} {v : Value} {ps : List (List Nat)} (h : BylS lo hi w v ps) : ∃ A cap, v = .slice A ps.length cap := by
 obtain ⟨us, _, h2, _⟩ := h
 exact Rd.len h2
theorem Jfv {lo hi : Nat} {w : World} {v : Value} {ps : List (List Nat)} (h : BylS lo hi w v ps) (i : Nat) (hi' : i < ps.length) : ∃ g off cap B c, v = .slice (some ⟨g, off, none⟩) ps.length cap ∧ ps.length ≤ cap ∧ g < w.heap.size ∧ w.cell? ⟨g, off + i, none⟩ = some (.slice B (ps[i]).length c) ∧ ∃ lo hi, ByS lo hi w (.slice B (ps[i]).length c) ps[i] := by
 obtain ⟨us, h1, h2, h3⟩ := h
 obtain ⟨g, off, cap, q1, q2, q3, q4, q5, q6⟩ := Rd.form h2 (by omega)
 obtain ⟨u, hu⟩ : ∃ u, us[i]? = some u := ⟨_, List.getElem?_eq_getElem (by omega)⟩
 obtain ⟨l, r, hb⟩ := h3 i u ps[i] hu (List.getElem?_eq_getElem hi')
 obtain ⟨B, c, rfl⟩ := hb.len
 exact ⟨g, off, cap, B, c, q1, q2, q5, q6 i _ hu, l, r, hb⟩
def catK (k : Nat) (ps : List (List Nat)) : List Nat := (ps.take k).flatten
theorem Jhv (ps : List (List Nat)) : catK 0 ps = [] := rfl
theorem Jcs (ps : List (List Nat)) (k : Nat) (h : k < ps.length) : catK k ps ++ ps[k] = catK (k + 1) ps := by
 unfold catK
 rw [List.take_add_one, List.getElem?_eq_getElem h, List.flatten_append]
 simp
theorem Jj6 (ps : List (List Nat)) : catK ps.length ps = ps.flatten := by unfold catK; rw [List.take_length]
theorem Jah (ps : List (List Nat)) (k : Nat) : (catK k ps).length ≤ ps.flatten.length := by
 unfold catK
 conv => rhs; rw [← List.take_append_drop k ps]
 rw [List.flatten_append, List.length_append]
 omega
theorem gConcat (ps : List (List Nat)) (hn : ps.flatten.length ≤ 1000000) (hp : ps.length ≤ 1000000) (v : Value) (lo hi : Nat) (w : World) (h : BylS lo hi w v ps) : Calls Tryz.prog 124 #[v] w (RetR (OwA ps.flatten) w) := by
 obtain ⟨A, cap, rfl⟩ := h.len
 have HV := Lib.hid h
 have HN := Lib.hid hn
 clear h hn
 go_enter Tryz.func124, Tryz.ntmps124
 go_wp2_with fail
 go_loopw [3, 5, 11] (fun t s i wr => ∃ k : Nat, k ≤ ps.length ∧ i = .int .i64 k ∧ t = .int .i64 ((catK k ps).length : Int) ∧ Below w.heap.size w wr) (fun _ _ i _ => ps.length - (intOf i).toNat)
 case atStart => exact ⟨0, Nat.zero_le _, rfl, rfl, Below.refl _ _⟩
 case round =>
  obtain ⟨k, hk, rfl, rfl, hBr⟩ := hrel
  by_cases hlt : k < ps.length
  ·
   obtain ⟨g, off, cap', B, c, hv, hc1, hg, hcell, l1, r1, hby⟩ := Jfv HV.out k hlt
   cases hv
   have e1 := (hBr.cell (p := ⟨g, off + k, none⟩) hg).trans hcell
   have hle := Jah ps (k + 1)
   have hnx := Jcs ps k hlt
   have hnl : (catK (k + 1) ps).length = (catK k ps).length + (ps[k]).length := by rw [← hnx, List.length_append]
   have hNo := HN.out
   generalize ps[k] = p at *
   clear hnx hcell hby
   have HNL := Lib.hid hnl
   obtain ⟨D, hD⟩ : ∃ D, D = (catK k ps).length := ⟨_, rfl⟩
   rw [← hD] at hnl ⊢
   have hDs : D + p.length ≤ 1000000 := by omega
   have HDD := Lib.hid hD
   clear hnl hD hle hNo
   go_wp2_with fail
   exact ⟨⟨k + 1, by omega, by go_num, by rw [HNL.out, ← HDD.out]; go_num, hBr⟩, by simp [intOf]; omega⟩
  ·
   obtain rfl : k = ps.length := by omega
   have hNo := HN.out
   have hDs := Jah ps ps.length
   obtain ⟨D, hD⟩ : ∃ D, D = (catK ps.length ps).length := ⟨_, rfl⟩
   rw [← hD] at hDs ⊢
   replace hDs : D ≤ 1000000 := by omega
   clear hD hNo
   go_wp2_with fail
   refine (gGrow0 D (by omega) wr).mono ?_
   rintro e w1 ⟨v1, rfl, ⟨o1, -⟩, B1⟩
   simp only []
   have BX := hBr.trans (B1.mono hBr.size)
   have o1' : OwB w.heap.size w1 v1 (catK 0 ps) := by
    rw [Jhv]
    exact ⟨o1.1, o1.2.imp id fun ⟨g, cap, cur, q1, q2, q3⟩ => ⟨g, cap, cur, q1, Nat.le_trans hBr.size q2, q3⟩⟩
   clear o1 B1 hBr
   go_wp2_with fail
   go_loopw [6, 8, 27] (fun t s i wr => ∃ k : Nat, k ≤ ps.length ∧ i = .int .i64 k ∧ OwB w.heap.size wr t (catK k ps) ∧ Below w.heap.size w wr) (fun _ _ i _ => ps.length - (intOf i).toNat)
   case atStart => exact ⟨0, Nat.zero_le _, rfl, o1', BX⟩
   case round =>
    obtain ⟨k, hk, rfl, ho, hBr⟩ := hrel
    obtain ⟨A1, c1, rfl⟩ := ho.len
    by_cases hlt : k < ps.length
    ·
     obtain ⟨g, off, cap', B, c, hv, hc1, hg, hcell, l1, r1, hby⟩ := Jfv HV.out k hlt
     cases hv
     have e1 := (hBr.cell (p := ⟨g, off + k, none⟩) hg).trans hcell
     have hle := Jah ps (k + 1)
     have hle0 := Jah ps k
     have hnx := Jcs ps k hlt
     have hNo := HN.out
     have hpl : (ps[k]).length ≤ 1000000 := by
      have : (catK (k + 1) ps).length = (catK k ps).length + (ps[k]).length := by rw [← hnx, List.length_append]
      omega
     have hBz := hBr.size
     generalize ps[k] = p at *
     have HNX := Lib.hid hnx
     clear hnx hcell
     go_upto_region 13 with (fail)
     refine wp_region_lit ?_
     iterate 2 (refine wpList_plain rfl fun K hK => ?_; go_big_op; refine hK _ _ ?_; clear hK K)
     refine J7g rfl _ _ rfl rfl rfl (Rd.keep hby hBr) ho (by omega) (by omega) hBz fun v3 w3 o3 B3 => ?_
     rw [HNX.out] at o3
     have B4 := hBr.trans B3
     clear ho B3 e1 hby hBr hle hle0 hBz
     obtain ⟨A3, c3, rfl⟩ := o3.len
     go_wp2_with fail
     exact ⟨⟨k + 1, by omega, by go_num, o3, B4⟩, by simp [intOf]; omega⟩
    ·
     obtain rfl : k = ps.length := by omega
     rw [Jj6] at ho ⊢
     obtain ⟨L, hL⟩ : ∃ L, L = ps.flatten := ⟨_, rfl⟩
     rw [← hL] at ho ⊢
     have HLL := Lib.hid hL
     have HO := Lib.hid ho
     clear ho
     go_wp2_with fail
     exact bodyPost_ret (v := .slice A1 L.length c1) (by simp [results, Tryz.results124, go_sem]) rfl ⟨_, rfl, by rw [← HLL.out]; exact HO.out.a, hBr⟩
end
section
open Go.RowKit

theorem J74 : En Tryz.prog 161 := enters_of Tryz.func161 (by kernel_rfl) rfl
def pwN (b : List Nat) (k : Nat) : Nat → Nat
 | 0 => 0
 | j + 1 => pwN b k j * 256 + b.getD (4 * k + j) 0
theorem pwN_lt (b : List Nat) (h : ∀ x ∈ b, x < 256) (k : Nat) : ∀ j, pwN b k j < 256 ^ j
 | 0 => Nat.one_pos
 | j + 1 => by
  have h1 := pwN_lt b h k j
  have h2 : b.getD (4 * k + j) 0 < 256 := by
   rw [List.getD_eq_getElem?_getD]
   cases hx : b[4 * k + j]? with
   | none => decide
   | some x => exact h x (List.mem_of_getElem? hx)
  rw [pwN, Nat.pow_succ]
  omega
theorem Jj7 (b : List Nat) (k : Nat) : BitVec.ofNat 32 (pwN b k 4) = word4 b k := by
 have h : pwN b k 4 = b.getD (4 * k) 0 * 16777216 + b.getD (4 * k + 1) 0 * 65536 + b.getD (4 * k + 2) 0 * 256 + b.getD (4 * k + 3) 0 := by
  unfold pwN
  unfold pwN
  unfold pwN
  unfold pwN
  unfold pwN
  rw [Nat.add_zero]
  omega
 rw [h]
 rfl
theorem Jj8 (n : Nat) (l : List B32) (x y : B32) : (arrN n (l ++ [x])).set l.length (.int .u32 (bv y)) = arrN n (l ++ [y]) := by
 unfold arrN u32c
 simp
theorem Jj9 (n : Nat) (l : List B32) (h : l.length < n) : arrN n l = arrN n (l ++ [0]) := by
 unfold arrN
 congr 1
 rw [List.append_assoc, show n - l.length = (n - (l ++ [0]).length) + 1 by rw [List.length_append, List.length_singleton]; omega, List.replicate_succ]
 rfl
theorem Jls (n : Nat) (l : List B32) (x : B32) : (arrN n (l ++ [x]))[l.length]? = some (.int .u32 (bv x)) := Jb6 n (l ++ [x]) l.length x (by simp)
theorem Jh5 (y x : Nat) (hy : y < 16777216) (hx : x < 256) : bits .or .u32 ((y : Int) * 256) (x : Int) = ((y * 256 + x : Nat) : Int) := by
 rw [show (y : Int) * 256 = ((y * 256 : Nat) : Int) by omega, u32_or_nat _ _ (by omega) (by omega)]
 congr 1
 rw [show y * 256 = 2 ^ 8 * y by omega]
 exact (Nat.two_pow_add_eq_or_of_lt (i := 8) (by omega) y).symm
theorem sg_val (x : B32) (p q s : Nat) : bits .xor .u32 (bits .xor .u32 (bv (rotr x p)) (bv (rotr x q))) (bv x / 2 ^ s) = bv (rotr x p ^^^ rotr x q ^^^ x >>> s) := by
 rw [bv_shr, bv_xor, bv_xor]
attribute [local irreducible] wpRg
theorem gSched (b : List Nat) (hb : b.length = 64) (hb8 : ∀ x ∈ b, x < 256) (v : Value) (lo hi : Nat) (w : World) (h : ByS lo hi w v b) : Calls Tryz.prog 161 #[v] w (Ret (arrV (sched b)) w) := by
 obtain ⟨g, off, cap, rfl, hcap, -, -, lg, qg⟩ := J4n h (by omega)
 rw [hb] at hcap ⊢
 have HQ := Lib.hid qg
 have HB := Lib.hid hb
 have H8 := Lib.hid hb8
 clear h hb hb8 qg
 go_enter Tryz.func161, Tryz.ntmps161
 go_upto_region 2 with (fail)
 refine J1h fun W hB hz b2 b3 => ?_
 obtain ⟨cs0, hcs0, b2'⟩ : ∃ cs : Array Value, cs.size = 64 ∧ Blk W w.heap.size 188 cs := ⟨_, rfl, b2⟩
 have b3' : Blk W (w.heap.size + 1) 188 (arrN 64 (schK b 0)).toArray := by rw [Jco, Jcn]; exact b3
 clear b2 b3 hz
 obtain ⟨g3, hg3⟩ : ∃ g, g = w.heap.size + 1 := ⟨_, rfl⟩
 rw [← hg3] at b3' ⊢
 have hg3a : w.heap.size < g3 := by omega
 clear hg3
 go_wp2_with fail
 go_loopw [12] (fun i wr => ∃ k : Nat, k ≤ 16 ∧ i = .int .i64 k ∧ Blk wr g3 188 (arrN 64 (schK b k)).toArray ∧ (∃ cs, Blk wr w.heap.size 188 cs ∧ cs.size = 64) ∧ Below w.heap.size w wr) (fun i _ => 16 - (intOf i).toNat)
 case atStart => exact ⟨0, Nat.zero_le _, rfl, b3', ⟨cs0, b2', hcs0⟩, hB⟩
 case round =>
  obtain ⟨k, hk, rfl, b3, ⟨cs, b2, hcs⟩, hBr⟩ := hrel
  by_cases hlt : k < 16
  ·
   have hk4 : 4 * k + 4 ≤ cap := by omega
   rw [Jj9 64 _ (by rw [J1e]; omega)] at b3
   go_wp2_with fail
   go_loopw [23] (fun i wr => ∃ j : Nat, j ≤ 4 ∧ i = .int .i64 j ∧ Blk wr g3 188 (arrN 64 (schK b k ++ [BitVec.ofNat 32 (pwN b k j)])).toArray ∧ (∃ cs, Blk wr w.heap.size 188 cs ∧ cs.size = 64) ∧ Below w.heap.size w wr) (fun i _ => 4 - (intOf i).toNat)
   case atStart => exact ⟨0, Nat.zero_le _, rfl, b3, ⟨cs, b2, hcs⟩, hBr⟩
   case round =>
    clear b2 hcs cs b3 hBr
    obtain ⟨j, hj, rfl, b3, ⟨cs, b2, hcs⟩, hBr⟩ := hrel
    by_cases hlj : j < 4
    ·
     obtain ⟨x, hx⟩ : ∃ x, b[4 * k + j]? = some x := ⟨_, List.getElem?_eq_getElem (by rw [HB.out]; omega)⟩
     have hx8 := H8.out x (List.mem_of_getElem? hx)
     have c1 := (hBr.cell (p := ⟨g, off + (4 * k + j), none⟩) lg).trans (HQ.out _ x hx)
     rw [show off + (4 * k + j) = off + 4 * k + j by omega] at c1
     have hN : pwN b k (j + 1) = pwN b k j * 256 + x := by
      rw [pwN, List.getD_eq_getElem?_getD, hx]
      rfl
     have hle : pwN b k j < 16777216 := by
      have h1 := pwN_lt b H8.out k j
      have h2 : 256 ^ j ≤ 256 ^ 3 := Nat.pow_le_pow_right (by decide) (by omega)
      omega
     have c2 : wr.cell? ⟨g3, k, none⟩ = some (.int .u32 ((pwN b k j : Nat) : Int)) := by
      rw [b3.cell, ← Jb4 (pwN b k j) (by omega)]
      have := Jls 64 (schK b k) (BitVec.ofNat 32 (pwN b k j))
      rw [J1e] at this
      simpa using this
     have e1 := b3.frozen
     have HN := Lib.hid hN
     clear hN
     obtain ⟨y, hy⟩ : ∃ y, y = pwN b k j := ⟨_, rfl⟩
     rw [← hy] at c2 hle
     have HY := Lib.hid hy
     clear hy
     have HOR := Lib.hid (Jh5 y x hle hx8)
     go_wp2_with fail
     rw [HOR.out]
     refine ⟨⟨j + 1, by omega, by go_num, ?_⟩, by simp [intOf]; omega⟩
     refine set1 (M := fun W => Blk W g3 188 (arrN 64 (schK b k ++ [BitVec.ofNat 32 (pwN b k (j + 1))])).toArray ∧ (∃ cs, Blk W w.heap.size 188 cs ∧ cs.size = 64) ∧ Below w.heap.size w W) b3 fun X hX bX => ⟨?_, ⟨cs, hX.blk b2 (by omega), hcs⟩, J2 hBr hX (by omega)⟩
     rw [HN.out, ← HY.out, ← Jj8 64 (schK b k) (BitVec.ofNat 32 y) (BitVec.ofNat 32 (y * 256 + x)), Jb4 _ (by omega), J1e, HY.out, ← List.setIfInBounds_toArray, ← HY.out]
     rw [← HY.out] at bX
     exact bX
    ·
     obtain rfl : j = 4 := by omega
     rw [Jj7, ← Je1 b k hlt] at b3
     go_wp2_with fail
     exact ⟨⟨k + 1, by omega, by go_num, b3, ⟨cs, b2, hcs⟩, hBr⟩, by simp [intOf]; omega⟩
  ·
   obtain rfl : k = 16 := by omega
   go_wp2_with fail
   go_loopw [7] (fun i wr => ∃ k : Nat, 16 ≤ k ∧ k ≤ 64 ∧ i = .int .i64 k ∧ Blk wr g3 188 (arrN 64 (schK b k)).toArray ∧ (∃ cs, Blk wr w.heap.size 188 cs ∧ cs.size = 64) ∧ Below w.heap.size w wr) (fun i _ => 64 - (intOf i).toNat)
   case atStart => exact ⟨16, by omega, by omega, rfl, b3, ⟨cs, b2, hcs⟩, hBr⟩
   case round =>
    clear b2 hcs cs b3 hBr
    obtain ⟨k, hk16, hk, rfl, b3, ⟨cs, b2, hcs⟩, hBr⟩ := hrel
    by_cases hlt : k < 64
    ·
     have q : ∀ j, j < k → wr.cell? ⟨g3, j, none⟩ = some (.int .u32 (bv ((schK b k).getD j 0))) := fun j hj => by
      rw [b3.cell]
      have := Jb6 64 (schK b k) j ((schK b k).getD j 0) (by rw [List.getD_eq_getElem?_getD, List.getElem?_eq_getElem (by rw [J1e]; exact hj)]; rfl)
      simpa using this
     have hS := Jcm b k (by omega)
     obtain ⟨v16, e16⟩ : ∃ x, x = (schK b k).getD (k - 16) 0 := ⟨_, rfl⟩
     obtain ⟨v15, e15⟩ : ∃ x, x = (schK b k).getD (k - 15) 0 := ⟨_, rfl⟩
     obtain ⟨v7', e7⟩ : ∃ x, x = (schK b k).getD (k - 7) 0 := ⟨_, rfl⟩
     obtain ⟨v2, e2'⟩ : ∃ x, x = (schK b k).getD (k - 2) 0 := ⟨_, rfl⟩
     have q16 := q (k - 16) (by omega)
     have q15 := q (k - 15) (by omega)
     have q7 := q (k - 7) (by omega)
     have q2 := q (k - 2) (by omega)
     rw [← e16, ← e15, ← e7, ← e2'] at hS
     rw [← e16] at q16
     rw [← e15] at q15
     rw [← e7] at q7
     rw [← e2'] at q2
     have HS := Lib.hid hS
     have l3 := b3.lt
     have f16 := Je l3 q16
     have f15 := Je l3 q15
     have f7 := Je l3 q7
     have f2 := Je l3 q2
     clear q hS e16 e15 e7 e2' q16 q15 q7 q2
     go_wp2_with fail
     refine Jd 9 [] (by kernel_rfl) (by kernel_rfl) (by kernel_rfl) trivial ?_
     iterate 9 (refine rg_det rfl rfl rfl (fun K hK => ?_); go_big_quiet_op; refine hK _ ?_; clear hK K)
     refine rg_nil (fun w' hw' hF => ?_)
     obtain ⟨z, rfl⟩ := hw'
     simp only [List.drop_succ_cons, List.drop_zero]
     have b3z := b3.gw z
     have b2z := b2.gw z
     have hBz := hBr.trans (z.h.mono hBr.size)
     have l3z := b3z.lt
     have y16 := (f16 z)
     have y7 := (f7 z)
     clear hF f16 f15 f7 f2
     have hB0 := Below.refl z.w.heap.size z.w
     go_wp2_with fail
     refine (gRotL v15 7 (by decide) (by decide) z.w).mono ?_
     rintro e w1 ⟨rfl, hbw1⟩
     simp only []
     have hB1 := hB0.trans (hbw1.mono hB0.size)
     go_wp2_with fail
     refine (gRotL v15 18 (by decide) (by decide) w1).mono ?_
     rintro e w2 ⟨rfl, hbw2⟩
     simp only []
     have hB2 := hB1.trans (hbw2.mono hB1.size)
     go_upto_region 16 with (fail)
     rw [show bits .xor .u32 (bits .xor .u32 (bv (rotr v15 7)) (bv (rotr v15 18))) (bv v15 / 8) = bv (sg0 v15) from sg_val v15 7 18 3]
     go_wp2_with fail
     refine (gRotL v2 17 (by decide) (by decide) w2).mono ?_
     rintro e w3 ⟨rfl, hbw3⟩
     simp only []
     have hB3 := hB2.trans (hbw3.mono hB2.size)
     go_wp2_with fail
     refine (gRotL v2 19 (by decide) (by decide) w3).mono ?_
     rintro e w4 ⟨rfl, hbw4⟩
     simp only []
     have hB4 := hB3.trans (hbw4.mono hB3.size)
     go_upto_region 17 with (fail)
     rw [show bits .xor .u32 (bits .xor .u32 (bv (rotr v2 17)) (bv (rotr v2 19))) (bv v2 / 1024) = bv (sg1 v2) from sg_val v2 17 19 10]
     have b3w := b3z.keep hB4
     have b2w := b2z.keep hB4
     have hBw := hBz.trans (hB4.mono hBz.size)
     have f16 := Je (W := w4) b3w.lt ((hB4.cell (p := ⟨g3, k - 16, none⟩) l3z).trans y16)
     have f7 := Je (W := w4) b3w.lt ((hB4.cell (p := ⟨g3, k - 7, none⟩) l3z).trans y7)
     clear hbw1 hbw2 hbw3 hbw4 hB0 hB1 hB2 hB3 hB4 y16 y7 b3z b2z hBz l3z
     refine Jd 14 [] (by kernel_rfl) (by kernel_rfl) (by kernel_rfl) trivial ?_
     iterate 14 (refine rg_det rfl rfl rfl (fun K hK => ?_); go_big_quiet_op; refine hK _ ?_; clear hK K)
     refine rg_nil (fun w' hw' hF => ?_)
     obtain ⟨y, rfl⟩ := hw'
     simp only [List.drop_succ_cons, List.drop_zero]
     have b3y := b3w.gw y
     have b2y := b2w.gw y
     have hBy := hBw.trans (y.h.mono hBw.size)
     have e1 := b3y.frozen
     have e2 : y.w.cell? ⟨g3, k, none⟩ = some (.int .u32 0) := (b3y.cell k).trans (by have := Ja2 64 (schK b k) (by rw [J1e]; exact hlt); rw [J1e] at this; simpa using this)
     clear hF f16 f7 b3w b2w hBw
     go_upto_region 13 with (fail)
     rw [Jc0]
     refine set1 (M := fun W => Code.wp _ _ _ _ W) b3y fun X hX bX => ?_
     have b3X : Blk X g3 188 (arrN 64 (schK b (k + 1))).toArray := by
      rw [HS.out, ← Jb7 64 (schK b k) _ (by rw [J1e]; exact hlt), J1e]
      rw [← List.setIfInBounds_toArray]
      exact bX
     have b2X := hX.blk b2y (by omega)
     have hBX := J2 hBy hX (by omega)
     clear e1 e2 bX b3y b2y
     go_wp2_with fail
     exact ⟨⟨k + 1, by omega, by omega, by go_num, b3X, ⟨cs, b2X, hcs⟩, hBX⟩, by simp [intOf]; omega⟩
    ·
     obtain rfl : k = 64 := by omega
     rw [Je2, Jch 64 _ (J1i b)] at b3
     clear HQ HB H8
     go_upto_region 18 with (fail)
     refine J9e 188 (u32c (sched b)) _ _ _ _ rfl rfl rfl rfl J73 rfl (by rw [J5j, J2h, J1i]) (J6q _) rfl (fun _ => rfl) (fun _ => rfl) b3 b2 (by rw [hcs, J2h, J1i]) fun X v hX bX => ?_
     have hBX : Below w.heap.size w X := J2 hBr hX (by omega)
     go_wp2_with fail
     exact bodyPost_ret (v := arrV (sched b)) (Jv (g := w.heap.size) rfl rfl J73 rfl (by rw [J5j, J2h, J1i]) bX) rfl ⟨rfl, hBX⟩
end
end Go.Proofs.YtoiampgfnidfdaaGreatDoor
