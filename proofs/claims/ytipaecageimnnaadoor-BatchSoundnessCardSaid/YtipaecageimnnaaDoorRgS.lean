/-
  The law of a region that draws its order, for a region in which one operation of the head may come behind the first of the forced ones: the two orders are walked one by one.
-/
import Derived.Test.YtipaecageimnnaaDoorRgL
namespace Go.Proofs.YtipaecageimnnaaDoor
open Go Go.RowKit

def sinkS (ops : Array Oper) (n s : Nat) : Bool := (List.range n).all fun i => i == s || (List.range (n + 1)).any fun j => decide (i < j) && decide (j ≠ s) && Region.waitsFor .any ops j i
def firstNS (n s size : Nat) : Array Bool := (firstN n size).setIfInBounds s false
/-- Number s may come behind number n; it is waited for by number n + 1. -/
def rgSB (ops : Array Oper) (n s : Nat) : Bool :=
  let B := befores ops.toList []
  ops.toList.all noDefer && decide (n < ops.size) && decide (s < n) && (List.range n).all (headB ops n B) && sinkS ops n s && Region.chainB .any ops n &&
    (List.range n).all (fun i => !isBefore B s i) && (match ops[s]? with | some o => o.guard.isNone | none => false) &&
    Region.seqB .any ops (ops.size - n) n (firstN n ops.size) &&
    decide (Region.ready .any ops ((firstNS n s ops.size).setIfInBounds n true) = [s]) &&
    Region.seqB .any ops (ops.size - n - 1) (n + 1) (((firstNS n s ops.size).setIfInBounds n true).setIfInBounds s true)

section
variable {P : Program} {ops : Array Oper} {n s : Nat} {B : List Nat} {Sp : List (Nat × Spec)} {C : World → Prop} {N0 : Nat} {a0 : Act}

theorem tail_waitsS (hs : sinkS ops n s = true) (hc : Region.chainB .any ops n = true) (_hn : n < ops.size) {listed : Array Bool} (inv : HeadInv .any ops n listed) :
    ∀ (d i : Nat), n - i = d → i < n → i ≠ s → listed.getD i true = false → ∀ t, n ≤ t → t ∉ Region.ready .any ops listed := by
  intro d
  induction d using Nat.strongRecOn with
  | _ d ih =>
    intro i hd hi his hun t ht hr
    obtain ⟨_, ot, hot, hall⟩ := mem_ready.1 hr
    have htlt : t < ops.size := (Array.getElem?_eq_some_iff.1 hot).1
    have h1 := List.all_eq_true.1 hs i (List.mem_range.2 hi)
    simp only [Bool.or_eq_true, beq_iff_eq, his, false_or, List.any_eq_true, List.mem_range, Bool.and_eq_true, decide_eq_true_eq] at h1
    obtain ⟨j, hj, ⟨hij, hjs⟩, hw⟩ := h1
    obtain ⟨oj, hoj, e, he, hb, hon⟩ := Region.waitsFor_spec hw
    by_cases hjn : j = n
    · subst hjn
      by_cases htj : t = j
      · subst htj
        obtain rfl : ot = oj := Option.some.inj (hot.symm.trans hoj)
        have := hall e he hb
        rw [hon, listed_both hun] at this
        cases this
      · have h2 := List.all_eq_true.1 hc t (List.mem_range.2 htlt)
        simp only [Bool.or_eq_true, decide_eq_true_eq] at h2
        rcases h2 with h2 | h2
        · omega
        · obtain ⟨o2, ho2, e2, he2, hb2, hon2⟩ := Region.waitsFor_spec h2
          obtain rfl : ot = o2 := Option.some.inj (hot.symm.trans ho2)
          have := hall e2 he2 hb2
          rw [hon2, listed_both (inv.tail (t - 1) (by omega) (by omega))] at this
          cases this
    · have hjun : listed.getD j true = false := by
        cases hjl : listed.getD j false with
        | true =>
          have := inv.closed j oj hoj hjl e he hb
          rw [hon, listed_both hun] at this
          cases this
        | false =>
          have hjs : j < listed.size := by rw [inv.size]; omega
          simp [hjs] at hjl ⊢
          exact hjl
      exact ih (n - j) (by omega) j rfl (by omega) hjs hjun t ht hr

theorem wpRg_mono {F F' : Act → World → Prop} (hF : ∀ a w, F a w → F' a w) : ∀ (l : List Oper) (i : Nat) (a : Act) (G : List (Nat × (World → Prop))) (rs : List (Nat × Nat)), wpRg P ops B Sp C N0 F l i a G rs → wpRg P ops B Sp C N0 F' l i a G rs
  | [], _, _, _, _, h => fun w hw hg => hF _ _ (h w hw hg)
  | o :: l, i, a, G, rs, h => by
    unfold wpRg at h ⊢
    split at h
    · rename_i hw
      rw [if_pos hw]
      cases hs : specOf Sp i with
      | none =>
        rw [hs] at h
        obtain ⟨h1, v, h2, h3⟩ := h
        exact ⟨h1, v, h2, wpRg_mono hF l _ _ _ _ h3⟩
      | some s =>
        cases s with
        | skip u => rw [hs] at h; exact wpRg_mono hF l _ _ _ _ h
        | val u => rw [hs] at h; exact ⟨h.1, wpRg_mono hF l _ _ _ _ h.2⟩
        | rel A F => rw [hs] at h; exact ⟨h.1, fun n m v h1 h2 h3 h4 => wpRg_mono hF l _ _ _ _ (h.2 n m v h1 h2 h3 h4)⟩
    · rename_i hw
      rw [if_neg hw]
      exact wpRg_mono hF l _ _ _ _ h

theorem good_endS {Fin : Act → World → Prop} {d : Tmp} (hst : ∀ i A F, specOf Sp i = some (.rel A F) → Fit A F) (hns : ∀ i u, specOf Sp i ≠ some (.skip u)) (hN : ∀ w, C w → N0 ≤ w.heap.size)
    (hnd : ∀ (k : Nat) (o : Oper), ops[k]? = some o → noDefer o = true) (H : ∀ k, k < n → ∃ o d, HeadOk ops n B k o d) (hsz : ∀ (k : Nat) (d : Tmp), k < n → dstOf ops k = some d → d < a0.tmps.size)
    (hn : n ≤ ops.size) (hs : s < n) (hds : dstOf ops s = some d) (hbs : ∀ i, i < n → isBefore B s i = false)
    (htree : wpRg P ops B ((s, .skip (a0.tmps.getD d undef)) :: Sp) C N0 (fun a w => Fin (a.put (some d) (a0.tmps.getD d undef)) w) (ops.toList.take n) 0 a0 [] [])
    {listed : Array Bool} {a : Act} {w : World} {r : Nat → Nat × Nat} (hG : Good P ops n Sp C N0 a0 listed a w r) (hun : listed.getD s false = false) (hall : ∀ k, k < n → k ≠ s → listed.getD k false = true) : Fin a w := by
  have htl : (ops.toList.take n).length = n := by simp; omega
  have hsp : ∀ k, k ≠ s → specOf ((s, .skip (a0.tmps.getD d undef)) :: Sp) k = specOf Sp k := fun k hk => by simp only [specOf, if_neg hk]
  have hsr : ∀ a k, k ≠ s → (isRel ops Sp a k ↔ isRel ops ((s, .skip (a0.tmps.getD d undef)) :: Sp) a k) := fun a k hk => by unfold isRel; rw [hsp k hk]
  have hG' : Good P ops n ((s, .skip (a0.tmps.getD d undef)) :: Sp) C N0 a0 listed a w r := by
    refine ⟨hG.c, hG.defs, hG.size, hG.old, fun k o d' hk ho hd hl => ?_, fun k j hk hj hkj hlk hlj h1 h2 => ?_⟩
    · have hks : k ≠ s := fun e => by subst e; rw [hun] at hl; cases hl
      obtain ⟨q1, q2, q3, q4⟩ := hG.ok k o d' hk ho hd hl
      exact ⟨q1, fun h1 h2 => q2 h1 (by rw [← hsp k hks]; exact h2), fun h1 u h2 => q3 h1 u (by rw [← hsp k hks]; exact h2), fun h1 A F h2 => q4 h1 A F (by rw [← hsp k hks]; exact h2)⟩
    · have hks : k ≠ s := fun e => by subst e; rw [hun] at hlk; cases hlk
      have hjs : j ≠ s := fun e => by subst e; rw [hun] at hlj; cases hlj
      exact hG.apart k j hk hj hkj hlk hlj ((hsr a k hks).2 h1) ((hsr a j hjs).2 h2)
  obtain ⟨l', b, G, rs, hl1, _, R, hw⟩ := descend (Pi := fun k => k ≠ s) hnd H hsz hG' (fun k hk hks => hall k hk hks) (fun k j hk hks hb e => by subst e; rw [hbs k hk] at hb; cases hb)
    (fun i A F h => by
      by_cases his : i = s
      · subst his; simp [specOf] at h
      · rw [hsp i his] at h; exact hst i A F h)
    (fun k u h hks => hns k u (by rw [← hsp k hks]; exact h)) hN (Nat.le_refl _) (ops.toList.take n) 0 a0 [] [] (Nat.zero_le _) (by rw [htl]; omega)
    (fun j hj => by rw [htl] at hj; simp [hj]) ⟨rfl, rfl, fun _ _ => rfl, fun j hj => absurd hj (by omega), fun φ hφ => (by cases hφ), fun ρ hρ => (by cases hρ), fun φ hφ => (by cases hφ)⟩ htree
  obtain rfl : l' = [] := List.eq_nil_of_length_eq_zero (by omega)
  unfold wpRg at hw
  have hlt : d < a0.tmps.size := hsz s d hs hds
  have hab : b.put (some d) (a0.tmps.getD d undef) = a := by
    have hp : ∀ t, (b.put (some d) (a0.tmps.getD d undef)).tmps[t]? = a.tmps[t]? := fun t => by
      by_cases htd : t = d
      · subst htd
        rw [put_eq (by rw [R.size]; exact hlt), ← some_getD hlt]
        refine (hG.old t fun k hk hl e => ?_).symm
        have hks : k ≠ s := fun e => by subst e; rw [hun] at hl; cases hl
        obtain ⟨o, d', h⟩ := H s hs
        have : d' = t := Option.some.inj ((show dstOf ops s = some d' by unfold dstOf; rw [h.op]; exact h.dst).symm.trans hds)
        subst this
        exact h.own k hk hks e
      · rw [put_ne htd]
        by_cases hj : ∃ j, j < n ∧ dstOf ops j = some t
        · obtain ⟨j, hjn, hjd⟩ := hj
          have hjs : j ≠ s := fun e => by subst e; exact htd (Option.some.inj (hjd.symm.trans hds))
          exact R.new j hjn hjs t hjd
        · have h1 : ∀ j, j < n → dstOf ops j ≠ some t := fun j hj' e => hj ⟨j, hj', e⟩
          exact (R.old t fun j hj' => h1 j hj').trans (hG.old t fun j hj' _ => h1 j hj').symm
    obtain ⟨bt, bd⟩ := b
    obtain ⟨at', ad⟩ := a
    have e1 : bd = ad := R.defs.trans hG.defs.symm
    have e2 : (Act.put ⟨bt, bd⟩ (some d) (a0.tmps.getD d undef)).tmps = at' := Array.ext_getElem? hp
    simp only [Act.put] at e2 ⊢
    rw [e1, e2]
  have := hw w hG.c fun φ hφ => R.g φ hφ fun e => by
    obtain ⟨A, F, h⟩ := R.gi φ hφ
    rw [e] at h
    simp [specOf] at h
  rw [hab] at this
  exact this

theorem any_of_goodS {Q : Exit → Act → World → Prop} {os : Oper} {d : Tmp} (hst : ∀ i A F, specOf Sp i = some (.rel A F) → Fit A F) (hns : ∀ i u, specOf Sp i ≠ some (.skip u)) (hC : ∀ w w', C w → Below w.heap.size w w' → C w') (hN : ∀ w, C w → N0 ≤ w.heap.size)
    (hnd : ∀ (k : Nat) (o : Oper), ops[k]? = some o → noDefer o = true) (hn : n < ops.size) (hs : s < n) (hos : ops[s]? = some os) (hds : os.dst = some d) (hgs : os.guard = none) (H : ∀ k, k < n → ∃ o d, HeadOk ops n B k o d) (hsz : ∀ (k : Nat) (d : Tmp), k < n → dstOf ops k = some d → d < a0.tmps.size)
    (hsink : sinkS ops n s = true) (hchain : Region.chainB .any ops n = true) (hbs : ∀ i, i < n → isBefore B s i = false) (hseq : Region.seqB .any ops (ops.size - n) n (firstN n ops.size) = true)
    (hr1 : Region.ready .any ops ((firstNS n s ops.size).setIfInBounds n true) = [s]) (hseq2 : Region.seqB .any ops (ops.size - n - 1) (n + 1) (((firstNS n s ops.size).setIfInBounds n true).setIfInBounds s true) = true)
    (htree : wpRg P ops B Sp C N0 (fun a w => wpList P ops Q (ops.toList.drop n) a w) (ops.toList.take n) 0 a0 [] [])
    (htree2 : wpRg P ops B ((s, .skip (a0.tmps.getD d undef)) :: Sp) C N0 (fun a w => ∀ on, ops[n]? = some on → wpList P ops Q (on :: os :: ops.toList.drop (n + 1)) (a.put (some d) (a0.tmps.getD d undef)) w) (ops.toList.take n) 0 a0 [] []) :
    ∀ (f : Nat) (listed : Array Bool) (a : Act) (w : World) (r : Nat → Nat × Nat), unl n listed = f → HeadInv .any ops n listed → Good P ops n Sp C N0 a0 listed a w r → wpAny P .any ops Q (f + (ops.size - n)) listed a w := by
  have hds' : dstOf ops s = some d := by unfold dstOf; rw [hos]; exact hds
  have hle := Nat.le_of_lt hn
  intro f
  induction f with
  | zero =>
    intro listed a w r hf inv hG
    have hall : ∀ k, k < n → listed.getD k false = true := fun k hk => by
      have h1 := unl_zero hf k hk
      have h2 : k < listed.size := by rw [inv.size]; omega
      simp [h2] at h1 ⊢
      exact h1
    have hfin := good_end hst hns hN hnd H hsz hle htree hG hall
    have hls := firstN_of inv.size hf inv.tail
    have hdl : (ops.toList.drop n).length = ops.size - n := by simp
    have := wpAny_of_seq (md := .any) (Q' := Q) (ops.toList.drop n) n listed a w (fun j => by simp [List.getElem?_drop]) (by rw [hdl, hls]; exact hseq) hfin
    rw [hdl] at this
    rw [Nat.zero_add]
    exact this
  | succ f ih =>
    intro listed a w r hf inv hG
    rw [show f + 1 + (ops.size - n) = (f + (ops.size - n)) + 1 by omega]
    have hex : ∃ i, i < n ∧ listed.getD i true = false := by
      refine Classical.byContradiction fun hno => ?_
      have : unl n listed = 0 := List.countP_eq_zero.2 fun i hi => by
        have hi' := List.mem_range.1 hi
        cases hd : listed.getD i true with
        | true => simp
        | false => exact absurd ⟨i, hi', hd⟩ hno
      omega
    obtain ⟨i0, hi0, hun0⟩ := hex
    obtain ⟨j0, _, hj0⟩ := ready_head H inv.size hle i0 hi0 hun0
    refine ⟨fun h0 => (by rw [h0] at hj0; cases hj0), fun i hi => ?_⟩
    obtain ⟨hun, oi, hoi, _⟩ := mem_ready.1 hi
    rcases Nat.lt_or_ge i n with hin | hin
    · obtain ⟨o, d, h⟩ := H i hin
      have hs := good_step hst hns hC hN hnd H hsz hle htree hG inv hin h hi
      have hunl := unl_set (by rw [inv.size]; omega) hun n hin
      have next : ∀ a' w', (∃ r', Good P ops n Sp C N0 a0 (listed.setIfInBounds i true) a' w' r') → wpAny P .any ops Q (f + (ops.size - n)) (listed.setIfInBounds i true) a' w' :=
        fun a' w' ⟨r', hG'⟩ => ih _ a' w' r' (by omega) (inv.set hi hin) hG'
      unfold wpOp
      simp only [h.op]
      by_cases hw : Region.wanted o (yielded ops a.tmps) = true
      · rw [if_pos hw] at hs ⊢
        exact .inl (wp_of_step (stepAt_mono (fun v w' hv => next _ _ hv) hs))
      · rw [if_neg hw] at hs ⊢
        exact next _ _ hs
    · -- the first of the tail comes up while number s is still to come
      have hilt : i < ops.size := (Array.getElem?_eq_some_iff.1 hoi).1
      have honly : ∀ k, k < n → k ≠ s → listed.getD k true = true := fun k hk hks => by
        cases hd : listed.getD k true with
        | true => rfl
        | false => exact absurd hi (tail_waitsS hsink hchain hn inv _ k rfl hk hks hd i hin)
      have hi0s : i0 = s := Classical.byContradiction fun h => by rw [honly i0 hi0 h] at hun0; cases hun0
      subst hi0s
      have hlsz : listed.size = ops.size := inv.size
      have hlist : listed = firstNS n i0 ops.size := by
        apply Array.ext_getElem?
        intro k
        have e2 : (firstN n ops.size)[k]? = if k < ops.size then some (decide (k < n)) else none := by
          unfold firstN
          rw [List.getElem?_toArray, List.getElem?_map]
          by_cases hk : k < ops.size
          · rw [List.getElem?_range hk, if_pos hk]; rfl
          · rw [List.getElem?_eq_none (by simp; omega), if_neg hk]; rfl
        have e3 : (firstN n ops.size).size = ops.size := by simp [firstN]
        unfold firstNS
        rw [Array.getElem?_setIfInBounds]
        rcases Nat.lt_or_ge k ops.size with hk | hk
        · have e1 : listed[k]? = some (listed.getD k true) := by
            have : k < listed.size := by omega
            simp [this]
          rw [e1, e2, if_pos hk, e3]
          by_cases hki : i0 = k
          · subst hki
            rw [if_pos rfl, if_pos hk, hun0]
          · rw [if_neg hki]
            by_cases hkn : k < n
            · rw [honly k hkn (Ne.symm hki)]; simp [hkn]
            · rw [inv.tail k (by omega) hk]; simp [hkn]
        · rw [Array.getElem?_eq_none (by omega), e2, if_neg (by omega), if_neg (by omega)]
      have hin' : i = n := by
        refine Classical.byContradiction fun hne => ?_
        have h2 := List.all_eq_true.1 hchain i (List.mem_range.2 hilt)
        simp only [Bool.or_eq_true, decide_eq_true_eq] at h2
        rcases h2 with h2 | h2
        · omega
        · obtain ⟨o2, ho2, e2, he2, hb2, hon2⟩ := Region.waitsFor_spec h2
          obtain ⟨_, o3, ho3, hall3⟩ := mem_ready.1 hi
          obtain rfl : o2 = o3 := Option.some.inj (ho2.symm.trans ho3)
          have := hall3 e2 he2 hb2
          rw [hon2, listed_both (inv.tail (i - 1) (by omega) (by omega))] at this
          cases this
      subst hin'
      have hfin := good_endS (Fin := fun a w => ∀ on, ops[i]? = some on → wpList P ops Q (on :: os :: ops.toList.drop (i + 1)) a w) hst hns hN hnd H hsz hle hs hds' hbs htree2 hG (listed_both hun0) (fun k hk hks => by
        have h1 := honly k hk hks
        have h2 : k < listed.size := by omega
        simp [h2] at h1 ⊢
        exact h1) oi hoi
      have hf1 : f = 0 := by
        have hle1 : unl i listed ≤ 1 := by
          unfold unl
          have := List.countP_le_length (p := fun k => decide (k = i0)) (l := List.range i)
          refine Nat.le_trans (List.countP_mono_left (q := fun k => decide (k = i0)) fun k hk h => ?_) ?_
          · simp only [Bool.not_eq_true'] at h
            simp only [decide_eq_true_eq]
            exact Classical.byContradiction fun hne => by rw [honly k (List.mem_range.1 hk) hne] at h; cases h
          · have : (List.range i).countP (fun k => decide (k = i0)) = (List.range i).count i0 := by
              unfold List.count
              congr 1
            rw [this]
            exact List.nodup_iff_count.1 List.nodup_range i0
        omega
      subst hf1
      have hdl : (ops.toList.drop (i + 1)).length = ops.size - i - 1 := by simp; omega
      rw [Nat.zero_add]
      have hwl : wpOp P ops Q i (wpList P ops Q (os :: ops.toList.drop (i + 1))) a w := by
        unfold wpOp; simp only [hoi]; exact hfin
      refine wpOp_mono (fun a' w' h' => ?_) hwl
      rw [hlist]
      rw [show ops.size - i = (ops.size - i - 1) + 1 by omega]
      refine ⟨fun h0 => (by rw [h0] at hr1; cases hr1), fun k hk => ?_⟩
      rw [hr1] at hk
      have hks : k = i0 := by simpa using hk
      subst hks
      have hwl2 : wpOp P ops Q k (wpList P ops Q (ops.toList.drop (i + 1))) a' w' := by
        unfold wpOp; simp only [hos]; exact h'
      refine wpOp_mono (fun a2 w2 h2 => ?_) hwl2
      have := wpAny_of_seq (md := .any) (Q' := Q) (ops.toList.drop (i + 1)) (i + 1) _ a2 w2 (fun j => by simp [List.getElem?_drop]) (by rw [hdl]; exact hseq2) h2
      rw [hdl] at this
      exact this
end

theorem wp_region_swap {P : Program} {id : Nat} {l : List Oper} {Q : Exit → Act → World → Prop} {a : Act} {W : World} (n s : Nat) (u : Value) {os on : Oper} {d : Tmp} (Sp : List (Nat × Spec)) (hm : P.follows .mixedOrders = true) (hB : rgSB l.toArray n s = true) (hz : sizesB l.toArray n a.tmps.size = true)
    (hos : l[s]? = some os) (hon : l[n]? = some on) (hds : os.dst = some d) (hu : a.tmps.getD d undef = u) (st : stables Sp)
    (walk : wpRg P l.toArray (befores l []) Sp (Grw W) W.heap.size (fun a' w' => wpList P l.toArray Q (l.drop n) a' w') (l.take n) 0 a [] [])
    (walk2 : wpRg P l.toArray (befores l []) ((s, .skip u) :: Sp) (Grw W) W.heap.size (fun a' w' => wpList P l.toArray Q (on :: os :: l.drop (n + 1)) (a'.put (some d) u) w') (l.take n) 0 a [] []) :
    (Code.region id l.toArray true).wp P Q a W := by
  subst hu
  refine wp_region_any hm ?_
  unfold rgSB at hB
  simp only [Bool.and_eq_true, decide_eq_true_eq] at hB
  obtain ⟨⟨⟨⟨⟨⟨⟨⟨⟨⟨h1, h2⟩, h3⟩, h4⟩, h5⟩, h6⟩, h7⟩, h8⟩, h9⟩, h10⟩, h11⟩ := hB
  have hnd : ∀ (k : Nat) (o : Oper), l.toArray[k]? = some o → noDefer o = true := fun k o ho => List.all_eq_true.1 h1 o (by
    have : l[k]? = some o := by simpa using ho
    exact List.mem_of_getElem? this)
  have hH : ∀ k, k < n → ∃ o d, HeadOk l.toArray n (befores l []) k o d := fun k hk => headOk_of (List.all_eq_true.1 h4 k (List.mem_range.2 hk))
  have hos' : l.toArray[s]? = some os := by simpa using hos
  rw [hos'] at h8
  simp only [Option.isNone_iff_eq_none] at h8
  have hbs : ∀ i, i < n → isBefore (befores l []) s i = false := fun i hi => by
    have := List.all_eq_true.1 h7 i (List.mem_range.2 hi)
    simpa using this
  have h0 : unl n (Array.replicate l.toArray.size false) = n := by
    unfold unl
    have : (List.range n).countP (fun i => !(Array.replicate l.toArray.size false).getD i true) = (List.range n).length := List.countP_eq_length.2 fun i hi => by
      have hi' := List.mem_range.1 hi
      have h1 : i < l.length := by simp only [List.size_toArray] at h2; omega
      simp [h1]
    rw [this, List.length_range]
  have inv0 : HeadInv .any l.toArray n (Array.replicate l.toArray.size false) :=
    ⟨by simp, fun j oj _ hl => (by rw [getD_replicate_false] at hl; cases hl), fun t _ ht => getD_in (by simpa using ht) (getD_replicate_false _ _)⟩
  have := any_of_goodS (P := P) (Q := Q) (d := d) (stables_spec st) (stables_ns st) (fun w w' h h' => grw_next h h') (fun w h => (grw_below h).size) hnd h2 h3 hos' hds h8 hH (a0 := a) (sizesB_spec hz) h5 h6 hbs h9 h10 h11
    (by simpa using walk) (by
      have e : l.toArray.toList = l := by simp
      rw [e]
      refine wpRg_mono (fun a' w' hw on' hon' => ?_) _ _ _ _ _ walk2
      obtain rfl : on = on' := Option.some.inj (hon.symm.trans (by simpa using hon'))
      exact hw) n _ a { W with drawn := W.drawn + 1 } (fun _ => (0, 0)) h0 inv0
    ⟨grw_of (Below.refl _ W).drew, rfl, rfl, fun _ _ => rfl, fun k o d _ _ _ hl => (by rw [getD_replicate_false] at hl; cases hl), fun k j _ _ _ hl => (by rw [getD_replicate_false] at hl; cases hl)⟩
  rw [show n + (l.toArray.size - n) = l.toArray.size by omega] at this
  exact this
/-- An operation that comes later is passed by. -/
theorem rg_pass {P : Program} {ops : Array Oper} {B : List Nat} {Sp : List (Nat × Spec)} {W : World} {N0 : Nat} {Fin : Act → World → Prop} {o : Oper} {l : List Oper} {i : Nat} {a : Act} {G : List (Nat × (World → Prop))} {rs : List (Nat × Nat)} {u : Value}
    (hw : Region.wanted o (yielded ops a.tmps) = true) (hs : specOf Sp i = some (.skip u)) (h : ∀ a', a' = a.put o.dst u → wpRg P ops B Sp (Grw W) N0 Fin l (i + 1) a' G rs) : wpRg P ops B Sp (Grw W) N0 Fin (o :: l) i a G rs := by
  unfold wpRg; rw [if_pos hw, hs]; exact h _ rfl
theorem wpList_putS {P : Program} {ops : Array Oper} {l : List Oper} {Q : Exit → Act → World → Prop} {a : Act} {d : Option Tmp} {u : Value} {w : World} (h : ∀ a', a' = a.put d u → wpList P ops Q l a' w) : wpList P ops Q l (a.put d u) w := h _ rfl
end Go.Proofs.YtipaecageimnnaaDoor
