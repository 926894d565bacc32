/-
  The law of a region that draws its order, for a region in which one operation of the head may come behind the first of the forced ones: the two orders are walked one by one.
  Transcripts of the reference: absorbing elements, the challenge.
  Transcripts of the reference: a new one.
  The program's rotation, and bytes: a copy, a word appended, a word read.
  The program's bytes: a word appended, a word read.
  The library's Grow of nil and Concat, of bytes.
  The program's SHA-256: the schedule.
  The program's SHA-256: one block.
  A range over an iterator that keeps a variable of its own in a box and stores into it between the rounds; the rounds all go on.
  The law of a region that draws its order, for a region in which some moves may come late: behind the first of the forced stores, which may store where they please.
-/
import Derived.Test.YtficeebbbkmhcaaGreatDoorRgL
import Derived.Test.YtficeebbbkmhcaaGreatDoorTag4
import Derived.Lib.AppendZeros
import Derived.Lib.AppendZerosOnto
import Derived.Laws.CopyRow
import Derived.Test.YtficeebbbkmhcaaGreatDoorGrow
namespace Go.Proofs.YtficeebbbkmhcaaGreatDoor
open Go Go.RowKit

def sinkS (ops : Array Oper) (n s : Nat) : Bool := (List.range n).all fun i => i == s || (List.range (n + 1)).any fun j => decide (i < j) && decide (j ≠ s) && Region.waitsFor .any ops j i
def firstNS (n s size : Nat) : Array Bool := (firstN n size).setIfInBounds s false
def rgSB (ops : Array Oper) (n s : Nat) : Bool :=
  let B := befores ops.toList []
  ops.toList.all noDefer && decide (n < ops.size) && decide (s < n) && (List.range n).all (headB ops n B) && sinkS ops n s && Region.chainB .any ops n &&
    (List.range n).all (fun i => !isBefore B s i) && (match ops[s]? with | some o => o.guard.isNone | none => false) &&
    Region.seqB .any ops (ops.size - n) n (firstN n ops.size) &&
    decide (Region.ready .any ops ((firstNS n s ops.size).setIfInBounds n true) = [s]) &&
    Region.seqB .any ops (ops.size - n - 1) (n + 1) (((firstNS n s ops.size).setIfInBounds n true).setIfInBounds s true)

section
variable {P : Program} {ops : Array Oper} {n s : Nat} {B : List Nat} {Sp : List (Nat × Spec)} {C : World → Prop} {N0 : Nat} {a0 : Act}

theorem tail_waitsS (hs : sinkS ops n s = true) (hc : Region.chainB .any ops n = true) (_hn : n < ops.size) {listed : Array Bool} (inv : HeadInv .any ops n listed) :
    ∀ (d i : Nat), n - i = d → i < n → i ≠ s → listed.getD i true = false → ∀ t, n ≤ t → t ∉ Region.ready .any ops listed := by
  intro d
  induction d using Nat.strongRecOn with
  | _ d ih =>
    intro i hd hi his hun t ht hr
    obtain ⟨_, ot, hot, hall⟩ := mem_ready.1 hr
    have htlt : t < ops.size := (Array.getElem?_eq_some_iff.1 hot).1
    have h1 := List.all_eq_true.1 hs i (List.mem_range.2 hi)
    simp only [Bool.or_eq_true, beq_iff_eq, his, false_or, List.any_eq_true, List.mem_range, Bool.and_eq_true, decide_eq_true_eq] at h1
    obtain ⟨j, hj, ⟨hij, hjs⟩, hw⟩ := h1
    obtain ⟨oj, hoj, e, he, hb, hon⟩ := Region.waitsFor_spec hw
    by_cases hjn : j = n
    · subst hjn
      by_cases htj : t = j
      · subst htj
        obtain rfl : ot = oj := Option.some.inj (hot.symm.trans hoj)
        have := hall e he hb
        rw [hon, listed_both hun] at this
        cases this
      · have h2 := List.all_eq_true.1 hc t (List.mem_range.2 htlt)
        simp only [Bool.or_eq_true, decide_eq_true_eq] at h2
        rcases h2 with h2 | h2
        · omega
        · obtain ⟨o2, ho2, e2, he2, hb2, hon2⟩ := Region.waitsFor_spec h2
          obtain rfl : ot = o2 := Option.some.inj (hot.symm.trans ho2)
          have := hall e2 he2 hb2
          rw [hon2, listed_both (inv.tail (t - 1) (by omega) (by omega))] at this
          cases this
    · have hjun : listed.getD j true = false := by
        cases hjl : listed.getD j false with
        | true =>
          have := inv.closed j oj hoj hjl e he hb
          rw [hon, listed_both hun] at this
          cases this
        | false =>
          have hjs : j < listed.size := by rw [inv.size]; omega
          simp [hjs] at hjl ⊢
          exact hjl
      exact ih (n - j) (by omega) j rfl (by omega) hjs hjun t ht hr

theorem wpRg_mono {F F' : Act → World → Prop} (hF : ∀ a w, F a w → F' a w) : ∀ (l : List Oper) (i : Nat) (a : Act) (G : List (Nat × (World → Prop))) (rs : List (Nat × Nat)), wpRg P ops B Sp C N0 F l i a G rs → wpRg P ops B Sp C N0 F' l i a G rs
  | [], _, _, _, _, h => fun w hw hg => hF _ _ (h w hw hg)
  | o :: l, i, a, G, rs, h => by
    unfold wpRg at h ⊢
    split at h
    · rename_i hw
      rw [if_pos hw]
      cases hs : specOf Sp i with
      | none =>
        rw [hs] at h
        obtain ⟨h1, v, h2, h3⟩ := h
        exact ⟨h1, v, h2, wpRg_mono hF l _ _ _ _ h3⟩
      | some s =>
        cases s with
        | skip u => rw [hs] at h; exact wpRg_mono hF l _ _ _ _ h
        | val u => rw [hs] at h; exact ⟨h.1, wpRg_mono hF l _ _ _ _ h.2⟩
        | rel A F => rw [hs] at h; exact ⟨h.1, fun n m v h1 h2 h3 h4 => wpRg_mono hF l _ _ _ _ (h.2 n m v h1 h2 h3 h4)⟩
    · rename_i hw
      rw [if_neg hw]
      exact wpRg_mono hF l _ _ _ _ h

theorem good_endS {Fin : Act → World → Prop} {d : Tmp} (hst : ∀ i A F, specOf Sp i = some (.rel A F) → Fit A F) (hns : ∀ i u, specOf Sp i ≠ some (.skip u)) (hN : ∀ w, C w → N0 ≤ w.heap.size)
    (hnd : ∀ (k : Nat) (o : Oper), ops[k]? = some o → noDefer o = true) (H : ∀ k, k < n → ∃ o d, HeadOk ops n B k o d) (hsz : ∀ (k : Nat) (d : Tmp), k < n → dstOf ops k = some d → d < a0.tmps.size)
    (hn : n ≤ ops.size) (hs : s < n) (hds : dstOf ops s = some d) (hbs : ∀ i, i < n → isBefore B s i = false)
    (htree : wpRg P ops B ((s, .skip (a0.tmps.getD d undef)) :: Sp) C N0 (fun a w => Fin (a.put (some d) (a0.tmps.getD d undef)) w) (ops.toList.take n) 0 a0 [] [])
    {listed : Array Bool} {a : Act} {w : World} {r : Nat → Nat × Nat} (hG : Good P ops n Sp C N0 a0 listed a w r) (hun : listed.getD s false = false) (hall : ∀ k, k < n → k ≠ s → listed.getD k false = true) : Fin a w := by
  have htl : (ops.toList.take n).length = n := by simp; omega
  have hsp : ∀ k, k ≠ s → specOf ((s, .skip (a0.tmps.getD d undef)) :: Sp) k = specOf Sp k := fun k hk => by simp only [specOf, if_neg hk]
  have hsr : ∀ a k, k ≠ s → (isRel ops Sp a k ↔ isRel ops ((s, .skip (a0.tmps.getD d undef)) :: Sp) a k) := fun a k hk => by unfold isRel; rw [hsp k hk]
  have hG' : Good P ops n ((s, .skip (a0.tmps.getD d undef)) :: Sp) C N0 a0 listed a w r := by
    refine ⟨hG.c, hG.defs, hG.size, hG.old, fun k o d' hk ho hd hl => ?_, fun k j hk hj hkj hlk hlj h1 h2 => ?_⟩
    · have hks : k ≠ s := fun e => by subst e; rw [hun] at hl; cases hl
      obtain ⟨q1, q2, q3, q4⟩ := hG.ok k o d' hk ho hd hl
      exact ⟨q1, fun h1 h2 => q2 h1 (by rw [← hsp k hks]; exact h2), fun h1 u h2 => q3 h1 u (by rw [← hsp k hks]; exact h2), fun h1 A F h2 => q4 h1 A F (by rw [← hsp k hks]; exact h2)⟩
    · have hks : k ≠ s := fun e => by subst e; rw [hun] at hlk; cases hlk
      have hjs : j ≠ s := fun e => by subst e; rw [hun] at hlj; cases hlj
      exact hG.apart k j hk hj hkj hlk hlj ((hsr a k hks).2 h1) ((hsr a j hjs).2 h2)
  obtain ⟨l', b, G, rs, hl1, _, R, hw⟩ := descend (Pi := fun k => k ≠ s) hnd H hsz hG' (fun k hk hks => hall k hk hks) (fun k j hk hks hb e => by subst e; rw [hbs k hk] at hb; cases hb)
    (fun i A F h => by
      by_cases his : i = s
      · subst his; simp [specOf] at h
      · rw [hsp i his] at h; exact hst i A F h)
    (fun k u h hks => hns k u (by rw [← hsp k hks]; exact h)) hN (Nat.le_refl _) (ops.toList.take n) 0 a0 [] [] (Nat.zero_le _) (by rw [htl]; omega)
    (fun j hj => by rw [htl] at hj; simp [hj]) ⟨rfl, rfl, fun _ _ => rfl, fun j hj => absurd hj (by omega), fun φ hφ => (by cases hφ), fun ρ hρ => (by cases hρ), fun φ hφ => (by cases hφ)⟩ htree
  obtain rfl : l' = [] := List.eq_nil_of_length_eq_zero (by omega)
  unfold wpRg at hw
  have hlt : d < a0.tmps.size := hsz s d hs hds
  have hab : b.put (some d) (a0.tmps.getD d undef) = a := by
    have hp : ∀ t, (b.put (some d) (a0.tmps.getD d undef)).tmps[t]? = a.tmps[t]? := fun t => by
      by_cases htd : t = d
      · subst htd
        rw [put_eq (by rw [R.size]; exact hlt), ← some_getD hlt]
        refine (hG.old t fun k hk hl e => ?_).symm
        have hks : k ≠ s := fun e => by subst e; rw [hun] at hl; cases hl
        obtain ⟨o, d', h⟩ := H s hs
        have : d' = t := Option.some.inj ((show dstOf ops s = some d' by unfold dstOf; rw [h.op]; exact h.dst).symm.trans hds)
        subst this
        exact h.own k hk hks e
      · rw [put_ne htd]
        by_cases hj : ∃ j, j < n ∧ dstOf ops j = some t
        · obtain ⟨j, hjn, hjd⟩ := hj
          have hjs : j ≠ s := fun e => by subst e; exact htd (Option.some.inj (hjd.symm.trans hds))
          exact R.new j hjn hjs t hjd
        · have h1 : ∀ j, j < n → dstOf ops j ≠ some t := fun j hj' e => hj ⟨j, hj', e⟩
          exact (R.old t fun j hj' => h1 j hj').trans (hG.old t fun j hj' _ => h1 j hj').symm
    obtain ⟨bt, bd⟩ := b
    obtain ⟨at', ad⟩ := a
    have e1 : bd = ad := R.defs.trans hG.defs.symm
    have e2 : (Act.put ⟨bt, bd⟩ (some d) (a0.tmps.getD d undef)).tmps = at' := Array.ext_getElem? hp
    simp only [Act.put] at e2 ⊢
    rw [e1, e2]
  have := hw w hG.c fun φ hφ => R.g φ hφ fun e => by
    obtain ⟨A, F, h⟩ := R.gi φ hφ
    rw [e] at h
    simp [specOf] at h
  rw [hab] at this
  exact this

theorem any_of_goodS {Q : Exit → Act → World → Prop} {os : Oper} {d : Tmp} (hst : ∀ i A F, specOf Sp i = some (.rel A F) → Fit A F) (hns : ∀ i u, specOf Sp i ≠ some (.skip u)) (hC : ∀ w w', C w → Below w.heap.size w w' → C w') (hN : ∀ w, C w → N0 ≤ w.heap.size)
    (hnd : ∀ (k : Nat) (o : Oper), ops[k]? = some o → noDefer o = true) (hn : n < ops.size) (hs : s < n) (hos : ops[s]? = some os) (hds : os.dst = some d) (hgs : os.guard = none) (H : ∀ k, k < n → ∃ o d, HeadOk ops n B k o d) (hsz : ∀ (k : Nat) (d : Tmp), k < n → dstOf ops k = some d → d < a0.tmps.size)
    (hsink : sinkS ops n s = true) (hchain : Region.chainB .any ops n = true) (hbs : ∀ i, i < n → isBefore B s i = false) (hseq : Region.seqB .any ops (ops.size - n) n (firstN n ops.size) = true)
    (hr1 : Region.ready .any ops ((firstNS n s ops.size).setIfInBounds n true) = [s]) (hseq2 : Region.seqB .any ops (ops.size - n - 1) (n + 1) (((firstNS n s ops.size).setIfInBounds n true).setIfInBounds s true) = true)
    (htree : wpRg P ops B Sp C N0 (fun a w => wpList P ops Q (ops.toList.drop n) a w) (ops.toList.take n) 0 a0 [] [])
    (htree2 : wpRg P ops B ((s, .skip (a0.tmps.getD d undef)) :: Sp) C N0 (fun a w => ∀ on, ops[n]? = some on → wpList P ops Q (on :: os :: ops.toList.drop (n + 1)) (a.put (some d) (a0.tmps.getD d undef)) w) (ops.toList.take n) 0 a0 [] []) :
    ∀ (f : Nat) (listed : Array Bool) (a : Act) (w : World) (r : Nat → Nat × Nat), unl n listed = f → HeadInv .any ops n listed → Good P ops n Sp C N0 a0 listed a w r → wpAny P .any ops Q (f + (ops.size - n)) listed a w := by
  have hds' : dstOf ops s = some d := by unfold dstOf; rw [hos]; exact hds
  have hle := Nat.le_of_lt hn
  intro f
  induction f with
  | zero =>
    intro listed a w r hf inv hG
    have hall : ∀ k, k < n → listed.getD k false = true := fun k hk => by
      have h1 := unl_zero hf k hk
      have h2 : k < listed.size := by rw [inv.size]; omega
      simp [h2] at h1 ⊢
      exact h1
    have hfin := good_end hst hns hN hnd H hsz hle htree hG hall
    have hls := firstN_of inv.size hf inv.tail
    have hdl : (ops.toList.drop n).length = ops.size - n := by simp
    have := wpAny_of_seq (md := .any) (Q' := Q) (ops.toList.drop n) n listed a w (fun j => by simp [List.getElem?_drop]) (by rw [hdl, hls]; exact hseq) hfin
    rw [hdl] at this
    rw [Nat.zero_add]
    exact this
  | succ f ih =>
    intro listed a w r hf inv hG
    rw [show f + 1 + (ops.size - n) = (f + (ops.size - n)) + 1 by omega]
    have hex : ∃ i, i < n ∧ listed.getD i true = false := by
      refine Classical.byContradiction fun hno => ?_
      have : unl n listed = 0 := List.countP_eq_zero.2 fun i hi => by
        have hi' := List.mem_range.1 hi
        cases hd : listed.getD i true with
        | true => simp
        | false => exact absurd ⟨i, hi', hd⟩ hno
      omega
    obtain ⟨i0, hi0, hun0⟩ := hex
    obtain ⟨j0, _, hj0⟩ := ready_head H inv.size hle i0 hi0 hun0
    refine ⟨fun h0 => (by rw [h0] at hj0; cases hj0), fun i hi => ?_⟩
    obtain ⟨hun, oi, hoi, _⟩ := mem_ready.1 hi
    rcases Nat.lt_or_ge i n with hin | hin
    · obtain ⟨o, d, h⟩ := H i hin
      have hs := good_step hst hns hC hN hnd H hsz hle htree hG inv hin h hi
      have hunl := unl_set (by rw [inv.size]; omega) hun n hin
      have next : ∀ a' w', (∃ r', Good P ops n Sp C N0 a0 (listed.setIfInBounds i true) a' w' r') → wpAny P .any ops Q (f + (ops.size - n)) (listed.setIfInBounds i true) a' w' :=
        fun a' w' ⟨r', hG'⟩ => ih _ a' w' r' (by omega) (inv.set hi hin) hG'
      unfold wpOp
      simp only [h.op]
      by_cases hw : Region.wanted o (yielded ops a.tmps) = true
      · rw [if_pos hw] at hs ⊢
        exact .inl (wp_of_step (stepAt_mono (fun v w' hv => next _ _ hv) hs))
      · rw [if_neg hw] at hs ⊢
        exact next _ _ hs
    · -- the first of the tail comes up while number s is still to come
      have hilt : i < ops.size := (Array.getElem?_eq_some_iff.1 hoi).1
      have honly : ∀ k, k < n → k ≠ s → listed.getD k true = true := fun k hk hks => by
        cases hd : listed.getD k true with
        | true => rfl
        | false => exact absurd hi (tail_waitsS hsink hchain hn inv _ k rfl hk hks hd i hin)
      have hi0s : i0 = s := Classical.byContradiction fun h => by rw [honly i0 hi0 h] at hun0; cases hun0
      subst hi0s
      have hlsz : listed.size = ops.size := inv.size
      have hlist : listed = firstNS n i0 ops.size := by
        apply Array.ext_getElem?
        intro k
        have e2 : (firstN n ops.size)[k]? = if k < ops.size then some (decide (k < n)) else none := by
          unfold firstN
          rw [List.getElem?_toArray, List.getElem?_map]
          by_cases hk : k < ops.size
          · rw [List.getElem?_range hk, if_pos hk]; rfl
          · rw [List.getElem?_eq_none (by simp; omega), if_neg hk]; rfl
        have e3 : (firstN n ops.size).size = ops.size := by simp [firstN]
        unfold firstNS
        rw [Array.getElem?_setIfInBounds]
        rcases Nat.lt_or_ge k ops.size with hk | hk
        · have e1 : listed[k]? = some (listed.getD k true) := by
            have : k < listed.size := by omega
            simp [this]
          rw [e1, e2, if_pos hk, e3]
          by_cases hki : i0 = k
          · subst hki
            rw [if_pos rfl, if_pos hk, hun0]
          · rw [if_neg hki]
            by_cases hkn : k < n
            · rw [honly k hkn (Ne.symm hki)]; simp [hkn]
            · rw [inv.tail k (by omega) hk]; simp [hkn]
        · rw [Array.getElem?_eq_none (by omega), e2, if_neg (by omega), if_neg (by omega)]
      have hin' : i = n := by
        refine Classical.byContradiction fun hne => ?_
        have h2 := List.all_eq_true.1 hchain i (List.mem_range.2 hilt)
        simp only [Bool.or_eq_true, decide_eq_true_eq] at h2
        rcases h2 with h2 | h2
        · omega
        · obtain ⟨o2, ho2, e2, he2, hb2, hon2⟩ := Region.waitsFor_spec h2
          obtain ⟨_, o3, ho3, hall3⟩ := mem_ready.1 hi
          obtain rfl : o2 = o3 := Option.some.inj (ho2.symm.trans ho3)
          have := hall3 e2 he2 hb2
          rw [hon2, listed_both (inv.tail (i - 1) (by omega) (by omega))] at this
          cases this
      subst hin'
      have hfin := good_endS (Fin := fun a w => ∀ on, ops[i]? = some on → wpList P ops Q (on :: os :: ops.toList.drop (i + 1)) a w) hst hns hN hnd H hsz hle hs hds' hbs htree2 hG (listed_both hun0) (fun k hk hks => by
        have h1 := honly k hk hks
        have h2 : k < listed.size := by omega
        simp [h2] at h1 ⊢
        exact h1) oi hoi
      have hf1 : f = 0 := by
        have hle1 : unl i listed ≤ 1 := by
          unfold unl
          have := List.countP_le_length (p := fun k => decide (k = i0)) (l := List.range i)
          refine Nat.le_trans (List.countP_mono_left (q := fun k => decide (k = i0)) fun k hk h => ?_) ?_
          · simp only [Bool.not_eq_true'] at h
            simp only [decide_eq_true_eq]
            exact Classical.byContradiction fun hne => by rw [honly k (List.mem_range.1 hk) hne] at h; cases h
          · have : (List.range i).countP (fun k => decide (k = i0)) = (List.range i).count i0 := by
              unfold List.count
              congr 1
            rw [this]
            exact List.nodup_iff_count.1 List.nodup_range i0
        omega
      subst hf1
      have hdl : (ops.toList.drop (i + 1)).length = ops.size - i - 1 := by simp; omega
      rw [Nat.zero_add]
      have hwl : wpOp P ops Q i (wpList P ops Q (os :: ops.toList.drop (i + 1))) a w := by
        unfold wpOp; simp only [hoi]; exact hfin
      refine wpOp_mono (fun a' w' h' => ?_) hwl
      rw [hlist]
      rw [show ops.size - i = (ops.size - i - 1) + 1 by omega]
      refine ⟨fun h0 => (by rw [h0] at hr1; cases hr1), fun k hk => ?_⟩
      rw [hr1] at hk
      have hks : k = i0 := by simpa using hk
      subst hks
      have hwl2 : wpOp P ops Q k (wpList P ops Q (ops.toList.drop (i + 1))) a' w' := by
        unfold wpOp; simp only [hos]; exact h'
      refine wpOp_mono (fun a2 w2 h2 => ?_) hwl2
      have := wpAny_of_seq (md := .any) (Q' := Q) (ops.toList.drop (i + 1)) (i + 1) _ a2 w2 (fun j => by simp [List.getElem?_drop]) (by rw [hdl]; exact hseq2) h2
      rw [hdl] at this
      exact this
end

theorem wp_region_swap {P : Program} {id : Nat} {l : List Oper} {Q : Exit → Act → World → Prop} {a : Act} {W : World} (n s : Nat) (u : Value) {os on : Oper} {d : Tmp} (Sp : List (Nat × Spec)) (hm : P.follows .mixedOrders = true) (hB : rgSB l.toArray n s = true) (hz : sizesB l.toArray n a.tmps.size = true)
    (hos : l[s]? = some os) (hon : l[n]? = some on) (hds : os.dst = some d) (hu : a.tmps.getD d undef = u) (st : stables Sp)
    (walk : wpRg P l.toArray (befores l []) Sp (Grw W) W.heap.size (fun a' w' => wpList P l.toArray Q (l.drop n) a' w') (l.take n) 0 a [] [])
    (walk2 : wpRg P l.toArray (befores l []) ((s, .skip u) :: Sp) (Grw W) W.heap.size (fun a' w' => wpList P l.toArray Q (on :: os :: l.drop (n + 1)) (a'.put (some d) u) w') (l.take n) 0 a [] []) :
    (Code.region id l.toArray true).wp P Q a W := by
  subst hu
  refine wp_region_any hm ?_
  unfold rgSB at hB
  simp only [Bool.and_eq_true, decide_eq_true_eq] at hB
  obtain ⟨⟨⟨⟨⟨⟨⟨⟨⟨⟨h1, h2⟩, h3⟩, h4⟩, h5⟩, h6⟩, h7⟩, h8⟩, h9⟩, h10⟩, h11⟩ := hB
  have hnd : ∀ (k : Nat) (o : Oper), l.toArray[k]? = some o → noDefer o = true := fun k o ho => List.all_eq_true.1 h1 o (by
    have : l[k]? = some o := by simpa using ho
    exact List.mem_of_getElem? this)
  have hH : ∀ k, k < n → ∃ o d, HeadOk l.toArray n (befores l []) k o d := fun k hk => headOk_of (List.all_eq_true.1 h4 k (List.mem_range.2 hk))
  have hos' : l.toArray[s]? = some os := by simpa using hos
  rw [hos'] at h8
  simp only [Option.isNone_iff_eq_none] at h8
  have hbs : ∀ i, i < n → isBefore (befores l []) s i = false := fun i hi => by
    have := List.all_eq_true.1 h7 i (List.mem_range.2 hi)
    simpa using this
  have h0 : unl n (Array.replicate l.toArray.size false) = n := by
    unfold unl
    have : (List.range n).countP (fun i => !(Array.replicate l.toArray.size false).getD i true) = (List.range n).length := List.countP_eq_length.2 fun i hi => by
      have hi' := List.mem_range.1 hi
      have h1 : i < l.length := by simp only [List.size_toArray] at h2; omega
      simp [h1]
    rw [this, List.length_range]
  have inv0 : HeadInv .any l.toArray n (Array.replicate l.toArray.size false) :=
    ⟨by simp, fun j oj _ hl => (by rw [getD_replicate_false] at hl; cases hl), fun t _ ht => getD_in (by simpa using ht) (getD_replicate_false _ _)⟩
  have := any_of_goodS (P := P) (Q := Q) (d := d) (stables_spec st) (stables_ns st) (fun w w' h h' => grw_next h h') (fun w h => (grw_below h).size) hnd h2 h3 hos' hds h8 hH (a0 := a) (sizesB_spec hz) h5 h6 hbs h9 h10 h11
    (by simpa using walk) (by
      have e : l.toArray.toList = l := by simp
      rw [e]
      refine wpRg_mono (fun a' w' hw on' hon' => ?_) _ _ _ _ _ walk2
      obtain rfl : on = on' := Option.some.inj (hon.symm.trans (by simpa using hon'))
      exact hw) n _ a { W with drawn := W.drawn + 1 } (fun _ => (0, 0)) h0 inv0
    ⟨grw_of (Below.refl _ W).drew, rfl, rfl, fun _ _ => rfl, fun k o d _ _ _ hl => (by rw [getD_replicate_false] at hl; cases hl), fun k j _ _ _ hl => (by rw [getD_replicate_false] at hl; cases hl)⟩
  rw [show n + (l.toArray.size - n) = l.toArray.size by omega] at this
  exact this
theorem rg_pass {P : Program} {ops : Array Oper} {B : List Nat} {Sp : List (Nat × Spec)} {W : World} {N0 : Nat} {Fin : Act → World → Prop} {o : Oper} {l : List Oper} {i : Nat} {a : Act} {G : List (Nat × (World → Prop))} {rs : List (Nat × Nat)} {u : Value}
    (hw : Region.wanted o (yielded ops a.tmps) = true) (hs : specOf Sp i = some (.skip u)) (h : ∀ a', a' = a.put o.dst u → wpRg P ops B Sp (Grw W) N0 Fin l (i + 1) a' G rs) : wpRg P ops B Sp (Grw W) N0 Fin (o :: l) i a G rs := by
  unfold wpRg; rw [if_pos hw, hs]; exact h _ rfl
theorem wpList_putS {P : Program} {ops : Array Oper} {l : List Oper} {Q : Exit → Act → World → Prop} {a : Act} {d : Option Tmp} {u : Value} {w : World} (h : ∀ a', a' = a.put d u → wpList P ops Q l a' w) : wpList P ops Q l (a.put d u) w := h _ rfl
end Go.Proofs.YtficeebbbkmhcaaGreatDoor
namespace Go.Proofs.YtficeebbbkmhcaaGreatDoor
open Go.RowKit

attribute [local irreducible] wpRg
end Go.Proofs.YtficeebbbkmhcaaGreatDoor
namespace Go.Proofs.YtficeebbbkmhcaaGreatDoor
open Go.RowKit

attribute [local irreducible] wpRg
end Go.Proofs.YtficeebbbkmhcaaGreatDoor
namespace Go.Proofs.YtficeebbbkmhcaaGreatDoor
open Go.RowKit

def OwA (l : List Nat) (lo hi : Nat) (v : Value) (w : World) : Prop := OwB lo w v l ∧ ∀ g, v.ownBlock = some g → g < hi
theorem OwB.a {base : Nat} {w : World} {v : Value} {l : List Nat} (h : OwB base w v l) : OwA l base w.heap.size v w := ⟨h, fun _ hg => (own_block h hg).2⟩
end Go.Proofs.YtficeebbbkmhcaaGreatDoor
namespace Go.Proofs.YtficeebbbkmhcaaGreatDoor
open Go.RowKit

attribute [local irreducible] wpRg
end Go.Proofs.YtficeebbbkmhcaaGreatDoor
namespace Go.Proofs.YtficeebbbkmhcaaGreatDoor
open Go.RowKit

attribute [local irreducible] wpRg
def BylS (lo hi : Nat) (w : World) (v : Value) (ps : List (List Nat)) : Prop := ∃ us : List Value, us.length = ps.length ∧ Rd lo hi 1 w v ps.length us ∧ ∀ (i : Nat) (u : Value) (p : List Nat), us[i]? = some u → ps[i]? = some p → ∃ lo hi, ByS lo hi w u p
theorem BylS.len {lo hi : Nat} {w : World} {v : Value} {ps : List (List Nat)} (h : BylS lo hi w v ps) : ∃ A cap, v = .slice A ps.length cap := by
  obtain ⟨us, _, h2, _⟩ := h
  exact Rd.len h2
theorem BylS.keep {lo hi : Nat} {w X : World} {v : Value} {ps : List (List Nat)} (h : BylS lo hi w v ps) (hb : Below w.heap.size w X) : BylS lo hi X v ps := by
  obtain ⟨us, h1, h2, h3⟩ := h
  refine ⟨us, h1, h2.keep hb, fun i u p hu hp => ?_⟩
  obtain ⟨l, r, h4⟩ := h3 i u p hu hp
  exact ⟨l, r, h4.keep hb⟩
end Go.Proofs.YtficeebbbkmhcaaGreatDoor
namespace Go.Proofs.YtficeebbbkmhcaaGreatDoor
open Go.RowKit

attribute [local irreducible] wpRg
end Go.Proofs.YtficeebbbkmhcaaGreatDoor
namespace Go.Proofs.YtficeebbbkmhcaaGreatDoor
open Go.RowKit

structure Mut (w X : World) (g : Nat) : Prop where
  os : X.os = w.os
  tape : X.tape = w.tape
  output : X.output = w.output
  size : w.heap.size ≤ X.heap.size
  other : ∀ k, k < w.heap.size → k ≠ g → X.heap[k]? = w.heap[k]?
theorem Mut.of_below {w X : World} {g : Nat} (h : Below w.heap.size w X) : Mut w X g := ⟨h.os, h.tape, h.output, h.size, fun k hk _ => h.block k hk⟩
theorem Mut.put {w X Y : World} {g : Nat} (h : Mut w X g) (p : Put X Y g) : Mut w Y g := ⟨p.os.trans h.os, p.tape.trans h.tape, p.output.trans h.output, by rw [p.size]; exact h.size, fun k hk hne => (p.other k hne).trans (h.other k hk hne)⟩
theorem Mut.below {w X Y : World} {g : Nat} (h : Mut w X g) (p : Below X.heap.size X Y) : Mut w Y g := ⟨p.os.trans h.os, p.tape.trans h.tape, p.output.trans h.output, Nat.le_trans h.size p.size, fun k hk hne => (p.block k (Nat.lt_of_lt_of_le hk h.size)).trans (h.other k hk hne)⟩
section
variable {w W X : World} {n4 n5 g0 : Nat} {ty : TypeId} {sc : List B32} {r s : S8}
end
def S8.get (s : S8) (j : Nat) : B32 := [s.a, s.b, s.c, s.d, s.e, s.f, s.g, s.h].getD j 0
theorem S8.at {s : S8} {j : Nat} (h : j < 8) : s.cells[j]? = some (.int .u32 (bv (s.get j))) := by
  rcases j with _ | _ | _ | _ | _ | _ | _ | _ | j
  all_goals first | rfl | omega
attribute [local irreducible] wpRg
end Go.Proofs.YtficeebbbkmhcaaGreatDoor
namespace Go.Proofs.YtficeebbbkmhcaaGreatDoor
open Go.RowKit

def SeqCell {α : Type} (n : Nat) (P : Program) (gf : Nat) (lb : Array Value) (enc : α → Array Value) (Bv : Nat) (S : Nat → Prop) (xs : List α) (w : World) : Prop :=
  ∀ (l : Nat) (J : List α → World → Prop) (W : World), Below w.heap.size w W → (∀ s A B, J s A → Below A.heap.size A B → J s B) → (∀ s A B, J s A → Put A B Bv → J s B) →
    (∀ pre x W1, J pre W1 → pre.length < xs.length → YieldAt .wide (n - 1) P l (enc x) W1 fun e W' => e = .returned (.bool true) ∧ J (pre ++ [x]) W' ∧ Keeps S W1 W') → J [] W →
    CallsIn .wide n P gf (#[.func (.yield l) #[] #[]] ++ lb) W fun e W' => (∃ v, e = .returned v) ∧ J xs W'
theorem put_same {A B : World} {g k : Nat} (h : Put A B g) (hk : k ≠ g) {o : Obj} (ho : A.heap[k]? = some o) : B.heap[k]? = some o := (h.other k hk).trans ho
theorem below_same {A B : World} {k : Nat} (h : Below A.heap.size A B) {o : Obj} (ho : A.heap[k]? = some o) : B.heap[k]? = some o := (h.block k (Array.getElem?_eq_some_iff.1 ho).1).trans ho
theorem wpIn_seqW {α : Type} {n : Nat} {P : Program} {g : Operand} {p1 : Tmp} {assign body : Code} {Q : Exit → Act → World → Prop} {a : Act} {w w0 : World} {gf Bv : Nat} {lb : Array Value} {e1 : α → Value} {S : Nat → Prop} {xs : List α}
    (hseq : SeqCell (n - 1) P gf lb (fun x => #[e1 x]) Bv S xs w0) (hb0 : Below w0.heap.size w0 w) (h1 : 1 ≤ n) (hg : a.eval g = .func (.func gf) #[] lb) (eg : ∀ args w, (callFunc gf args).run P w = .ok (.enter gf args) w)
    (hBv : Bv < w.heap.size) (hS : ∀ g, S g → g < w.heap.size)
    (I : List α → World → Prop) (hI1 : ∀ s A B, I s A → Below A.heap.size A B → I s B) (hI2 : ∀ s A B, I s A → Put A B Bv → I s B) (hI3 : ∀ s (W : World) (l : Nat) (o : Obj), w.heap.size ≤ l → I s W → I s (W.putObj l o)) (h0 : I [] w) (slot : Tmp) (t : TypeId) (cx : α → Array Value)
    (hassign : ∀ (l : Nat) (x : α) (W : World) (K : Act → World → Prop), (∀ a' W', a' = { tmps := (a.tmps.setIfInBounds p1 (e1 x)).setIfInBounds slot (.pointer (some ⟨W.heap.size, 0, none⟩)), defers := [] } → W' = W.alloc (.cells (cx x) t) → K a' W') →
      assign.wpIn (Fence.wide.inRound l) (n - 1 - 1) P (Exit.then K (fun _ _ _ => False)) { tmps := a.tmps.setIfInBounds p1 (e1 x), defers := [] } W)
    (hbody : ∀ (l : Nat) (pre : List α) (x : α) (Bx : Nat) (W : World) (a' : Act), a' = { tmps := (a.tmps.setIfInBounds p1 (e1 x)).setIfInBounds slot (.pointer (some ⟨Bx, 0, none⟩)), defers := [] } → I pre W → w.heap.size ≤ Bx → Blk W Bx t (cx x) → pre.length < xs.length →
      body.wpIn (Fence.wide.inRound l) (n - 1 - 1) P (fun e _ W' => e = .normal ∧ KeepsOthers W W' ∧ Keeps S W W' ∧ I (pre ++ [x]) W') a' W)
    (hdone : ∀ (D : Nat) (W : World), w.heap.size ≤ D → I xs W → W.heap[D]? = some (.deferred (some [])) → Q .normal { a with defers := { target := .collected D, args := #[] } :: a.defers } W) :
    (Code.rangeFunc g #[p1] assign body).wpIn .wide n P Q a w := by
  refine wpIn_rangeFunc fun fn hfn => ?_
  obtain ⟨rec, hrec⟩ : ∃ rec : LoopState → Loop, rec = fun st => { state := st, pending := none, fn, tmps := a.tmps, params := #[p1], assign, body, defers := w.heap.size } := ⟨_, rfl⟩
  obtain ⟨W1, hW1⟩ : ∃ W1, (w.alloc (.deferred (some []))).alloc (.loop (rec .ready)) = W1 := ⟨_, rfl⟩
  have hb1 : Below w.heap.size w W1 := by rw [← hW1]; exact ((Below.refl _ w).alloc (Nat.le_refl _) _).alloc (by simp) _
  have hL1 : W1.heap[w.heap.size + 1]? = some (.loop (rec .ready)) := by
    rw [← hW1]; have := World.alloc_heap_new (w.alloc (.deferred (some []))) (.loop (rec .ready)); rwa [World.size_alloc] at this
  have hK1 : W1.heap[w.heap.size]? = some (.deferred (some [])) := by
    rw [← hW1]; exact (Below.heap_alloc _ _ _ (by simp)).trans (World.alloc_heap_new w _)
  refine ⟨w.heap.size + 1, [{ target := .collected w.heap.size, args := #[] }], W1, { target := .fn (.func gf) lb, args := #[.func (.yield (w.heap.size + 1)) #[] #[]] }, W1, gf,
    #[.func (.yield (w.heap.size + 1)) #[] #[]] ++ lb, W1, ?_, ?_, ?_, ?_, fun _ => h1, ?_⟩
  · rw [← hW1, hrec]; exact run_enterLoop_outer _ _ _ _ _
  · simp only [resolve, hg]
    simp [go_sem]
  · intro f' hf'; trivial
  · simp [invoke, go_sem, eg]
  refine (hseq (w.heap.size + 1) (fun pre W => I pre W ∧ W.heap[w.heap.size + 1]? = some (.loop (rec .ready)) ∧ W.heap[w.heap.size]? = some (.deferred (some []))) W1 (hb0.trans (hb1.mono hb0.size))
    (fun s A B hs hb => ⟨hI1 s A B hs.1 hb, below_same hb hs.2.1, below_same hb hs.2.2⟩) (fun s A B hs hp => ⟨hI2 s A B hs.1 hp, put_same hp (by omega) hs.2.1, put_same hp (by omega) hs.2.2⟩) ?_ ⟨hI1 _ _ _ h0 hb1, hL1, hK1⟩).mono ?_
  · rintro pre x W ⟨hi, hl, hk⟩ hlen
    have hy := run_yield (P := P) (args := #[e1 x]) hl (by rw [hrec]; rfl)
    rw [hrec] at hy
    refine ⟨fn, _, assign, body, hy, roundIn_of_wpIn hfn ?_⟩
    have ha0 : ((#[p1] : Array Tmp).zip (#[e1 x] : Array Value)).foldl (fun t (p, v) => t.setIfInBounds p v) a.tmps = a.tmps.setIfInBounds p1 (e1 x) := by simp
    simp only [ha0]
    refine hassign _ x W _ ?_
    rintro a' Wa ha rfl
    have hba : Below W.heap.size W (W.alloc (.cells (cx x) t)) := (Below.refl _ _).alloc (Nat.le_refl _) _
    have hla := below_same hba hl
    have hka := below_same hba hk
    have hlt := (Array.getElem?_eq_some_iff.1 hla).1
    have hwW : w.heap.size + 1 < W.heap.size := (Array.getElem?_eq_some_iff.1 hl).1
    refine ⟨_, run_beginRound hla (by rw [hrec]), ?_⟩
    obtain ⟨Wb, hWb⟩ : ∃ Wb, Wb = (W.alloc (.cells (cx x) t)).putObj (w.heap.size + 1) (.loop { rec .ready with state := .busy }) := ⟨_, rfl⟩
    have hl2 : Wb.heap[w.heap.size + 1]? = some (.loop { rec .ready with state := .busy }) := by rw [hWb]; exact World.putObj_heap_same hlt
    have hk2 : Wb.heap[w.heap.size]? = some (.deferred (some [])) := by rw [hWb]; exact (World.putObj_heap_other (by omega)).trans hka
    have hi2 : I pre Wb := by rw [hWb]; exact hI3 _ _ _ _ (by omega) (hI1 _ _ _ hi hba)
    have hx2 : Blk Wb W.heap.size t (cx x) := by rw [hWb]; exact (World.putObj_heap_other (by omega)).trans (Blk.new _ _ _)
    have hkS : Keeps S W Wb := by
      rw [hWb]
      refine (Keeps.of_below hba).trans ⟨by simp, fun g hg _ => World.putObj_heap_other (by have := hS g hg; omega)⟩
    rw [← hWb]
    refine wpIn_mono (hbody _ pre x W.heap.size Wb a' ha hi2 (by omega) hx2 hlen) ?_
    rintro e a3 W3 ⟨rfl, hk3, hkp3, hi3⟩
    have hl3 := hk3.same _ _ hl2 rfl
    have hkk3 := hk3.same _ _ hk2 rfl
    have hend := run_endRound (P := P) none hl3
    have hl4 : (W3.putObj (w.heap.size + 1) (.loop (rec .ready))).heap[w.heap.size + 1]? = some (.loop (rec .ready)) := World.putObj_heap_same (Array.getElem?_eq_some_iff.1 hl3).1
    have hk4 : (W3.putObj (w.heap.size + 1) (.loop (rec .ready))).heap[w.heap.size]? = some (.deferred (some [])) := (World.putObj_heap_other (by omega)).trans hkk3
    refine ⟨_, W3.putObj (w.heap.size + 1) (.loop (rec .ready)), ?_, rfl, ⟨hI3 _ _ _ _ (by omega) hi3, hl4, hk4⟩, (hkS.trans hkp3).trans ⟨by simp, fun g hg _ => World.putObj_heap_other (by have := hS g hg; omega)⟩⟩
    rw [hrec] at hend ⊢
    exact hend
  · rintro e W2 ⟨⟨v, rfl⟩, hi, hl, hk⟩
    exact ⟨none, _, by have := run_endLoop (P := P) hl (by rw [hrec]; simp); rw [hrec] at this; exact this, hdone _ _ (Nat.le_refl _) (hI3 _ _ _ _ (by omega) hi) ((World.putObj_heap_other (by omega)).trans hk)⟩
end Go.Proofs.YtficeebbbkmhcaaGreatDoor
namespace Go.Proofs.YtficeebbbkmhcaaGreatDoor
open Go Go.RowKit

def isMove (o : Oper) : Bool := match o.op with | .move _ => true | _ => false
def lateM (ops : Array Oper) (n : Nat) : List Nat → Array Bool → Bool
  | [], _ => true
  | i :: L, listed => decide (i < n) && (Region.ready .any ops listed).contains i && Region.free .any ops listed i && (match ops[i]? with | some o => isMove o && o.guard.isNone | none => false) && lateM ops n L (listed.setIfInBounds i true)
def rgLM (ops : Array Oper) (n : Nat) (L : List Nat) : Bool :=
  let B := befores ops.toList []
  ops.toList.all noDefer && Region.noSelect ops && decide (n ≤ ops.size) && (List.range n).all (headB ops n B) && sinkL ops n L && Region.chainB .any ops n &&
    Region.seqB .any ops (ops.size - n) n (firstN n ops.size) && lateM ops n L (Array.replicate ops.size false)
section
variable {P : Program} {ops : Array Oper} {n : Nat} {B : List Nat} {Sp : List (Nat × Spec)} {C : World → Prop} {N0 : Nat} {a0 : Act}
theorem wpAnyH_of_seqM {Q : Exit → Act → World → Prop} : ∀ (l : List Oper) (k : Nat) (listed : Array Bool) (a : Act) (w : World), (∀ j, l[j]? = ops[k + j]?) →
    Region.seqB .any ops l.length k listed = true → wpList P ops Q l a w → wpAnyH P .any ops Q (fun _ => True) l.length listed a w
  | [], _, _, _, _, _, hB, h => ⟨by simpa [Region.seqB] using hB, h⟩
  | o :: l, k, listed, a, w, hl, hB, h => by
    have h0 : ops[k]? = some o := by simpa using (hl 0).symm
    simp only [List.length_cons, Region.seqB, Bool.and_eq_true, decide_eq_true_eq] at hB
    refine ⟨fun h1 => (by rw [hB.1] at h1; cases h1), fun i hi => ?_⟩
    rw [hB.1] at hi
    have hik : i = k := by simpa using hi
    subst hik
    unfold wpList at h
    unfold wpOp
    simp only [h0]
    have next : ∀ a' w', wpList P ops Q l a' w' → (fun _ => True) w' ∧ wpAnyH P .any ops Q (fun _ => True) l.length (listed.setIfInBounds i true) a' w' := fun a' w' h' =>
      ⟨trivial, wpAnyH_of_seqM l (i + 1) _ a' w' (fun j => by have := hl (j + 1); simpa [Nat.add_assoc, Nat.add_comm 1 j] using this) hB.2 h'⟩
    by_cases hw : Region.wanted o (yielded ops a.tmps) = true
    · rw [if_pos hw] at h ⊢
      exact h.imp (Oper.wp_mono fun a' w' h' => next a' w' h') id
    · rw [if_neg hw] at h ⊢
      exact next _ _ h
theorem anyH_of_goodM {Q : Exit → Act → World → Prop} {L : List Nat} (hst : ∀ i A F, specOf Sp i = some (.rel A F) → Fit A F) (hns : ∀ i u, specOf Sp i ≠ some (.skip u)) (hC : ∀ w w', C w → Below w.heap.size w w' → C w') (hN : ∀ w, C w → N0 ≤ w.heap.size)
    (hnd : ∀ (k : Nat) (o : Oper), ops[k]? = some o → noDefer o = true) (hle : n ≤ ops.size) (H : ∀ k, k < n → ∃ o d, HeadOk ops n B k o d) (hsink : sinkL ops n L = true) (hchain : Region.chainB .any ops n = true) (hseq : Region.seqB .any ops (ops.size - n) n (firstN n ops.size) = true)
    (hsz : ∀ (k : Nat) (d : Tmp), k < n → dstOf ops k = some d → d < a0.tmps.size)
    (htree : wpRg P ops B Sp C N0 (fun a w => wpList P ops Q (ops.toList.drop n) a w) (ops.toList.take n) 0 a0 [] []) :
    ∀ (f : Nat) (listed : Array Bool) (a : Act) (w : World) (r : Nat → Nat × Nat), unl n listed = f → (∀ i ∈ L, i < n → listed.getD i true = true) → HeadInv .any ops n listed → Good P ops n Sp C N0 a0 listed a w r → wpAnyH P .any ops Q (fun _ => True) (f + (ops.size - n)) listed a w := by
  intro f
  induction f with
  | zero =>
    intro listed a w r hf hLl inv hG
    have hall : ∀ k, k < n → listed.getD k false = true := fun k hk => by
      have h1 := unl_zero hf k hk
      have h2 : k < listed.size := by rw [inv.size]; omega
      simp [h2] at h1 ⊢
      exact h1
    have hfin := good_end hst hns hN hnd H hsz hle htree hG hall
    have hls := firstN_of inv.size hf inv.tail
    have hdl : (ops.toList.drop n).length = ops.size - n := by simp
    have := wpAnyH_of_seqM (Q := Q) (ops.toList.drop n) n listed a w (fun j => by simp [List.getElem?_drop]) (by rw [hdl, hls]; exact hseq) hfin
    rw [hdl] at this
    rw [Nat.zero_add]
    exact this
  | succ f ih =>
    intro listed a w r hf hLl inv hG
    rw [show f + 1 + (ops.size - n) = (f + (ops.size - n)) + 1 by omega]
    have hex : ∃ i, i < n ∧ listed.getD i true = false := by
      refine Classical.byContradiction fun hno => ?_
      have : unl n listed = 0 := List.countP_eq_zero.2 fun i hi => by
        have hi' := List.mem_range.1 hi
        cases hd : listed.getD i true with
        | true => simp
        | false => exact absurd ⟨i, hi', hd⟩ hno
      omega
    obtain ⟨i0, hi0, hun0⟩ := hex
    obtain ⟨j0, _, hj0⟩ := ready_head H inv.size hle i0 hi0 hun0
    refine ⟨fun h0 => (by rw [h0] at hj0; cases hj0), fun i hi => ?_⟩
    obtain ⟨hun, oi, hoi, _⟩ := mem_ready.1 hi
    have hin : i < n := by
      rcases Nat.lt_or_ge i n with h | h
      · exact h
      · have hlt : i < ops.size := (Array.getElem?_eq_some_iff.1 hoi).1
        exact absurd hi (tail_waitsL hsink hchain (by omega) inv hLl _ i0 rfl hi0 hun0 i h)
    obtain ⟨o, d, h⟩ := H i hin
    have hs := good_step hst hns hC hN hnd H hsz hle htree hG inv hin h hi
    have hisz : i < listed.size := by rw [inv.size]; omega
    have hunl := unl_set hisz hun n hin
    have next : ∀ a' w', (∃ r', Good P ops n Sp C N0 a0 (listed.setIfInBounds i true) a' w' r') → (fun _ => True) w' ∧ wpAnyH P .any ops Q (fun _ => True) (f + (ops.size - n)) (listed.setIfInBounds i true) a' w' :=
      fun a' w' ⟨r', hG'⟩ => ⟨trivial, ih _ a' w' r' (by omega) (fun k hk hkn => by
        by_cases hik : i = k
        · subst hik; simp [hisz]
        · rw [getD_set_ne true hik]; exact hLl k hk hkn) (inv.set hi hin) hG'⟩
    unfold wpOp
    simp only [h.op]
    by_cases hw : Region.wanted o (yielded ops a.tmps) = true
    · rw [if_pos hw] at hs ⊢
      exact .inl (wp_of_step (stepAt_mono (fun v w' hv => next _ _ hv) hs))
    · rw [if_neg hw] at hs ⊢
      exact next _ _ hs

theorem good_lateM {Fin : Act → World → Prop} (hst : ∀ i A F, specOf Sp i = some (.rel A F) → Fit A F) (hns : ∀ i u, specOf Sp i ≠ some (.skip u)) (hC : ∀ w w', C w → Below w.heap.size w w' → C w') (hN : ∀ w, C w → N0 ≤ w.heap.size)
    (hnd : ∀ (k : Nat) (o : Oper), ops[k]? = some o → noDefer o = true) (H : ∀ k, k < n → ∃ o d, HeadOk ops n B k o d) (hsz : ∀ (k : Nat) (d : Tmp), k < n → dstOf ops k = some d → d < a0.tmps.size)
    (hn : n ≤ ops.size) (htree : wpRg P ops B Sp C N0 Fin (ops.toList.take n) 0 a0 [] [])
    {listed : Array Bool} {a : Act} {w : World} {r : Nat → Nat × Nat} (hG : Good P ops n Sp C N0 a0 listed a w r) (inv : HeadInv .any ops n listed)
    {i : Nat} {o : Oper} {d : Tmp} (hi : i < n) (h : HeadOk ops n B i o d) (hr : i ∈ Region.ready .any ops listed) (hs : specOf Sp i = none) (hlo : isMove o = true) (hg : o.guard = none) :
    ∃ v, YieldsIf P ops (fun _ => True) o v a ∧ ∃ r', Good P ops n Sp C N0 a0 (listed.setIfInBounds i true) (a.put o.dst v) w r' := by
  obtain ⟨hun, o', ho', hall⟩ := mem_ready.1 hr
  obtain rfl : o = o' := Option.some.inj (h.op.symm.trans ho')
  have hdi : dstOf ops i = some d := by unfold dstOf; rw [h.op]; exact h.dst
  have hlt : d < a.tmps.size := by rw [hG.size]; exact hsz i d hi hdi
  have hPl : ∀ k, k < n → isBefore B k i = true → listed.getD k false = true := fun k _ hk =>
    before_listed H inv hi (fun o2 ho2 e he hb => by
      obtain rfl : o = o2 := Option.some.inj (h.op.symm.trans ho2)
      exact hall e he hb) k hk
  have hPb : ∀ k j, k < n → isBefore B k i = true → isBefore B j k = true → isBefore B j i = true := fun k j _ h1 h2 => before_trans H hi k j h1 h2
  have htl : (ops.toList.take n).length = n := by simp; omega
  obtain ⟨l', b, G, rs, hl1, hl2, R, hw⟩ := descend hnd H hsz hG hPl hPb hst (fun k u h => absurd h (hns k u)) hN (Nat.le_of_lt hi) (ops.toList.take n) 0 a0 [] [] (Nat.zero_le _) (by rw [htl]; omega)
    (fun j hj => by rw [htl] at hj; simp [hj]) ⟨rfl, rfl, fun _ _ => rfl, fun j hj => absurd hj (by omega), fun φ hφ => (by cases hφ), fun ρ hρ => (by cases hρ), fun φ hφ => (by cases hφ)⟩ htree
  have hag : ∀ t ∈ o.looksAt ops, b.tmps[t]? = a.tmps[t]? := rel_agree H hG hi (fun j hj => hj) h R
  have hex := exec_agree (hnd i o h.op) hag
  have hwa : Region.wanted o (yielded ops b.tmps) = true := by unfold Region.wanted; rw [hg]
  have hwant : Region.wanted o (yielded ops a.tmps) = true := by unfold Region.wanted; rw [hg]
  have hself : ∀ v, ∀ t ∈ o.looksAt ops, (a.put o.dst v).tmps[t]? = a.tmps[t]? := fun v t ht => by
    rw [h.dst]
    refine put_ne fun e => ?_
    subst e
    have := before_lt H hi i (h.wr t ht i hi hdi)
    omega
  have hself2 : ∀ v, execOp (a.put o.dst v).eval o = execOp a.eval o := fun v => exec_agree (hnd i o h.op) (hself v)
  have hself3 : ∀ v, Region.wanted o (yielded ops (a.put o.dst v).tmps) = Region.wanted o (yielded ops a.tmps) := fun v => wanted_agree (hself v)
  have hval : ∀ v, (a.put o.dst v).tmps.getD d undef = v := fun v => by rw [h.dst]; exact put_getD hlt
  cases l' with
  | nil => simp only [List.length_nil] at hl1; omega
  | cons o2 l' =>
    have : o2 = o := by
      have := hl2 0 (by simp)
      rw [Nat.add_zero, h.op] at this
      simpa using this
    subst this
    unfold wpRg at hw
    rw [if_pos hwa, hs] at hw
    obtain ⟨hcalm, v, hv, _⟩ := hw
    have hq : ∀ w, C w → o2.quietAt P a C w v := fun w hw => quietAt_same hex.symm (hv w hw)
    refine ⟨v, .inl ⟨hwant, fun w' hw' => ?_⟩, _, good_next hst hC hN hnd H hsz hG inv hi h hun (Below.refl _ _) (fun r' _ => ⟨fun e => ?_, fun _ _ => ⟨hcalm, w, hG.c, ?_⟩, fun _ u' hs' => ?_, fun _ A F hs' => ?_⟩)⟩
    · obtain ⟨x, hx⟩ : ∃ x, o2.op = .move x := by
        revert hlo
        unfold isMove
        cases o2.op <;> intro h0 <;> first | exact ⟨_, rfl⟩ | cases h0
      have hq' := hq w hG.c
      unfold Oper.quietAt at hq'
      unfold execOp at hq' ⊢
      simp only [hx] at hq' ⊢
      obtain ⟨_, rfl⟩ := hq'
      rfl
    · rw [hself3, hwant] at e; cases e
    · rw [hval]; exact quietAt_same (hself2 _) (hq w hG.c)
    · rw [hs] at hs'; cases hs'
    · rw [hs] at hs'; cases hs'

theorem late_takeM {L0 : List Nat} {Q : Exit → Act → World → Prop} {Fin : Act → World → Prop} (hst : ∀ i A F, specOf Sp i = some (.rel A F) → Fit A F) (hns : ∀ i u, specOf Sp i ≠ some (.skip u)) (hC : ∀ w w', C w → Below w.heap.size w w' → C w') (hN : ∀ w, C w → N0 ≤ w.heap.size)
    (hnd : ∀ (k : Nat) (o : Oper), ops[k]? = some o → noDefer o = true) (hsel : Region.noSelect ops = true) (H : ∀ k, k < n → ∃ o d, HeadOk ops n B k o d) (hsz : ∀ (k : Nat) (d : Tmp), k < n → dstOf ops k = some d → d < a0.tmps.size)
    (hn : n ≤ ops.size) (htree : wpRg P ops B Sp C N0 Fin (ops.toList.take n) 0 a0 [] []) (hQ : ∀ c (a : Act) d v w, Q (.panic c) (a.put d v) w → Q (.panic c) a w)
    (fin : ∀ (listed : Array Bool) (a : Act) (w : World) (r : Nat → Nat × Nat), HeadInv .any ops n listed → Good P ops n Sp C N0 a0 listed a w r → (∀ i, i ∈ L0 → i < n → listed.getD i true = true) → wpAnyH P .any ops Q (fun _ => True) (unl n listed + (ops.size - n)) listed a w) :
    ∀ (L : List Nat) (listed : Array Bool) (a : Act) (w : World) (r : Nat → Nat × Nat), HeadInv .any ops n listed → Good P ops n Sp C N0 a0 listed a w r → lateM ops n L listed = true → (∀ i ∈ L, specOf Sp i = none) → (∀ i ∈ L0, i < n → i ∈ L ∨ listed.getD i true = true) →
      wpAnyH P .any ops Q (fun _ => True) (unl n listed + (ops.size - n)) listed a w
  | [], listed, a, w, r, inv, hG, _, _, hl => fin listed a w r inv hG fun i hi hin => (hl i hi hin).resolve_left (by simp)
  | i :: L, listed, a, w, r, inv, hG, hB, hs, hl => by
    simp only [lateM, Bool.and_eq_true, decide_eq_true_eq] at hB
    obtain ⟨⟨⟨⟨h1, h2⟩, h3⟩, h4⟩, h5⟩ := hB
    have hr : i ∈ Region.ready .any ops listed := by simpa using h2
    obtain ⟨o, d, h⟩ := H i h1
    rw [h.op] at h4
    simp only [Bool.and_eq_true, Option.isNone_iff_eq_none] at h4
    obtain ⟨v, hy, r', hG'⟩ := good_lateM hst hns hC hN hnd H hsz hn htree hG inv h1 h hr (hs i (List.mem_cons_self ..)) h4.1 h4.2
    have hun := (mem_ready.1 hr).1
    have hisz : i < listed.size := by rw [inv.size]; omega
    have hunl := unl_set hisz hun n h1
    rw [← hunl, show unl n (listed.setIfInBounds i true) + 1 + (ops.size - n) = (unl n (listed.setIfInBounds i true) + (ops.size - n)) + 1 by omega]
    refine wpAnyH_take h.op hsel h3 h2 (fun c a w => hQ c a _ _ w) hy trivial ?_
    refine late_takeM hst hns hC hN hnd hsel H hsz hn htree hQ fin L _ _ w r' (inv.set hr h1) hG' h5 (fun k hk => hs k (List.mem_cons_of_mem _ hk)) fun k hk hkn => ?_
    by_cases hik : i = k
    · subst hik; exact .inr (by simp [hisz])
    · rcases hl k hk hkn with h | h
      · rcases List.mem_cons.1 h with h | h
        · exact absurd h.symm hik
        · exact .inl h
      · exact .inr (by rw [getD_set_ne true hik]; exact h)
end

theorem wp_region_lateM {P : Program} {id : Nat} {l : List Oper} {Q : Exit → Act → World → Prop} {a : Act} {W : World} (n : Nat) (L : List Nat) (Sp : List (Nat × Spec)) (hm : P.follows .mixedOrders = true) (hB : rgLM l.toArray n L = true) (hz : sizesB l.toArray n a.tmps.size = true) (hs : (L.all fun i => (specOf Sp i).isNone) = true)
    (hQ : ∀ c (a : Act) d v w, Q (.panic c) (a.put d v) w → Q (.panic c) a w)
    (st : stables Sp) (walk : wpRg P l.toArray (befores l []) Sp (Grw W) W.heap.size (fun a' w' => wpList P l.toArray Q (l.drop n) a' w') (l.take n) 0 a [] []) : (Code.region id l.toArray true).wp P Q a W := by
  refine wp_region_any hm ?_
  unfold rgLM at hB
  simp only [Bool.and_eq_true, decide_eq_true_eq] at hB
  obtain ⟨⟨⟨⟨⟨⟨⟨h1, h2⟩, h3⟩, h4⟩, h5⟩, h6⟩, h7⟩, h8⟩ := hB
  have hnd : ∀ (k : Nat) (o : Oper), l.toArray[k]? = some o → noDefer o = true := fun k o ho => List.all_eq_true.1 h1 o (by
    have : l[k]? = some o := by simpa using ho
    exact List.mem_of_getElem? this)
  have hH : ∀ k, k < n → ∃ o d, HeadOk l.toArray n (befores l []) k o d := fun k hk => headOk_of (List.all_eq_true.1 h4 k (List.mem_range.2 hk))
  have h0 : unl n (Array.replicate l.toArray.size false) = n := by
    unfold unl
    have : (List.range n).countP (fun i => !(Array.replicate l.toArray.size false).getD i true) = (List.range n).length := List.countP_eq_length.2 fun i hi => by
      have hi' := List.mem_range.1 hi
      have h1 : i < l.length := by simp only [List.size_toArray] at h3; omega
      simp [h1]
    rw [this, List.length_range]
  have inv0 : HeadInv .any l.toArray n (Array.replicate l.toArray.size false) :=
    ⟨by simp, fun j oj _ hl => (by rw [getD_replicate_false] at hl; cases hl), fun t _ ht => getD_in (by simpa using ht) (getD_replicate_false _ _)⟩
  have hst := stables_spec st
  have walk' : wpRg P l.toArray (befores l []) Sp (Grw W) W.heap.size (fun a' w' => wpList P l.toArray Q (l.toArray.toList.drop n) a' w') (l.toArray.toList.take n) 0 a [] [] := by simpa using walk
  have fin := fun (listed : Array Bool) (a' : Act) (w' : World) (r : Nat → Nat × Nat) (inv : HeadInv .any l.toArray n listed) (hG : Good P l.toArray n Sp (Grw W) W.heap.size a listed a' w' r) (hl : ∀ i, i ∈ L → i < n → listed.getD i true = true) =>
    anyH_of_goodM (P := P) (Q := Q) (L := L) hst (stables_ns st) (fun w w' h h' => grw_next h h') (fun w h => (grw_below h).size) hnd h3 hH h5 h6 h7 (a0 := a) (sizesB_spec hz) walk' (unl n listed) listed a' w' r rfl hl inv hG
  have := late_takeM (P := P) (Q := Q) (L0 := L) hst (stables_ns st) (fun w w' h h' => grw_next h h') (fun w h => (grw_below h).size) hnd h2 hH (a0 := a) (sizesB_spec hz) h3 walk' hQ fin L _ a { W with drawn := W.drawn + 1 } (fun _ => (0, 0)) inv0
    ⟨grw_of (Below.refl _ W).drew, rfl, rfl, fun _ _ => rfl, fun k o d _ _ _ hl => (by rw [getD_replicate_false] at hl; cases hl), fun k j _ _ _ hl => (by rw [getD_replicate_false] at hl; cases hl)⟩ h8
    (fun i hi => by simpa using List.all_eq_true.1 hs i hi) (fun i hi _ => .inl hi)
  rw [h0, show n + (l.toArray.size - n) = l.toArray.size by omega] at this
  exact wpAny_of_held _ _ _ _ this
end Go.Proofs.YtficeebbbkmhcaaGreatDoor
