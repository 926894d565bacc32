/-
  The law of a region that draws its order, for a region in which one operation of the head may come behind the first of the forced ones: the two orders are walked one by one.
  Transcripts of the reference: absorbing elements, the challenge.
  Transcripts of the reference: a new one.
  The program's rotation, and bytes: a copy, a word appended, a word read.
  The program's bytes: a word appended, a word read.
-/
import Derived.Test.YtkgglhakimkkhaaGreatDoorRgL
import Derived.Test.YtkgglhakimkkhaaGreatDoorTag4
namespace Go.Proofs.YtkgglhakimkkhaaGreatDoor
open Go Go.RowKit

def sinkS (ops : Array Oper) (n s : Nat) : Bool := (List.range n).all fun i => i == s || (List.range (n + 1)).any fun j => decide (i < j) && decide (j ≠ s) && Region.waitsFor .any ops j i
def firstNS (n s size : Nat) : Array Bool := (firstN n size).setIfInBounds s false
def rgSB (ops : Array Oper) (n s : Nat) : Bool :=
  let B := befores ops.toList []
  ops.toList.all noDefer && decide (n < ops.size) && decide (s < n) && (List.range n).all (headB ops n B) && sinkS ops n s && Region.chainB .any ops n &&
    (List.range n).all (fun i => !isBefore B s i) && (match ops[s]? with | some o => o.guard.isNone | none => false) &&
    Region.seqB .any ops (ops.size - n) n (firstN n ops.size) &&
    decide (Region.ready .any ops ((firstNS n s ops.size).setIfInBounds n true) = [s]) &&
    Region.seqB .any ops (ops.size - n - 1) (n + 1) (((firstNS n s ops.size).setIfInBounds n true).setIfInBounds s true)

section
variable {P : Program} {ops : Array Oper} {n s : Nat} {B : List Nat} {Sp : List (Nat × Spec)} {C : World → Prop} {N0 : Nat} {a0 : Act}

theorem tail_waitsS (hs : sinkS ops n s = true) (hc : Region.chainB .any ops n = true) (_hn : n < ops.size) {listed : Array Bool} (inv : HeadInv .any ops n listed) :
    ∀ (d i : Nat), n - i = d → i < n → i ≠ s → listed.getD i true = false → ∀ t, n ≤ t → t ∉ Region.ready .any ops listed := by
  intro d
  induction d using Nat.strongRecOn with
  | _ d ih =>
    intro i hd hi his hun t ht hr
    obtain ⟨_, ot, hot, hall⟩ := mem_ready.1 hr
    have htlt : t < ops.size := (Array.getElem?_eq_some_iff.1 hot).1
    have h1 := List.all_eq_true.1 hs i (List.mem_range.2 hi)
    simp only [Bool.or_eq_true, beq_iff_eq, his, false_or, List.any_eq_true, List.mem_range, Bool.and_eq_true, decide_eq_true_eq] at h1
    obtain ⟨j, hj, ⟨hij, hjs⟩, hw⟩ := h1
    obtain ⟨oj, hoj, e, he, hb, hon⟩ := Region.waitsFor_spec hw
    by_cases hjn : j = n
    · subst hjn
      by_cases htj : t = j
      · subst htj
        obtain rfl : ot = oj := Option.some.inj (hot.symm.trans hoj)
        have := hall e he hb
        rw [hon, listed_both hun] at this
        cases this
      · have h2 := List.all_eq_true.1 hc t (List.mem_range.2 htlt)
        simp only [Bool.or_eq_true, decide_eq_true_eq] at h2
        rcases h2 with h2 | h2
        · omega
        · obtain ⟨o2, ho2, e2, he2, hb2, hon2⟩ := Region.waitsFor_spec h2
          obtain rfl : ot = o2 := Option.some.inj (hot.symm.trans ho2)
          have := hall e2 he2 hb2
          rw [hon2, listed_both (inv.tail (t - 1) (by omega) (by omega))] at this
          cases this
    · have hjun : listed.getD j true = false := by
        cases hjl : listed.getD j false with
        | true =>
          have := inv.closed j oj hoj hjl e he hb
          rw [hon, listed_both hun] at this
          cases this
        | false =>
          have hjs : j < listed.size := by rw [inv.size]; omega
          simp [hjs] at hjl ⊢
          exact hjl
      exact ih (n - j) (by omega) j rfl (by omega) hjs hjun t ht hr

theorem wpRg_mono {F F' : Act → World → Prop} (hF : ∀ a w, F a w → F' a w) : ∀ (l : List Oper) (i : Nat) (a : Act) (G : List (Nat × (World → Prop))) (rs : List (Nat × Nat)), wpRg P ops B Sp C N0 F l i a G rs → wpRg P ops B Sp C N0 F' l i a G rs
  | [], _, _, _, _, h => fun w hw hg => hF _ _ (h w hw hg)
  | o :: l, i, a, G, rs, h => by
    unfold wpRg at h ⊢
    split at h
    · rename_i hw
      rw [if_pos hw]
      cases hs : specOf Sp i with
      | none =>
        rw [hs] at h
        obtain ⟨h1, v, h2, h3⟩ := h
        exact ⟨h1, v, h2, wpRg_mono hF l _ _ _ _ h3⟩
      | some s =>
        cases s with
        | skip u => rw [hs] at h; exact wpRg_mono hF l _ _ _ _ h
        | val u => rw [hs] at h; exact ⟨h.1, wpRg_mono hF l _ _ _ _ h.2⟩
        | rel A F => rw [hs] at h; exact ⟨h.1, fun n m v h1 h2 h3 h4 => wpRg_mono hF l _ _ _ _ (h.2 n m v h1 h2 h3 h4)⟩
    · rename_i hw
      rw [if_neg hw]
      exact wpRg_mono hF l _ _ _ _ h

theorem good_endS {Fin : Act → World → Prop} {d : Tmp} (hst : ∀ i A F, specOf Sp i = some (.rel A F) → Fit A F) (hns : ∀ i u, specOf Sp i ≠ some (.skip u)) (hN : ∀ w, C w → N0 ≤ w.heap.size)
    (hnd : ∀ (k : Nat) (o : Oper), ops[k]? = some o → noDefer o = true) (H : ∀ k, k < n → ∃ o d, HeadOk ops n B k o d) (hsz : ∀ (k : Nat) (d : Tmp), k < n → dstOf ops k = some d → d < a0.tmps.size)
    (hn : n ≤ ops.size) (hs : s < n) (hds : dstOf ops s = some d) (hbs : ∀ i, i < n → isBefore B s i = false)
    (htree : wpRg P ops B ((s, .skip (a0.tmps.getD d undef)) :: Sp) C N0 (fun a w => Fin (a.put (some d) (a0.tmps.getD d undef)) w) (ops.toList.take n) 0 a0 [] [])
    {listed : Array Bool} {a : Act} {w : World} {r : Nat → Nat × Nat} (hG : Good P ops n Sp C N0 a0 listed a w r) (hun : listed.getD s false = false) (hall : ∀ k, k < n → k ≠ s → listed.getD k false = true) : Fin a w := by
  have htl : (ops.toList.take n).length = n := by simp; omega
  have hsp : ∀ k, k ≠ s → specOf ((s, .skip (a0.tmps.getD d undef)) :: Sp) k = specOf Sp k := fun k hk => by simp only [specOf, if_neg hk]
  have hsr : ∀ a k, k ≠ s → (isRel ops Sp a k ↔ isRel ops ((s, .skip (a0.tmps.getD d undef)) :: Sp) a k) := fun a k hk => by unfold isRel; rw [hsp k hk]
  have hG' : Good P ops n ((s, .skip (a0.tmps.getD d undef)) :: Sp) C N0 a0 listed a w r := by
    refine ⟨hG.c, hG.defs, hG.size, hG.old, fun k o d' hk ho hd hl => ?_, fun k j hk hj hkj hlk hlj h1 h2 => ?_⟩
    · have hks : k ≠ s := fun e => by subst e; rw [hun] at hl; cases hl
      obtain ⟨q1, q2, q3, q4⟩ := hG.ok k o d' hk ho hd hl
      exact ⟨q1, fun h1 h2 => q2 h1 (by rw [← hsp k hks]; exact h2), fun h1 u h2 => q3 h1 u (by rw [← hsp k hks]; exact h2), fun h1 A F h2 => q4 h1 A F (by rw [← hsp k hks]; exact h2)⟩
    · have hks : k ≠ s := fun e => by subst e; rw [hun] at hlk; cases hlk
      have hjs : j ≠ s := fun e => by subst e; rw [hun] at hlj; cases hlj
      exact hG.apart k j hk hj hkj hlk hlj ((hsr a k hks).2 h1) ((hsr a j hjs).2 h2)
  obtain ⟨l', b, G, rs, hl1, _, R, hw⟩ := descend (Pi := fun k => k ≠ s) hnd H hsz hG' (fun k hk hks => hall k hk hks) (fun k j hk hks hb e => by subst e; rw [hbs k hk] at hb; cases hb)
    (fun i A F h => by
      by_cases his : i = s
      · subst his; simp [specOf] at h
      · rw [hsp i his] at h; exact hst i A F h)
    (fun k u h hks => hns k u (by rw [← hsp k hks]; exact h)) hN (Nat.le_refl _) (ops.toList.take n) 0 a0 [] [] (Nat.zero_le _) (by rw [htl]; omega)
    (fun j hj => by rw [htl] at hj; simp [hj]) ⟨rfl, rfl, fun _ _ => rfl, fun j hj => absurd hj (by omega), fun φ hφ => (by cases hφ), fun ρ hρ => (by cases hρ), fun φ hφ => (by cases hφ)⟩ htree
  obtain rfl : l' = [] := List.eq_nil_of_length_eq_zero (by omega)
  unfold wpRg at hw
  have hlt : d < a0.tmps.size := hsz s d hs hds
  have hab : b.put (some d) (a0.tmps.getD d undef) = a := by
    have hp : ∀ t, (b.put (some d) (a0.tmps.getD d undef)).tmps[t]? = a.tmps[t]? := fun t => by
      by_cases htd : t = d
      · subst htd
        rw [put_eq (by rw [R.size]; exact hlt), ← some_getD hlt]
        refine (hG.old t fun k hk hl e => ?_).symm
        have hks : k ≠ s := fun e => by subst e; rw [hun] at hl; cases hl
        obtain ⟨o, d', h⟩ := H s hs
        have : d' = t := Option.some.inj ((show dstOf ops s = some d' by unfold dstOf; rw [h.op]; exact h.dst).symm.trans hds)
        subst this
        exact h.own k hk hks e
      · rw [put_ne htd]
        by_cases hj : ∃ j, j < n ∧ dstOf ops j = some t
        · obtain ⟨j, hjn, hjd⟩ := hj
          have hjs : j ≠ s := fun e => by subst e; exact htd (Option.some.inj (hjd.symm.trans hds))
          exact R.new j hjn hjs t hjd
        · have h1 : ∀ j, j < n → dstOf ops j ≠ some t := fun j hj' e => hj ⟨j, hj', e⟩
          exact (R.old t fun j hj' => h1 j hj').trans (hG.old t fun j hj' _ => h1 j hj').symm
    obtain ⟨bt, bd⟩ := b
    obtain ⟨at', ad⟩ := a
    have e1 : bd = ad := R.defs.trans hG.defs.symm
    have e2 : (Act.put ⟨bt, bd⟩ (some d) (a0.tmps.getD d undef)).tmps = at' := Array.ext_getElem? hp
    simp only [Act.put] at e2 ⊢
    rw [e1, e2]
  have := hw w hG.c fun φ hφ => R.g φ hφ fun e => by
    obtain ⟨A, F, h⟩ := R.gi φ hφ
    rw [e] at h
    simp [specOf] at h
  rw [hab] at this
  exact this

theorem any_of_goodS {Q : Exit → Act → World → Prop} {os : Oper} {d : Tmp} (hst : ∀ i A F, specOf Sp i = some (.rel A F) → Fit A F) (hns : ∀ i u, specOf Sp i ≠ some (.skip u)) (hC : ∀ w w', C w → Below w.heap.size w w' → C w') (hN : ∀ w, C w → N0 ≤ w.heap.size)
    (hnd : ∀ (k : Nat) (o : Oper), ops[k]? = some o → noDefer o = true) (hn : n < ops.size) (hs : s < n) (hos : ops[s]? = some os) (hds : os.dst = some d) (hgs : os.guard = none) (H : ∀ k, k < n → ∃ o d, HeadOk ops n B k o d) (hsz : ∀ (k : Nat) (d : Tmp), k < n → dstOf ops k = some d → d < a0.tmps.size)
    (hsink : sinkS ops n s = true) (hchain : Region.chainB .any ops n = true) (hbs : ∀ i, i < n → isBefore B s i = false) (hseq : Region.seqB .any ops (ops.size - n) n (firstN n ops.size) = true)
    (hr1 : Region.ready .any ops ((firstNS n s ops.size).setIfInBounds n true) = [s]) (hseq2 : Region.seqB .any ops (ops.size - n - 1) (n + 1) (((firstNS n s ops.size).setIfInBounds n true).setIfInBounds s true) = true)
    (htree : wpRg P ops B Sp C N0 (fun a w => wpList P ops Q (ops.toList.drop n) a w) (ops.toList.take n) 0 a0 [] [])
    (htree2 : wpRg P ops B ((s, .skip (a0.tmps.getD d undef)) :: Sp) C N0 (fun a w => ∀ on, ops[n]? = some on → wpList P ops Q (on :: os :: ops.toList.drop (n + 1)) (a.put (some d) (a0.tmps.getD d undef)) w) (ops.toList.take n) 0 a0 [] []) :
    ∀ (f : Nat) (listed : Array Bool) (a : Act) (w : World) (r : Nat → Nat × Nat), unl n listed = f → HeadInv .any ops n listed → Good P ops n Sp C N0 a0 listed a w r → wpAny P .any ops Q (f + (ops.size - n)) listed a w := by
  have hds' : dstOf ops s = some d := by unfold dstOf; rw [hos]; exact hds
  have hle := Nat.le_of_lt hn
  intro f
  induction f with
  | zero =>
    intro listed a w r hf inv hG
    have hall : ∀ k, k < n → listed.getD k false = true := fun k hk => by
      have h1 := unl_zero hf k hk
      have h2 : k < listed.size := by rw [inv.size]; omega
      simp [h2] at h1 ⊢
      exact h1
    have hfin := good_end hst hns hN hnd H hsz hle htree hG hall
    have hls := firstN_of inv.size hf inv.tail
    have hdl : (ops.toList.drop n).length = ops.size - n := by simp
    have := wpAny_of_seq (md := .any) (Q' := Q) (ops.toList.drop n) n listed a w (fun j => by simp [List.getElem?_drop]) (by rw [hdl, hls]; exact hseq) hfin
    rw [hdl] at this
    rw [Nat.zero_add]
    exact this
  | succ f ih =>
    intro listed a w r hf inv hG
    rw [show f + 1 + (ops.size - n) = (f + (ops.size - n)) + 1 by omega]
    have hex : ∃ i, i < n ∧ listed.getD i true = false := by
      refine Classical.byContradiction fun hno => ?_
      have : unl n listed = 0 := List.countP_eq_zero.2 fun i hi => by
        have hi' := List.mem_range.1 hi
        cases hd : listed.getD i true with
        | true => simp
        | false => exact absurd ⟨i, hi', hd⟩ hno
      omega
    obtain ⟨i0, hi0, hun0⟩ := hex
    obtain ⟨j0, _, hj0⟩ := ready_head H inv.size hle i0 hi0 hun0
    refine ⟨fun h0 => (by rw [h0] at hj0; cases hj0), fun i hi => ?_⟩
    obtain ⟨hun, oi, hoi, _⟩ := mem_ready.1 hi
    rcases Nat.lt_or_ge i n with hin | hin
    · obtain ⟨o, d, h⟩ := H i hin
      have hs := good_step hst hns hC hN hnd H hsz hle htree hG inv hin h hi
      have hunl := unl_set (by rw [inv.size]; omega) hun n hin
      have next : ∀ a' w', (∃ r', Good P ops n Sp C N0 a0 (listed.setIfInBounds i true) a' w' r') → wpAny P .any ops Q (f + (ops.size - n)) (listed.setIfInBounds i true) a' w' :=
        fun a' w' ⟨r', hG'⟩ => ih _ a' w' r' (by omega) (inv.set hi hin) hG'
      unfold wpOp
      simp only [h.op]
      by_cases hw : Region.wanted o (yielded ops a.tmps) = true
      · rw [if_pos hw] at hs ⊢
        exact .inl (wp_of_step (stepAt_mono (fun v w' hv => next _ _ hv) hs))
      · rw [if_neg hw] at hs ⊢
        exact next _ _ hs
    · -- the first of the tail comes up while number s is still to come
      have hilt : i < ops.size := (Array.getElem?_eq_some_iff.1 hoi).1
      have honly : ∀ k, k < n → k ≠ s → listed.getD k true = true := fun k hk hks => by
        cases hd : listed.getD k true with
        | true => rfl
        | false => exact absurd hi (tail_waitsS hsink hchain hn inv _ k rfl hk hks hd i hin)
      have hi0s : i0 = s := Classical.byContradiction fun h => by rw [honly i0 hi0 h] at hun0; cases hun0
      subst hi0s
      have hlsz : listed.size = ops.size := inv.size
      have hlist : listed = firstNS n i0 ops.size := by
        apply Array.ext_getElem?
        intro k
        have e2 : (firstN n ops.size)[k]? = if k < ops.size then some (decide (k < n)) else none := by
          unfold firstN
          rw [List.getElem?_toArray, List.getElem?_map]
          by_cases hk : k < ops.size
          · rw [List.getElem?_range hk, if_pos hk]; rfl
          · rw [List.getElem?_eq_none (by simp; omega), if_neg hk]; rfl
        have e3 : (firstN n ops.size).size = ops.size := by simp [firstN]
        unfold firstNS
        rw [Array.getElem?_setIfInBounds]
        rcases Nat.lt_or_ge k ops.size with hk | hk
        · have e1 : listed[k]? = some (listed.getD k true) := by
            have : k < listed.size := by omega
            simp [this]
          rw [e1, e2, if_pos hk, e3]
          by_cases hki : i0 = k
          · subst hki
            rw [if_pos rfl, if_pos hk, hun0]
          · rw [if_neg hki]
            by_cases hkn : k < n
            · rw [honly k hkn (Ne.symm hki)]; simp [hkn]
            · rw [inv.tail k (by omega) hk]; simp [hkn]
        · rw [Array.getElem?_eq_none (by omega), e2, if_neg (by omega), if_neg (by omega)]
      have hin' : i = n := by
        refine Classical.byContradiction fun hne => ?_
        have h2 := List.all_eq_true.1 hchain i (List.mem_range.2 hilt)
        simp only [Bool.or_eq_true, decide_eq_true_eq] at h2
        rcases h2 with h2 | h2
        · omega
        · obtain ⟨o2, ho2, e2, he2, hb2, hon2⟩ := Region.waitsFor_spec h2
          obtain ⟨_, o3, ho3, hall3⟩ := mem_ready.1 hi
          obtain rfl : o2 = o3 := Option.some.inj (ho2.symm.trans ho3)
          have := hall3 e2 he2 hb2
          rw [hon2, listed_both (inv.tail (i - 1) (by omega) (by omega))] at this
          cases this
      subst hin'
      have hfin := good_endS (Fin := fun a w => ∀ on, ops[i]? = some on → wpList P ops Q (on :: os :: ops.toList.drop (i + 1)) a w) hst hns hN hnd H hsz hle hs hds' hbs htree2 hG (listed_both hun0) (fun k hk hks => by
        have h1 := honly k hk hks
        have h2 : k < listed.size := by omega
        simp [h2] at h1 ⊢
        exact h1) oi hoi
      have hf1 : f = 0 := by
        have hle1 : unl i listed ≤ 1 := by
          unfold unl
          have := List.countP_le_length (p := fun k => decide (k = i0)) (l := List.range i)
          refine Nat.le_trans (List.countP_mono_left (q := fun k => decide (k = i0)) fun k hk h => ?_) ?_
          · simp only [Bool.not_eq_true'] at h
            simp only [decide_eq_true_eq]
            exact Classical.byContradiction fun hne => by rw [honly k (List.mem_range.1 hk) hne] at h; cases h
          · have : (List.range i).countP (fun k => decide (k = i0)) = (List.range i).count i0 := by
              unfold List.count
              congr 1
            rw [this]
            exact List.nodup_iff_count.1 List.nodup_range i0
        omega
      subst hf1
      have hdl : (ops.toList.drop (i + 1)).length = ops.size - i - 1 := by simp; omega
      rw [Nat.zero_add]
      have hwl : wpOp P ops Q i (wpList P ops Q (os :: ops.toList.drop (i + 1))) a w := by
        unfold wpOp; simp only [hoi]; exact hfin
      refine wpOp_mono (fun a' w' h' => ?_) hwl
      rw [hlist]
      rw [show ops.size - i = (ops.size - i - 1) + 1 by omega]
      refine ⟨fun h0 => (by rw [h0] at hr1; cases hr1), fun k hk => ?_⟩
      rw [hr1] at hk
      have hks : k = i0 := by simpa using hk
      subst hks
      have hwl2 : wpOp P ops Q k (wpList P ops Q (ops.toList.drop (i + 1))) a' w' := by
        unfold wpOp; simp only [hos]; exact h'
      refine wpOp_mono (fun a2 w2 h2 => ?_) hwl2
      have := wpAny_of_seq (md := .any) (Q' := Q) (ops.toList.drop (i + 1)) (i + 1) _ a2 w2 (fun j => by simp [List.getElem?_drop]) (by rw [hdl]; exact hseq2) h2
      rw [hdl] at this
      exact this
end

theorem wp_region_swap {P : Program} {id : Nat} {l : List Oper} {Q : Exit → Act → World → Prop} {a : Act} {W : World} (n s : Nat) (u : Value) {os on : Oper} {d : Tmp} (Sp : List (Nat × Spec)) (hm : P.follows .mixedOrders = true) (hB : rgSB l.toArray n s = true) (hz : sizesB l.toArray n a.tmps.size = true)
    (hos : l[s]? = some os) (hon : l[n]? = some on) (hds : os.dst = some d) (hu : a.tmps.getD d undef = u) (st : stables Sp)
    (walk : wpRg P l.toArray (befores l []) Sp (Grw W) W.heap.size (fun a' w' => wpList P l.toArray Q (l.drop n) a' w') (l.take n) 0 a [] [])
    (walk2 : wpRg P l.toArray (befores l []) ((s, .skip u) :: Sp) (Grw W) W.heap.size (fun a' w' => wpList P l.toArray Q (on :: os :: l.drop (n + 1)) (a'.put (some d) u) w') (l.take n) 0 a [] []) :
    (Code.region id l.toArray true).wp P Q a W := by
  subst hu
  refine wp_region_any hm ?_
  unfold rgSB at hB
  simp only [Bool.and_eq_true, decide_eq_true_eq] at hB
  obtain ⟨⟨⟨⟨⟨⟨⟨⟨⟨⟨h1, h2⟩, h3⟩, h4⟩, h5⟩, h6⟩, h7⟩, h8⟩, h9⟩, h10⟩, h11⟩ := hB
  have hnd : ∀ (k : Nat) (o : Oper), l.toArray[k]? = some o → noDefer o = true := fun k o ho => List.all_eq_true.1 h1 o (by
    have : l[k]? = some o := by simpa using ho
    exact List.mem_of_getElem? this)
  have hH : ∀ k, k < n → ∃ o d, HeadOk l.toArray n (befores l []) k o d := fun k hk => headOk_of (List.all_eq_true.1 h4 k (List.mem_range.2 hk))
  have hos' : l.toArray[s]? = some os := by simpa using hos
  rw [hos'] at h8
  simp only [Option.isNone_iff_eq_none] at h8
  have hbs : ∀ i, i < n → isBefore (befores l []) s i = false := fun i hi => by
    have := List.all_eq_true.1 h7 i (List.mem_range.2 hi)
    simpa using this
  have h0 : unl n (Array.replicate l.toArray.size false) = n := by
    unfold unl
    have : (List.range n).countP (fun i => !(Array.replicate l.toArray.size false).getD i true) = (List.range n).length := List.countP_eq_length.2 fun i hi => by
      have hi' := List.mem_range.1 hi
      have h1 : i < l.length := by simp only [List.size_toArray] at h2; omega
      simp [h1]
    rw [this, List.length_range]
  have inv0 : HeadInv .any l.toArray n (Array.replicate l.toArray.size false) :=
    ⟨by simp, fun j oj _ hl => (by rw [getD_replicate_false] at hl; cases hl), fun t _ ht => getD_in (by simpa using ht) (getD_replicate_false _ _)⟩
  have := any_of_goodS (P := P) (Q := Q) (d := d) (stables_spec st) (stables_ns st) (fun w w' h h' => grw_next h h') (fun w h => (grw_below h).size) hnd h2 h3 hos' hds h8 hH (a0 := a) (sizesB_spec hz) h5 h6 hbs h9 h10 h11
    (by simpa using walk) (by
      have e : l.toArray.toList = l := by simp
      rw [e]
      refine wpRg_mono (fun a' w' hw on' hon' => ?_) _ _ _ _ _ walk2
      obtain rfl : on = on' := Option.some.inj (hon.symm.trans (by simpa using hon'))
      exact hw) n _ a { W with drawn := W.drawn + 1 } (fun _ => (0, 0)) h0 inv0
    ⟨grw_of (Below.refl _ W).drew, rfl, rfl, fun _ _ => rfl, fun k o d _ _ _ hl => (by rw [getD_replicate_false] at hl; cases hl), fun k j _ _ _ hl => (by rw [getD_replicate_false] at hl; cases hl)⟩
  rw [show n + (l.toArray.size - n) = l.toArray.size by omega] at this
  exact this
theorem rg_pass {P : Program} {ops : Array Oper} {B : List Nat} {Sp : List (Nat × Spec)} {W : World} {N0 : Nat} {Fin : Act → World → Prop} {o : Oper} {l : List Oper} {i : Nat} {a : Act} {G : List (Nat × (World → Prop))} {rs : List (Nat × Nat)} {u : Value}
    (hw : Region.wanted o (yielded ops a.tmps) = true) (hs : specOf Sp i = some (.skip u)) (h : ∀ a', a' = a.put o.dst u → wpRg P ops B Sp (Grw W) N0 Fin l (i + 1) a' G rs) : wpRg P ops B Sp (Grw W) N0 Fin (o :: l) i a G rs := by
  unfold wpRg; rw [if_pos hw, hs]; exact h _ rfl
theorem wpList_putS {P : Program} {ops : Array Oper} {l : List Oper} {Q : Exit → Act → World → Prop} {a : Act} {d : Option Tmp} {u : Value} {w : World} (h : ∀ a', a' = a.put d u → wpList P ops Q l a' w) : wpList P ops Q l (a.put d u) w := h _ rfl
end Go.Proofs.YtkgglhakimkkhaaGreatDoor
namespace Go.Proofs.YtkgglhakimkkhaaGreatDoor
open Go.RowKit

theorem exB_lt (l : List E) : ∀ x ∈ exB l, x < 256 := by
  intro x hx
  unfold exB at hx
  obtain ⟨y, _, hy⟩ := List.mem_flatMap.1 hx
  rcases List.mem_append.1 hy with h | h
  · exact w8_lt _ x h
  · exact w8_lt _ x h
theorem en_attestor_attestorref10_AbsorbExt : ∀ args w, (callFunc 62 args).run Tryz.prog w = .ok (.enter 62 args) w := enters_of Tryz.func62 (by kernel_rfl) rfl
theorem en_attestor_attestorref10_Challenge : ∀ args w, (callFunc 60 args).run Tryz.prog w = .ok (.enter 60 args) w := enters_of Tryz.func60 (by kernel_rfl) rfl
structure StOk (st : List Nat) : Prop where
  len : st.length = 32
  lt : ∀ x ∈ st, x < 256
attribute [local irreducible] wpRg
set_option maxRecDepth 100000 in
set_option maxHeartbeats 4000000 in
theorem rAbsExt (st : List Nat) (cnt : Nat) (hst : StOk st) (b : ByteArray) (hb : b.size ≤ 200) (l : List E) (hl : l.length ≤ 10000) (v : Value) (lo hi : Nat) (w : World) (h : ExtS lo hi w v l) :
    Calls Tryz.prog 62 #[tsV st cnt, .string b, v] w (Ret (tsV (absT st (stB b) (exB l)) 0) w) := by
  obtain ⟨S, hS⟩ : ∃ S, S = tsV st cnt := ⟨_, rfl⟩
  rw [← hS]
  obtain ⟨A, cap, rfl⟩ := Rd.len h
  have HV := Lib.hid h
  have HST := Lib.hid hst
  clear h hst
  go_enter Tryz.func62, Tryz.ntmps62
  go_upto_region 1 with (fail)
  refine wp_stk2 fun W hB hz b1 b2 => ?_
  have b1' : Blk W w.heap.size 60 (tsc st cnt).toArray := by first | exact b1 | (rw [hS] at b1; exact b1)
  obtain ⟨cs0, hcs0, b2'⟩ : ∃ cs : Array Value, cs.size = 33 ∧ Blk W (w.heap.size + 1) 60 cs := ⟨_, rfl, b2⟩
  clear b1 b2 hz
  refine wp_region_rg 5 [(0, Spec.val (tsV st cnt)), (3, Spec.rel (ByA (exB l)) AnyV), (4, Spec.val (tsV (absT st (stB b) (exB l)) 0))] (by kernel_rfl) (by kernel_rfl) (by kernel_rfl) ⟨fit_of (by_st), trivial⟩ ?_
  refine rg_val rfl rfl (fun W1 hW1 hF => step_loadR (cs := tsc st cnt) Tryz.underlying60 rfl (by rw [tr_size, tsc_len _ _ HST.out.len]) rfl rfl (blk_range (b1'.below (grw_below hW1) b1'.lt))) ?_
  intro a' ha
  simp only [Act.put, List.setIfInBounds_toArray, List.set_cons_succ, List.set_cons_zero] at ha
  subst ha
  iterate 2 (refine rg_det rfl rfl rfl (fun K hK => ?_); go_big_quiet_op; refine hK _ ?_; clear hK K)
  refine rg_rel rfl rfl (fun W1 hW1 hF => step_callr en_attestor_attestorref10_Bytes (rExB l hl _ _ _ W1 (Rd.keep HV.out (hB.trans ((grw_below hW1).mono hB.size)))) rfl rfl) ?_
  intro n3 m3 v3 hn3 hm3 hd3 hf3 a' ha
  simp only [Act.put, List.setIfInBounds_toArray, List.set_cons_succ, List.set_cons_zero] at ha
  subst ha
  refine rg_val rfl rfl (fun W1 hW1 hF => step_callv en_attestor_attestorref10_Absorb (rAbsorb st (exB l) cnt HST.out.len HST.out.lt b hb (by rw [exB_len]; omega) (exB_lt l) _ _ _ W1 (pick_last hF (by kernel_rfl)).2) rfl rfl) ?_
  intro a' ha
  simp only [Act.put, List.setIfInBounds_toArray, List.set_cons_succ, List.set_cons_zero] at ha
  subst ha
  refine rg_nil (fun w' hw' hF => ?_)
  obtain ⟨z, rfl⟩ := hw'
  simp only [List.drop_succ_cons, List.drop_zero]
  have b2z := b2'.gw z
  have hBz := hB.trans (z.h.mono hB.size)
  refine wpList_put rfl 60 (.tmp 6) (.tmp 11) rfl rfl (cells := tsc (absT st (stB b) (exB l)) 0) rfl b2z (by rw [tsc_len _ _ (absT_len _ _ _), hcs0]; decide) (by rw [tr_size, tsc_len _ _ (absT_len _ _ _)]) (ts_one _ _) (spl_all _ _ (by rw [hcs0, tsc_len _ _ (absT_len _ _ _)])) fun Y hY bY => ?_
  have hBY := below_put hBz hY (Nat.le_succ _)
  clear hF hd3 b2z hBz b2' b1'
  go_wp2_with fail
  exact bodyPost_ret (v := tsV (absT st (stB b) (exB l)) 0) (res_row (g := w.heap.size + 1) rfl rfl Tryz.underlying60 rfl (by rw [tr_size, tsc_len _ _ (absT_len _ _ _)]) bY) rfl ⟨rfl, hBY⟩
theorem tsc_next (st : List Nat) (cnt : Nat) (h : st.length = 32) : (tsc st cnt).toArray.setIfInBounds 32 (.int .u64 ((cnt : Int) + 1)) = (tsc st (cnt + 1)).toArray := by
  unfold tsc
  rw [List.setIfInBounds_toArray, List.set_append_right _ _ (by rw [byc_length]; omega), byc_length, h]
  rfl
def chb (st : List Nat) (cnt : Nat) (lab : List Nat) : List Nat := sha (tagL st 2 lab (w8 cnt))
theorem chaT_eq (st lab : List Nat) (cnt : Nat) : chaT st cnt lab = ⟨fz (le8 (chb st cnt lab) 0 8 : Nat), fz (le8 (chb st cnt lab) 8 8 : Nat)⟩ := rfl
theorem chb_word (st lab : List Nat) (cnt o : Nat) : Word ((le8 (chb st cnt lab) o 8 : Nat) : Int) := by
  have := le8_lt (chb st cnt lab) (sha_lt _) o 8
  unfold Word
  omega
set_option maxRecDepth 100000 in
set_option maxHeartbeats 4000000 in
theorem rChal (st : List Nat) (cnt : Nat) (hst : StOk st) (hcnt : cnt < 1000000000) (b : ByteArray) (hb : b.size ≤ 200) (w : World) :
    Calls Tryz.prog 60 #[tsV st cnt, .string b] w (Ret (.tuple #[tsV st (cnt + 1), ev (chaT st cnt (stB b))]) w) := by
  obtain ⟨S, hS⟩ : ∃ S, S = tsV st cnt := ⟨_, rfl⟩
  rw [← hS]
  have HST := Lib.hid hst
  clear hst
  go_enter Tryz.func60, Tryz.ntmps60
  go_upto_region 1 with (fail)
  refine wp_stk3 fun W hB hz b1 b2 b3 => ?_
  have b1' : Blk W w.heap.size 60 (tsc st cnt).toArray := by first | exact b1 | (rw [hS] at b1; exact b1)
  obtain ⟨cs0, hcs0, b2'⟩ : ∃ cs : Array Value, cs.size = 33 ∧ Blk W (w.heap.size + 1) 60 cs := ⟨_, rfl, b2⟩
  obtain ⟨cs1, hcs1, b3'⟩ : ∃ cs : Array Value, cs.size = 2 ∧ Blk W (w.heap.size + 1 + 1) 26 cs := ⟨_, rfl, b3⟩
  clear b1 b2 b3 hz
  refine wp_region_lit ?_
  refine wpList_plain rfl fun K1 hK1 => wp_of_step (stepAt_mono (fun v7 w7 hh => ?_) (step_loadR0 (cs := tsc st cnt) Tryz.underlying60 rfl (by rw [tr_size, tsc_len _ _ HST.out.len]) rfl rfl (blk_range b1')))
  obtain ⟨rfl, rfl⟩ := hh
  refine hK1 _ _ ?_
  clear hK1 K1
  try simp only [Act.put, List.setIfInBounds_toArray, List.set_cons_succ, List.set_cons_zero]
  iterate 1 (refine wpList_plain rfl fun K hK => ?_; go_big_op; refine hK _ _ ?_; clear hK K)
  refine wpList_plain rfl fun K3 hK3 => wp_of_step (stepAt_mono (fun v9 w9 hh => ?_) (step_callr en_attestor_attestorref10_output (rOut st cnt 2 HST.out.len HST.out.lt (by omega) (by decide) b hb _) rfl rfl))
  obtain ⟨s9, B9⟩ := hh
  refine hK3 _ _ ?_
  clear hK3 K3
  try simp only [Act.put, List.setIfInBounds_toArray, List.set_cons_succ, List.set_cons_zero]
  have hlt7 := b3'.lt
  have b1y := b1'.keep B9
  have b2y := b2'.keep B9
  have b3y := b3'.keep B9
  have hBy := hB.trans (B9.mono hB.size)
  have HS := Lib.hid s9
  clear b1' b2' b3' hB B9 s9
  have e1 := b1y.cell 32
  rw [show (tsc st cnt).toArray[32]? = some (.int .u64 (cnt : Int)) by unfold tsc; simp [byc_length, HST.out.len]] at e1
  have e2 := b1y.frozen
  go_upto_region 2 with (fail)
  go_upto_region 3 with (fail)
  refine set1 (M := fun W => Code.wp _ _ _ _ W) b1y fun X hX bX => ?_
  rw [tsc_next _ _ HST.out.len] at bX
  have b2X := hX.blk b2y (by omega)
  have b3X := hX.blk b3y (by omega)
  have hBX := below_put hBy hX (Nat.le_refl _)
  have hs : ByS w7.heap.size w9.heap.size X v9 (chb st cnt (stB b)) := hX.rd HS.out (.inl (by omega))
  obtain ⟨A9, c9, rfl⟩ := hs.len
  have hl9 : (chb st cnt (stB b)).length = 32 := sha_length _
  have HX := Lib.hid hs
  have HL := Lib.hid hl9
  clear e1 e2 b1y b2y b3y HS hs
  rw [HL.out]
  have HX2 : ByS w7.heap.size w9.heap.size X (.slice A9 32 c9) (chb st cnt (stB b)) := by rw [show (32 : Nat) = (chb st cnt (stB b)).length from HL.out.symm]; exact HX.out
  have HX3 := Lib.hid HX2
  clear HX2 HX hl9
  refine wp_region_swap 8 7 undef [(0, Spec.val (tsV st (cnt + 1))), (2, Spec.val (.int .u64 (le8 (chb st cnt (stB b)) 0 8 : Nat))), (3, Spec.val (.int .u64 (fv (fz (le8 (chb st cnt (stB b)) 0 8 : Nat))))), (5, Spec.val (.int .u64 (le8 (chb st cnt (stB b)) 8 8 : Nat))), (6, Spec.val (.int .u64 (fv (fz (le8 (chb st cnt (stB b)) 8 8 : Nat)))))] (by kernel_rfl) (by kernel_rfl) (by kernel_rfl) rfl rfl rfl rfl trivial ?_ ?_
  refine rg_val rfl rfl (fun W1 hW1 hF => step_loadR (cs := tsc st (cnt + 1)) Tryz.underlying60 rfl (by rw [tr_size, tsc_len _ _ HST.out.len]) rfl rfl (blk_range (bX.below (grw_below hW1) bX.lt))) ?_
  intro a' ha
  simp only [Act.put, List.setIfInBounds_toArray, List.set_cons_succ, List.set_cons_zero] at ha
  subst ha
  refine rg_det rfl rfl rfl (fun K hK => ?_)
  go_big_quiet_op
  refine hK _ ?_; clear hK K
  refine rg_val rfl rfl (fun W1 hW1 hF => step_callv en_attestor_attestorref10_Value (rValue (chb st cnt (stB b)) (sha_lt _) 0 (by rw [HL.out]; decide) (by rw [HL.out]; decide) _ _ _ W1 (HX3.out.keep (grw_below hW1))) rfl rfl) ?_
  intro a' ha
  simp only [Act.put, List.setIfInBounds_toArray, List.set_cons_succ, List.set_cons_zero] at ha
  subst ha
  refine rg_val rfl rfl (fun W1 hW1 hF => step_callv en_attestor_attestorref01_Reduce (rRedF _ (chb_word st (stB b) cnt 0) W1) rfl rfl) ?_
  intro a' ha
  simp only [Act.put, List.setIfInBounds_toArray, List.set_cons_succ, List.set_cons_zero] at ha
  subst ha
  refine rg_det rfl rfl rfl (fun K hK => ?_)
  go_big_quiet_op
  refine hK _ ?_; clear hK K
  refine rg_val rfl rfl (fun W1 hW1 hF => step_callv en_attestor_attestorref10_Value (rValue (chb st cnt (stB b)) (sha_lt _) 8 (by rw [HL.out]; decide) (by rw [HL.out]; decide) _ _ _ W1 (HX3.out.keep (grw_below hW1))) rfl rfl) ?_
  intro a' ha
  simp only [Act.put, List.setIfInBounds_toArray, List.set_cons_succ, List.set_cons_zero] at ha
  subst ha
  refine rg_val rfl rfl (fun W1 hW1 hF => step_callv en_attestor_attestorref01_Reduce (rRedF _ (chb_word st (stB b) cnt 8) W1) rfl rfl) ?_
  intro a' ha
  simp only [Act.put, List.setIfInBounds_toArray, List.set_cons_succ, List.set_cons_zero] at ha
  subst ha
  refine rg_det rfl rfl rfl (fun K hK => ?_)
  go_big_quiet_op
  refine hK _ ?_; clear hK K
  refine rg_nil (fun w' hw' hF => ?_)
  obtain ⟨z, rfl⟩ := hw'
  simp only [List.drop_succ_cons, List.drop_zero]
  rotate_left 1
  refine rg_val rfl rfl (fun W1 hW1 hF => step_loadR (cs := tsc st (cnt + 1)) Tryz.underlying60 rfl (by rw [tr_size, tsc_len _ _ HST.out.len]) rfl rfl (blk_range (bX.below (grw_below hW1) bX.lt))) ?_
  intro a' ha
  simp only [Act.put, List.setIfInBounds_toArray, List.set_cons_succ, List.set_cons_zero] at ha
  subst ha
  refine rg_det rfl rfl rfl (fun K hK => ?_)
  go_big_quiet_op
  refine hK _ ?_; clear hK K
  refine rg_val rfl rfl (fun W1 hW1 hF => step_callv en_attestor_attestorref10_Value (rValue (chb st cnt (stB b)) (sha_lt _) 0 (by rw [HL.out]; decide) (by rw [HL.out]; decide) _ _ _ W1 (HX3.out.keep (grw_below hW1))) rfl rfl) ?_
  intro a' ha
  simp only [Act.put, List.setIfInBounds_toArray, List.set_cons_succ, List.set_cons_zero] at ha
  subst ha
  refine rg_val rfl rfl (fun W1 hW1 hF => step_callv en_attestor_attestorref01_Reduce (rRedF _ (chb_word st (stB b) cnt 0) W1) rfl rfl) ?_
  intro a' ha
  simp only [Act.put, List.setIfInBounds_toArray, List.set_cons_succ, List.set_cons_zero] at ha
  subst ha
  refine rg_det rfl rfl rfl (fun K hK => ?_)
  go_big_quiet_op
  refine hK _ ?_; clear hK K
  refine rg_val rfl rfl (fun W1 hW1 hF => step_callv en_attestor_attestorref10_Value (rValue (chb st cnt (stB b)) (sha_lt _) 8 (by rw [HL.out]; decide) (by rw [HL.out]; decide) _ _ _ W1 (HX3.out.keep (grw_below hW1))) rfl rfl) ?_
  intro a' ha
  simp only [Act.put, List.setIfInBounds_toArray, List.set_cons_succ, List.set_cons_zero] at ha
  subst ha
  refine rg_val rfl rfl (fun W1 hW1 hF => step_callv en_attestor_attestorref01_Reduce (rRedF _ (chb_word st (stB b) cnt 8) W1) rfl rfl) ?_
  intro a' ha
  simp only [Act.put, List.setIfInBounds_toArray, List.set_cons_succ, List.set_cons_zero] at ha
  subst ha
  refine rg_pass rfl rfl ?_
  intro a' ha
  simp only [Act.put, List.setIfInBounds_toArray, List.set_cons_succ, List.set_cons_zero] at ha
  subst ha
  refine rg_nil (fun w' hw' hF => ?_)
  obtain ⟨z, rfl⟩ := hw'
  simp only [List.drop_succ_cons, List.drop_zero]
  refine wpList_putS ?_
  intro a' ha
  simp only [Act.put, List.setIfInBounds_toArray, List.set_cons_succ, List.set_cons_zero] at ha
  subst ha
  rotate_right 1
  all_goals
    clear hF
    have b2z := b2X.gw z
    have b3z := b3X.gw z
    have hBz := hBX.trans (z.h.mono hBX.size)
    refine wpList_put rfl 60 (.tmp 4) (.tmp 14) rfl rfl (cells := tsc st (cnt + 1)) rfl b2z (by rw [tsc_len _ _ HST.out.len, hcs0]; decide) (by rw [tr_size, tsc_len _ _ HST.out.len]) (ts_one _ _) (spl_all _ _ (by rw [hcs0, tsc_len _ _ HST.out.len])) fun Y hY bY => ?_
    have b3Y := hY.blk b3z (by omega)
  rotate_left 1
  simp only [Act.put, List.setIfInBounds_toArray, List.set_cons_succ, List.set_cons_zero]
  iterate 1 (refine wpList_plain rfl fun K hK => ?_; go_big_op; refine hK _ _ ?_; clear hK K)
  rotate_right 1
  all_goals
    refine wpList_put rfl 26 (.tmp 5) (.tmp 21) rfl rfl (cells := ec (chaT st cnt (stB b))) rfl b3Y (by rw [hcs1]; exact Nat.le_refl _) (by kernel_rfl) rfl (spl_all _ _ (by rw [hcs1]; rfl)) fun Z hZ bZ => ?_
    have b2Z := hZ.blk bY (by omega)
    have hBZ := below_put (below_put hBz hY (by omega)) hZ (by omega)
    clear b2z b3z hBz hBX b3Y bY bX b2X b3X
    go_wp2_with fail
    exact bodyPost_ret (v := .tuple #[tsV st (cnt + 1), ev (chaT st cnt (stB b))]) (res_two (c1 := tsc st (cnt + 1)) (c2 := ec (chaT st cnt (stB b))) rfl rfl rfl Tryz.underlying60 rfl (by rw [tr_size, tsc_len _ _ HST.out.len]) b2Z Tryz.underlying26 rfl (by kernel_rfl) bZ) rfl ⟨rfl, hBZ⟩
end Go.Proofs.YtkgglhakimkkhaaGreatDoor
namespace Go.Proofs.YtkgglhakimkkhaaGreatDoor
open Go.RowKit

def att9 : List Nat := [97, 116, 116, 101, 115, 116, 111, 114, 0]
def newT (lab : List Nat) : List Nat := sha (att9 ++ lab)
theorem newT_ok (lab : List Nat) : StOk (newT lab) := ⟨sha_length _, sha_lt _⟩
theorem absT_ok (st lab l : List Nat) : StOk (absT st lab l) := ⟨sha_length _, sha_lt _⟩
theorem freeze_size (w : World) (a : Addr) (n : Nat) : (w.freeze a n).heap.size = w.heap.size := by
  unfold World.freeze
  split <;> simp
theorem freeze_other (w : World) (a : Addr) (n k : Nat) (h : k ≠ a.block) : (w.freeze a n).heap[k]? = w.heap[k]? := by
  unfold World.freeze
  split
  · rfl
  · simp [Array.getElem?_modify, Ne.symm h]
theorem freeze_cell (w : World) (a p : Addr) (n : Nat) : (w.freeze a n).cell? p = w.cell? p := by
  by_cases h : p.block = a.block
  · unfold World.freeze
    split
    · rfl
    · unfold World.cell?
      simp only [Array.getElem?_modify, h, if_true]
      cases w.heap[a.block]? with
      | none => rfl
      | some o => cases o <;> rfl
  · unfold World.cell?
    rw [freeze_other w a n p.block h]
theorem freeze_below (w : World) (a : Addr) (n N : Nat) (h : N ≤ a.block) : Below N w (w.freeze a n) := by
  refine ⟨?_, ?_, ?_, by rw [freeze_size]; exact Nat.le_refl _, fun k hk => freeze_other w a n k (by omega)⟩
  all_goals
    unfold World.freeze
    split <;> rfl
theorem step_convB {o : Oper} {a : Act} {w : World} {x : Operand} {v : Value} {lo hi : Nat} {l : List Nat} (h : ByS lo hi w v l) (h0 : 0 < l.length) (ho : o.op = .convert 92 92 x) (hx : a.eval x = v) :
    stepAt Tryz.prog o a w fun v' w' => v' = v ∧ ByS lo hi w' v l ∧ Below lo w w' := by
  obtain ⟨g, off, cap, rfl, hc, hg1, hg2, hg3, hcell⟩ := bys_cells h h0
  have key : ∃ w', (convert 92 92 (.slice (some ⟨g, off, none⟩) l.length cap)).run Tryz.prog w = .ok (.slice (some ⟨g, off, none⟩) l.length cap) w' ∧ (w' = w ∨ ∃ k, w' = w.freeze ⟨g, k, none⟩ 1) := by
    cases hsh : w.shape? g with
    | none => exact ⟨w, by simp [convert, run_underlying u8_slice, run_underlying u8_under, markStringish, hsh], .inl rfl⟩
    | some q => exact ⟨w.freeze ⟨g, q.2, none⟩ 1, by simp [convert, run_underlying u8_slice, run_underlying u8_under, markStringish, hsh], .inr ⟨_, rfl⟩⟩
  obtain ⟨w', hr, hw⟩ := key
  unfold stepAt execOp
  simp only [ho, hx, Sem.run_bind, hr, Result.andThen_ok]
  refine ⟨rfl, ?_, ?_⟩
  · rcases hw with rfl | ⟨k, rfl⟩
    · exact h
    · obtain ⟨h1, h2, A, cap', h3, h4, h5⟩ := h
      refine ⟨h1, h2, A, cap', h3, h4, fun h0 => ?_⟩
      obtain ⟨g', off', q1, q2, q3, q4, q5⟩ := h5 h0
      exact ⟨g', off', q1, q2, q3, by rw [freeze_size]; exact q4, fun j u hu => by rw [freeze_cell]; exact q5 j u hu⟩
  · rcases hw with rfl | ⟨k, rfl⟩
    · exact Below.refl _ _
    · exact freeze_below _ _ _ _ hg1
theorem en_attestor_attestorref10_New : ∀ args w, (callFunc 20 args).run Tryz.prog w = .ok (.enter 20 args) w := enters_of Tryz.func20 (by kernel_rfl) rfl
attribute [local irreducible] wpRg
set_option maxRecDepth 100000 in
set_option maxHeartbeats 4000000 in
theorem rNew (b : ByteArray) (hb : b.size ≤ 200) (w : World) :
    Calls Tryz.prog 20 #[.string b] w (Ret (tsV (newT (stB b)) 0) w) := by
  have hlb : (stB b).length = b.size := stB_len b
  have hlt : ∀ x ∈ att9 ++ stB b, x < 256 := fun x hx => by
    rcases List.mem_append.1 hx with h | h
    · exact (show ∀ x ∈ att9, x < 256 by decide) x h
    · exact stB_lt b x h
  go_enter Tryz.func20, Tryz.ntmps20
  go_upto_region 1 with (fail)
  refine wp_stk1 fun W hB hz b1 => ?_
  obtain ⟨cs0, hcs0, b1'⟩ : ∃ cs : Array Value, cs.size = 33 ∧ Blk W w.heap.size 60 cs := ⟨_, rfl, b1⟩
  clear b1 hz
  have HLB := Lib.hid hlb
  clear hlb
  refine wp_region_lit ?_
  refine wpList_plain rfl fun K1 hK1 => wp_of_step (stepAt_mono (fun v3 w3 hh => ?_) (step_litB att9 rfl (by decide) (by decide) rfl (by simp [Act.eval, Act.put, byc, att9])))
  obtain ⟨s3, B3⟩ := hh
  refine hK1 _ _ ?_
  clear hK1 K1
  try simp only [Act.put, List.setIfInBounds_toArray, List.set_cons_succ, List.set_cons_zero]
  refine wpList_plain rfl fun K2 hK2 => wp_of_step (stepAt_mono (fun v4 w4 hh => ?_) (step_convB s3 (by decide) rfl rfl))
  obtain ⟨rfl, s4, B4'⟩ := hh
  refine hK2 _ _ ?_
  clear hK2 K2
  try simp only [Act.put, List.setIfInBounds_toArray, List.set_cons_succ, List.set_cons_zero]
  have B34 := B3.trans B4'
  iterate 1 (refine wpList_plain rfl fun K hK => ?_; go_big_op; refine hK _ _ ?_; clear hK K)
  refine wpList_plain rfl fun K4 hK4 => wp_of_step (stepAt_mono (fun v6 w6 hh => ?_) (step_bytes rfl rfl (by omega)))
  obtain ⟨s6, B6⟩ := hh
  refine hK4 _ _ ?_
  clear hK4 K4
  try simp only [Act.put, List.setIfInBounds_toArray, List.set_cons_succ, List.set_cons_zero]
  refine wpList_plain rfl fun K5 hK5 => wp_of_step (stepAt_mono (fun v7 w7 hh => ?_) (step_callr en_attestor_attestorref07_Join (rJoin att9 (stB b) (by decide) (by rw [HLB.out]; omega) _ _ _ _ _ _ _ (s4.keep B6) s6) rfl rfl))
  obtain ⟨s7, B7⟩ := hh
  refine hK5 _ _ ?_
  clear hK5 K5
  try simp only [Act.put, List.setIfInBounds_toArray, List.set_cons_succ, List.set_cons_zero]
  refine wpList_plain rfl fun K6 hK6 => wp_of_step (stepAt_mono (fun v8 w8' hh => ?_) (step_callv en_attestor_attestorref07_Sum (rSum _ (by rw [List.length_append, HLB.out]; simp [att9]; omega) hlt _ _ _ _ s7) rfl rfl))
  obtain ⟨rfl, B8⟩ := hh
  refine hK6 _ _ ?_
  clear hK6 K6
  try simp only [Act.put, List.setIfInBounds_toArray, List.set_cons_succ, List.set_cons_zero]
  refine wpList_plain rfl fun K7 hK7 => wp_of_step (stepAt_mono (fun v20 w20 hh => ?_) (step_trB _ (sha_length _) rfl rfl))
  obtain ⟨rfl, rfl⟩ := hh
  refine hK7 _ _ ?_
  clear hK7 K7
  try simp only [Act.put, List.setIfInBounds_toArray, List.set_cons_succ, List.set_cons_zero]
  have B4 := B34.trans ((B6.trans ((B7.trans (B8.mono B7.size)).mono B6.size)).mono B34.size)
  refine wpList_put rfl 60 (.tmp 2) (.tmp 9) rfl rfl (cells := tsc (newT (stB b)) 0) rfl (b1'.keep B4) (by rw [tsc_len _ _ (newT_ok _).len, hcs0]; decide) (by rw [tr_size, tsc_len _ _ (newT_ok _).len]) (ts_one _ _) (spl_all _ _ (by rw [hcs0, tsc_len _ _ (newT_ok _).len])) fun Y hY bY => ?_
  have hBY := below_put (hB.trans (B4.mono hB.size)) hY (Nat.le_refl _)
  clear B3 B6 B7 B8 s3 s6 s7 B4 B34 B4' s4
  go_wp2_with fail
  exact bodyPost_ret (v := tsV (newT (stB b)) 0) (res_row (g := w.heap.size) rfl rfl Tryz.underlying60 rfl (by rw [tr_size, tsc_len _ _ (newT_ok _).len]) bY) rfl ⟨rfl, hBY⟩
end Go.Proofs.YtkgglhakimkkhaaGreatDoor
namespace Go.Proofs.YtkgglhakimkkhaaGreatDoor
open Go.RowKit

theorem u64_31 (n : Nat) (h0 : 0 < n) (hn : n < 32) : bits .and .u64 (18446744073709551616 - (n : Int)) 31 = ((32 - n : Nat) : Int) := by
  rw [show (18446744073709551616 - (n : Int)) = ((18446744073709551616 - n : Nat) : Int) by omega, show (31 : Int) = ((31 : Nat) : Int) by rfl, u64_and_nat _ _ (by omega) (by omega)]
  congr 1
  rw [show (31 : Nat) = 2 ^ 5 - 1 by rfl, Nat.and_two_pow_sub_one_eq_mod]
  omega
set_option maxRecDepth 100000 in
set_option maxHeartbeats 1000000 in
theorem gRotL (x : B32) (n : Nat) (h0 : 0 < n) (hn : n < 32) (w : World) : Calls Tryz.prog 156 #[.int .u32 (bv x), .int .i64 (-(n : Int))] w (Ret (.int .u32 (bv (rotr x n))) w) := by
  obtain ⟨m, hm⟩ : ∃ m, m = 32 - n := ⟨_, rfl⟩
  have hA := u64_31 n h0 hn
  rw [← hm, show (18446744073709551616 - (n : Int)) = IntKind.u64.wrap (-(n : Int)) by rw [IntKind.wrap_u64]; omega] at hA
  have hm32 : m < 32 := by omega
  have hnm : (32 : Int) - (m : Int) = (n : Int) := by omega
  obtain ⟨b0, b1⟩ := bv_lt x
  have HR := Lib.hid (show bits .or .u32 (IntKind.u32.wrap (bv x * 2 ^ m)) (bv x / 2 ^ n) = bv (rotr x n) by rw [bv_shr, bv_shl, bv_or, hm, BitVec.or_comm]; rfl)
  clear hm
  go_enter Tryz.func156, Tryz.ntmps156
  go_wp2_with fail
  rw [← IntKind.wrap_u32', HR.out]
  go_ret
  exact ⟨rfl, Below.refl _ _⟩
theorem own_keep {base hi : Nat} {w X : World} {v : Value} {l : List Nat} (h : OwB base w v l) (hv : ∀ g, v.ownBlock = some g → g < hi) (hb : Below hi w X) : OwB base X v l := by
  obtain ⟨h1, h2⟩ := h
  refine ⟨h1, h2.imp id ?_⟩
  rintro ⟨g, cap, cur, rfl, q2, q3, q4⟩
  exact ⟨g, cap, cur, rfl, q2, (hb.block g (hv g rfl)).trans q3, q4⟩
def OwA (l : List Nat) (lo hi : Nat) (v : Value) (w : World) : Prop := OwB lo w v l ∧ ∀ g, v.ownBlock = some g → g < hi
theorem ow_st {l : List Nat} : Stable (OwA l) := fun _ _ _ _ _ h hb => ⟨own_keep h.1 h.2 hb, h.2⟩
theorem OwB.a {base : Nat} {w : World} {v : Value} {l : List Nat} (h : OwB base w v l) : OwA l base w.heap.size v w := ⟨h, fun _ hg => (own_block h hg).2⟩
theorem wpList_pushG {ops : Array Oper} {rest : List Oper} {o1 o2 : Oper} {a : Act} {Q : Exit → Act → World → Prop} {X0 X : World} {base g0 : Nat} {l : List Nat} {u : Value} {c : Nat} (g1 : o1.guard = none) (g2 : o2.guard = none) (s p x : Operand)
    (h1 : o1.op = .buildSlice 92 1 #[(0, x)]) (h2 : o2.op = .call { callee := .builtin .append, args := #[s, p], argTypes := #[92, 92] })
    (hx : a.eval x = .int .u8 (c : Int)) (hs : ∀ v, (a.put o1.dst v).eval s = u) (hp : ∀ v, (a.put o1.dst v).eval p = v) (hown : OwB base X u l) (hat : OwnAt X0 g0 u) (hgr : X0.grownBy X (some g0)) (hk : l.length ≤ 10000000) (hbase : base ≤ X.heap.size)
    (h : ∀ v v' w', OwB base w' v' (l ++ [c]) → OwnAt X0 g0 v' → X0.grownBy w' (some g0) → wpList Tryz.prog ops Q rest ((a.put o1.dst v).put o2.dst v') w') : wpList Tryz.prog ops Q (o1 :: o2 :: rest) a X := by
  obtain ⟨iu8, hu8, uz0, uz1, uz2⟩ := info_parts u8_info
  refine wpList_plain g1 fun K hK => wp_of_step (stepAt_mono (fun v0 w1 hh => ?_) (step_lit1 (cs := #[.int .u8 (c : Int)]) u8_slice hu8 uz0 uz1 (by decide) (by decide) h1 (by rw [hx]; rfl) rfl))
  obtain ⟨⟨rfl, hl1, b1⟩, hB1⟩ := hh
  refine hK _ _ ?_
  refine wpList_app2 g2 s p h2 u8_slice hu8 uz0 uz1 uz2 rfl (by decide) (cl := [.int .u8 (c : Int)]) rfl (fun v hv => by rw [List.mem_singleton.1 hv]; rfl) (hs _) (hp _) (own_below hown (Nat.le_refl _) hB1) hat (grown_below hgr hB1) b1 (by unfold maxLen; omega) (by omega) (Nat.le_trans hbase hB1.size) fun v' w' hown' hat' hgr' => ?_
  refine h _ v' w' ?_ hat' hgr'
  unfold OwB
  rw [byc_app, List.length_append]
  exact hown'
theorem en_slices_Clone : ∀ args w, (callFunc 135 args).run Tryz.prog w = .ok (.enter 135 args) w := enters_of Tryz.func135 (by kernel_rfl) rfl
set_option maxRecDepth 100000 in
set_option maxHeartbeats 1000000 in
theorem gClone (l : List Nat) (hl : l.length ≤ 1000000) (v : Value) (lo hi : Nat) (w : World) (h : ByS lo hi w v l) : Calls Tryz.prog 135 #[v] w (RetR (OwA l) w) := by
  obtain ⟨A, cap, rfl⟩ := h.len
  have HV := Lib.hid h
  clear h
  have q22 : ∀ (w : World) (a : Option Addr) (n c n' c' : Nat), (binOp .eql 92 (.slice a n c) (.slice none n' c')).run Tryz.prog w = .ok (.bool a.isNone) w := fun w a n c n' c' => Lib.run_eql_slice_nil w _ _ a n c n' c' u8_slice
  go_enter Tryz.func135, Tryz.ntmps135
  cases A with
  | none =>
    have h0 : l = [] := by
      obtain ⟨h1, h2, A, c', h3, h4, h5⟩ := HV.out
      cases h3
      cases l with
      | nil => rfl
      | cons x l =>
        obtain ⟨g, off, q, _⟩ := h5 (by simp)
        cases q
    subst h0
    go_wp2_with fail
    refine bodyPost_ret (v := .slice none 0 0) (by simp [results, Tryz.results135, go_sem]) rfl ⟨_, rfl, ⟨⟨rfl, .inl ⟨rfl, rfl⟩⟩, fun g hg => by cases hg⟩, Below.refl _ _⟩
  | some a =>
    go_upto_region 3 with (fail)
    refine wp_region_lit ?_
    refine wpList_new0 rfl rfl fun v1 w1 o1 B1 => ?_
    try simp only [Act.put, List.setIfInBounds_toArray, List.set_cons_succ, List.set_cons_zero]
    iterate 1 (refine wpList_plain rfl fun K hK => ?_; go_big_op; refine hK _ _ ?_; clear hK K)
    refine wpList_cat rfl _ _ rfl rfl rfl (HV.out.keep B1) o1 (by decide) (by omega) B1.size fun v3 w3 o3 B3 => ?_
    rw [List.nil_append] at o3
    have B4 := B1.trans B3
    clear o1 B1 B3
    obtain ⟨A3, c3, rfl⟩ := o3.len
    have HO := Lib.hid o3
    clear o3
    go_wp2_with fail
    exact bodyPost_ret (v := .slice A3 l.length c3) (by simp [results, Tryz.results135, go_sem]) rfl ⟨_, rfl, HO.out.a, B4⟩
end Go.Proofs.YtkgglhakimkkhaaGreatDoor
namespace Go.Proofs.YtkgglhakimkkhaaGreatDoor
open Go.RowKit

theorem en_attestor_transcript_appendWord : ∀ args w, (callFunc 117 args).run Tryz.prog w = .ok (.enter 117 args) w := enters_of Tryz.func117 (by kernel_rfl) rfl
theorem en_attestor_transcript_word : ∀ args w, (callFunc 89 args).run Tryz.prog w = .ok (.enter 89 args) w := enters_of Tryz.func89 (by kernel_rfl) rfl
def apK (l : List Nat) (x k : Nat) : List Nat := l ++ tk k (w8 x)
theorem apK_zero (l : List Nat) (x : Nat) : apK l x 0 = l := by unfold apK; rw [tk_zero, List.append_nil]
theorem apK_next (l : List Nat) (x k : Nat) (h : k < 8) : apK l x k ++ [x / 2 ^ (8 * k) % 256] = apK l x (k + 1) := by
  unfold apK
  rw [List.append_assoc, tk_next (w8 x) k _ (by rw [w8_length]; exact h) (by simp [w8])]
theorem apK_all (l : List Nat) (x : Nat) : apK l x 8 = l ++ w8 x := by unfold apK; rw [tk_all _ _ (w8_length x)]
theorem apK_len (l : List Nat) (x k : Nat) : (apK l x k).length ≤ l.length + k := by
  unfold apK
  rw [List.length_append]
  have := tk_len (w8 x) k
  omega
attribute [local irreducible] wpRg
set_option maxRecDepth 100000 in
set_option maxHeartbeats 4000000 in
theorem gAppW (l : List Nat) (x : Nat) (hx : x < 18446744073709551616) (hl : l.length ≤ 1000000) (u : Value) (base g0 : Nat) (w : World) (h : OwB base w u l) (hat : OwnAt w g0 u) (hb : base ≤ w.heap.size) :
    Calls Tryz.prog 117 #[u, .int .u64 (x : Int)] w fun e w' => ∃ v', e = .returned v' ∧ OwB base w' v' (l ++ w8 x) ∧ OwnAt w g0 v' ∧ w.grownBy w' (some g0) := by
  have hx0 := Lib.hid hx
  have HL := Lib.hid hl
  clear hl
  go_enter Tryz.func117, Tryz.ntmps117
  go_wp2_with fail
  go_loopw [0, 5, 6] (fun t i5 i wr => ∃ k : Nat, k ≤ 8 ∧ i = .int .i64 k ∧ OwB base wr t (apK l x k) ∧ OwnAt w g0 t ∧ w.grownBy wr (some g0)) (fun _ _ i _ => 8 - (intOf i).toNat)
  case atStart => exact ⟨0, Nat.zero_le _, rfl, by rw [apK_zero]; exact h, hat, grown_refl _ _⟩
  case round =>
    obtain ⟨k, hk, rfl, ho, hat, hg⟩ := hrel
    obtain ⟨A, cap, rfl⟩ := ho.len
    have hlen := apK_len l x k
    have hLb := HL.out
    have hsz := hg.size
    by_cases hlt : k < 8
    · go_upto_region 4 with (fail)
      refine wp_region_lit ?_
      iterate 6 (refine wpList_plain rfl fun K hK => ?_; go_big_op; refine hK _ _ ?_; clear hK K)
      refine wpList_pushG (c := x / 2 ^ (8 * k) % 256) rfl rfl _ _ _ rfl rfl (by simp [Act.eval]) (fun _ => rfl) (fun _ => rfl) ho hat hg (by omega) (by omega) fun v5 v6 w6 o6 hat6 hg6 => ?_
      rw [apK_next l x k hlt] at o6
      clear ho hat hg
      obtain ⟨A6, c6, rfl⟩ := o6.len
      go_wp2_with fail
      exact ⟨⟨k + 1, by omega, by go_num, o6, hat6, hg6⟩, by simp [intOf]; omega⟩
    · obtain rfl : k = 8 := by omega
      have HO := Lib.hid ho
      have HAT := Lib.hid hat
      clear ho hat
      go_wp2_with fail
      refine bodyPost_ret (v := .slice A (apK l x 8).length cap) (by simp [results, Tryz.results117, go_sem]) rfl ⟨_, rfl, ?_, HAT.out, hg⟩
      rw [← apK_all]
      exact HO.out
theorem gAppW0 (x : Nat) (hx : x < 18446744073709551616) (w : World) : Calls Tryz.prog 117 #[.slice none 0 0, .int .u64 (x : Int)] w (RetR (OwA (w8 x)) w) :=
  (gAppW [] x hx (by decide) (.slice none 0 0) w.heap.size w.heap.size w ⟨rfl, .inl ⟨rfl, rfl⟩⟩ (fun g hg => by cases hg) (Nat.le_refl _)).mono fun e w' ⟨v, he, ho, hat, hg⟩ => ⟨v, he, ho.a, ⟨hg.os, hg.tape, hg.output, hg.size, fun i hi => hg.block i hi (fun e => by cases e; omega)⟩⟩
theorem u64_shl_or (y x : Nat) (hy : y < 72057594037927936) (hx : x < 256) : bits .or .u64 ((y : Int) * 256) (x : Int) = ((y * 256 + x : Nat) : Int) := by
  rw [show (y : Int) * 256 = ((y * 256 : Nat) : Int) by omega, u64_or_nat _ _ (by omega) (by omega)]
  congr 1
  rw [show y * 256 = 2 ^ 8 * y by omega]
  exact (Nat.two_pow_add_eq_or_of_lt (i := 8) (by omega) y).symm
set_option maxRecDepth 100000 in
set_option maxHeartbeats 4000000 in
theorem gWordD (d : List Nat) (hd : d.length = 32) (h8 : ∀ x ∈ d, x < 256) (o : Nat) (ho : o ≤ 3) (w : World) : Calls Tryz.prog 89 #[dgv d, .int .i64 (o : Int)] w (Ret (.int .u64 (le8 d (8 * o) 8 : Nat)) w) := by
  obtain ⟨S, hS⟩ : ∃ S, S = dgv d := ⟨_, rfl⟩
  rw [← hS]
  have HD := Lib.hid hd
  have H8 := Lib.hid h8
  clear hd h8
  go_enter Tryz.func89, Tryz.ntmps89
  go_upto_region 1 with (fail)
  refine wp_stk1 fun W hB hz b1 => ?_
  have b1' : Blk W w.heap.size 58 (byc d).toArray := by first | exact b1 | (rw [hS] at b1; exact b1)
  clear b1 hz
  go_wp2_with fail
  go_loopw [5, 6] (fun x i wr => ∃ k : Nat, k ≤ 8 ∧ i = .int .i64 (7 - (k : Int)) ∧ x = .int .u64 ((le8 d (8 * o) k : Nat) : Int) ∧ Blk wr w.heap.size 58 (byc d).toArray ∧ Below w.heap.size w wr) (fun _ i _ => (intOf i + 1).toNat)
  case atStart => exact ⟨0, Nat.zero_le _, rfl, rfl, b1', hB⟩
  case round =>
    obtain ⟨k, hk, rfl, rfl, hb, hBr⟩ := hrel
    by_cases hlt : k < 8
    · obtain ⟨j, hj⟩ : ∃ j, k + j = 7 := ⟨7 - k, by omega⟩
      rw [show 7 - (k : Int) = (j : Int) by omega]
      have hoj : 8 * o + j < d.length := by rw [HD.out]; omega
      have c1 : wr.cell? ⟨w.heap.size, 8 * o + j, none⟩ = some (.int .u8 (d[8 * o + j] : Nat)) := by
        rw [hb.cell]
        simp [byc, List.getElem?_map, List.getElem?_eq_getElem hoj]
      have hN : le8 d (8 * o) (k + 1) = le8 d (8 * o) k * 256 + d[8 * o + j] := by
        rw [le8, show 7 - k = j by omega, List.getD_eq_getElem?_getD, List.getElem?_eq_getElem hoj]
        rfl
      have hx8 : d[8 * o + j] < 256 := H8.out _ (List.getElem_mem hoj)
      have hle : le8 d (8 * o) k < 72057594037927936 := by
        have h1 := le8_lt d H8.out (8 * o) k
        have h2 : 256 ^ k ≤ 256 ^ 7 := Nat.pow_le_pow_right (by decide) (by omega)
        omega
      have HN := Lib.hid hN
      clear hN
      generalize d[8 * o + j] = x at *
      generalize le8 d (8 * o) k = y at *
      have HOR := Lib.hid (u64_shl_or y x hle hx8)
      go_wp2_with fail
      rw [HOR.out]
      exact ⟨⟨k + 1, by omega, by congr 1; omega, by rw [HN.out], hb, hBr⟩, by simp [intOf]⟩
    · obtain rfl : k = 8 := by omega
      go_wp2_with fail
      exact bodyPost_ret (v := .int .u64 (le8 d (8 * o) 8 : Nat)) (by simp [results, Tryz.results89, go_sem]) rfl ⟨rfl, hBr⟩
end Go.Proofs.YtkgglhakimkkhaaGreatDoor
