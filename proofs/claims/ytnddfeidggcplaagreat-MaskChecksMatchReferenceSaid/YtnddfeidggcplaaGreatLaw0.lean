/-
  The frame of a law's statement: what the arguments' reading gives the walk, and what a walk that returns true and leaves old memory alone gives the row.
  The frame of a law's statement whose row lists no variable.
-/
import Derived.Test.YtnddfeidggcplaaGreatRows
import Derived.Test.YtnddfeidggcplaaGreatRgU
import Derived.ProofKit
import Derived.OpenShut
import Derived.Carry
import Derived.LaidMore
import Derived.LaidLaws
import Derived.JoinedOf
import Derived.Stop.Joined
namespace Go.Proofs.YtnddfeidggcplaaGreat
open Go.ChangeShapes Go.WideShapes Go.RowKit

/-- The cells of a type, as a reading of the arguments finds them. -/
def Okd (P : Program) (W : World) : Nat → TypeId → List Value → Prop
  | 0, _, _ => False
  | n + 1, t, cs =>
    match P.underlying t with
    | some .bool => ∃ b, cs = [.bool b]
    | some (.int k) => ∃ z, cs = [.int k z] ∧ (Lit.int k z).wf = true
    | some .string => ∃ s : ByteArray, cs = [.string s] ∧ s.size ≤ reachBytes
    | some (.slice e) => cs = [.slice none 0 0] ∨ ∃ a len cap, cs = [.slice (some a) len cap] ∧ len ≤ cap ∧ cap * P.bytesOf e ≤ reachBytes ∧
        ∀ i, i < cap → ∃ cs', W.cells? 0 (a.add (i * P.cellsOf e)) (P.cellsOf e) = some cs' ∧ Okd P W n e cs'
    | some (.struct fs) => cs.length = P.cellsOf t ∧ ∀ (i : Nat) (f : Field), fs[i]? = some f → Okd P W n f.type ((cs.drop f.offset).take (P.cellsOf f.type))
    | some (.array m e) => cs.length = P.cellsOf t ∧ ∀ i, i < m → Okd P W n e ((cs.drop (i * P.cellsOf e)).take (P.cellsOf e))
    | _ => True

theorem weights_each {H : Type} {P : Program} {N : Nat} : ∀ (ts : List TypeId) (ds : List (DataW H)), (∀ x ∈ DataW.weightsEach P ts ds, x ≤ N) → ∀ (i : Nat) (t : TypeId) (d : DataW H), ts[i]? = some t → ds[i]? = some d → ∀ x ∈ d.weights P t, x ≤ N
  | [], _, _, i, t, d, ht, _ => by simp at ht
  | _ :: _, [], _, i, t, d, _, hd => by simp at hd
  | t0 :: ts, d0 :: ds, h, 0, t, d, ht, hd => by
    simp only [List.getElem?_cons_zero, Option.some.injEq] at ht hd
    subst ht; subst hd
    intro x hx
    exact h x (by rw [DataW.weightsEach]; exact List.mem_append_left _ hx)
  | t0 :: ts, d0 :: ds, h, i + 1, t, d, ht, hd =>
    weights_each ts ds (fun x hx => h x (by rw [DataW.weightsEach]; exact List.mem_append_right _ hx)) i t d (by simpa using ht) (by simpa using hd)
theorem weights_all {H : Type} {P : Program} {N : Nat} {e : TypeId} : ∀ (ds : List (DataW H)), (∀ x ∈ DataW.weightsAll P e ds, x ≤ N) → ∀ d ∈ ds, ∀ x ∈ d.weights P e, x ≤ N
  | [], _, d, hd => by cases hd
  | d0 :: ds, h, d, hd => by
    intro x hx
    rcases List.mem_cons.1 hd with rfl | hd
    · exact h x (by rw [DataW.weightsAll]; exact List.mem_append_left _ hx)
    · exact weights_all ds (fun x hx => h x (by rw [DataW.weightsAll]; exact List.mem_append_right _ hx)) d hd x hx

theorem okd_of_trod {H : Type} {enc : TypeId × Value → H} {P : Program} {W : World} : ∀ (n : Nat) (t : TypeId) (cs : List Value) (x : DataW H × List MemPlace),
    DataW.trod enc P W 0 (fun _ => true) true n t cs = some x → (∀ y ∈ x.1.weights P t, y ≤ reachBytes) → Okd P W n t cs
  | 0, t, cs, x, h, _ => by simp [DataW.trod] at h
  | n + 1, t, cs, x, h, hw => by
    unfold Okd
    cases ht : P.underlying t with
    | none => trivial
    | some d =>
      cases d
      case bool =>
        obtain ⟨b, rfl, _⟩ := DataW.trod_bool ht h
        exact ⟨b, rfl⟩
      case int k =>
        obtain ⟨z, rfl, _, hz⟩ := DataW.trod_int ht h
        exact ⟨z, rfl, hz⟩
      case string =>
        obtain ⟨s, rfl, rfl, _⟩ := DataW.trod_string ht h
        refine ⟨s, rfl, ?_⟩
        have := hw s.data.toList.length (by simp [DataW.weights])
        simpa using this
      case slice e =>
        rcases DataW.trod_slice ht h with ⟨rfl, _⟩ | ⟨a, len, cap, elems, rest, m, hm, rfl, rfl, _, hl, _, hlen, hel, hsp, _⟩
        · exact .inl rfl
        · obtain rfl : n = m := by omega
          obtain ⟨hr, hre⟩ := hsp rfl
          simp only [DataW.weights, ht, List.length_map, List.mem_cons, List.mem_append] at hw
          refine .inr ⟨a, len, cap, rfl, hl, ?_, fun i hi => ?_⟩
          · have := hw _ (.inl rfl)
            rwa [hlen, hr, show len + (cap - len) = cap by omega] at this
          · by_cases hil : i < len
            · have h1 := hel i hil
              rw [List.getElem?_eq_getElem (by omega), Option.bind_eq_some_iff] at h1
              obtain ⟨cs', q1, q2⟩ := h1
              refine ⟨cs', q1, okd_of_trod n e cs' _ q2 fun y hy => ?_⟩
              exact weights_all (elems.map (·.1)) (fun z hz => hw z (.inr (.inl hz))) _ (List.mem_map.2 ⟨_, List.getElem_mem _, rfl⟩) y hy
            · have h1 := hre (i - len) (by omega)
              rw [List.getElem?_eq_getElem (by omega), Option.bind_eq_some_iff, show len + (i - len) = i by omega] at h1
              obtain ⟨cs', q1, q2⟩ := h1
              refine ⟨cs', q1, okd_of_trod n e cs' _ q2 fun y hy => ?_⟩
              exact weights_all (rest.map (·.1)) (fun z hz => hw z (.inr (.inr hz))) _ (List.mem_map.2 ⟨_, List.getElem_mem _, rfl⟩) y hy
      case struct fs =>
        obtain ⟨xs, m, hm, rfl, h1, h2, h3⟩ := DataW.trod_struct ht h
        obtain rfl : n = m := by omega
        simp only [DataW.weights, ht] at hw
        refine ⟨h1, fun i f hf => ?_⟩
        have hi : i < xs.length := by rw [h2]; exact (Array.getElem?_eq_some_iff.1 hf).1
        have q := h3 i f hf
        rw [List.getElem?_eq_getElem hi] at q
        refine okd_of_trod n f.type _ _ q ?_
        exact weights_each (fs.toList.map (·.type)) (xs.map (·.1)) hw i f.type (xs[i].1) (by simp [hf]) (by simp [hi])
      case array k e =>
        obtain ⟨xs, m, hm, rfl, h1, h2, h3⟩ := DataW.trod_array ht h
        obtain rfl : n = m := by omega
        simp only [DataW.weights, ht] at hw
        refine ⟨h1, fun i hi => ?_⟩
        have q := h3 i hi
        rw [List.getElem?_eq_getElem (by omega)] at q
        refine okd_of_trod n e _ _ q ?_
        exact weights_all (xs.map (·.1)) hw (xs[i].1) (List.mem_map.2 ⟨_, List.getElem_mem _, rfl⟩)
      all_goals trivial

/-- The arguments, as the walk wants them: each reads. -/
def ArgsOk (P : Program) (W : World) (ts : List TypeId) (args : List Value) : Prop :=
  ts.length = args.length ∧ ∀ (i : Nat) (t : TypeId) (v : Value), ts[i]? = some t → args[i]? = some v → ∃ n, Okd P W n t v.cells.toList
theorem argsOk_of {H : Type} {enc : TypeId × Value → H} {P : Program} {W : World} : ∀ {ts : List TypeId} {vs : List Value} {ds : List (DataW H)} {ps : List MemPlace},
    DataW.TrodAll enc P W 0 (fun _ => true) true ts vs ds ps → (∀ y ∈ DataW.weightsEach P ts ds, y ≤ reachBytes) → ArgsOk P W ts vs
  | [], [], [], _, _, _ => ⟨rfl, fun i t v ht _ => by simp at ht⟩
  | [], [], _ :: _, _, h, _ => h.elim
  | [], _ :: _, _, _, h, _ => h.elim
  | _ :: _, [], _, _, h, _ => h.elim
  | _ :: _, _ :: _, [], _, h, _ => h.elim
  | t :: ts, v :: vs, d :: ds, ps, h, hw => by
    obtain ⟨p, q, ⟨fuel, h1⟩, h2, rfl⟩ := h
    have hw1 : ∀ y ∈ d.weights P t, y ≤ reachBytes := fun y hy => hw y (by rw [DataW.weightsEach]; exact List.mem_append_left _ hy)
    obtain ⟨hl, hr⟩ := argsOk_of h2 fun y hy => hw y (by rw [DataW.weightsEach]; exact List.mem_append_right _ hy)
    refine ⟨by simp [hl], fun i t' v' ht hv => ?_⟩
    cases i with
    | zero =>
      simp only [List.getElem?_cons_zero, Option.some.injEq] at ht hv
      subst ht; subst hv
      exact ⟨fuel, okd_of_trod fuel t _ _ h1 hw1⟩
    | succ i => exact hr i t' v' (by simpa using ht) (by simpa using hv)

theorem all_trod {H : Type} {enc : TypeId × Value → H} {P : Program} (hl : laidOutB P = true) {W W' : World} (hb : Below W.heap.size W W') :
    ∀ {ts : List TypeId} {vs : List Value} {ds : List (DataW H)} {ps : List MemPlace}, (ts.all fun t => P.readableRec t && decide (t < P.types.size)) = true → DataW.TrodAll enc P W 0 (fun _ => true) true ts vs ds ps →
      (∀ x ∈ ps, x.block < W.heap.size) → DataW.TrodAll enc P W' 0 (fun b => decide (b < W.heap.size)) true ts vs ds ps
  | [], [], [], _, _, h, _ => h
  | [], [], _ :: _, _, _, h, _ => h.elim
  | [], _ :: _, _, _, _, h, _ => h.elim
  | _ :: _, [], _, _, _, h, _ => h.elim
  | _ :: _, _ :: _, [], _, _, h, _ => h.elim
  | t :: ts, v :: vs, d :: ds, ps, ha, h, hlt => by
    obtain ⟨p, q, h1, h2, rfl⟩ := h
    simp only [List.all_cons, Bool.and_eq_true, decide_eq_true_eq] at ha
    exact ⟨p, q, Below.trod hl ha.1.1 ha.1.2 h1 hb fun x hx => hlt x (List.mem_append_left _ hx),
      all_trod hl hb ha.2 h2 fun x hx => hlt x (List.mem_append_right _ hx), rfl⟩

/-- A call that returned true and left what was there as it was has met the row's closing condition. -/
theorem law_post {H : Type} {enc : TypeId × Value → H} {P : Program} {fn : Func} {s : ChangeSpec} {tb : TypeId} (hl : laidOutB P = true) (hv : s.vars = []) (hpar : (fn.params.toList.all fun t => P.readableRec t && decide (t < P.types.size)) = true)
    (hres : fn.resultTypes = #[tb]) (hb : P.underlying tb = some .bool) {W W' : World} {args : Array Value} {ds gs : List (DataW H)} {before : List MemPlace}
    (hW : DataW.Whole enc P fn.params.toList s.vars false W args.toList ds gs before) (hfn : s.fn H ds = { results := [.lit (.bool true)], args := ds }) (hB : Below W.heap.size W W') :
    s.post enc P fn false true false false W args (.bool true) W' := by
  have hW' := hW
  have hlt := hW.lt
  obtain ⟨p, q, hA, hV, rfl, hfz, hnd⟩ := hW
  rw [hv] at hV
  obtain ⟨rfl, rfl⟩ := trodVars_none hV
  simp only [List.append_nil] at hW' hlt
  refine ⟨ds, [], p, [], p, [], hW', ?_, ?_, ?_, hB.frame _, fun h => by cases h⟩
  · rw [List.append_nil, hfn, hres]
    exact trodAll_mk1 (shut_bool hb true)
  · rw [List.append_nil, hfn]
    exact all_trod hl hB hpar hA hlt
  · rw [List.append_nil, hfn, hv]
    exact rfl

/-- A law whose every call returns true and leaves what was there as it was: its row's step. -/
theorem law_lifted {C : Checked} {f : FuncId} {fn : Func} {s : ChangeSpec} {tb : TypeId} {laid : List (String × DataW Unit)} (own : ownKnob C.prog.godebug = none) (noInit : C.prog.inits.idxOf? f = none) (hf : C.prog.funcs[f]? = some fn)
    (hl : laidOutB C.prog = true) (hv : s.vars = []) (hpar : (fn.params.toList.all fun t => C.prog.readableRec t && decide (t < C.prog.types.size)) = true) (hres : fn.resultTypes = #[tb]) (hb : C.prog.underlying tb = some .bool)
    (hfn : ∀ (H : Type) (ds : List (DataW H)), ds.length = fn.params.toList.length → s.fn H ds = { results := [.lit (.bool true)], args := ds })
    (walk : ∀ (W : World) (base : Nat) (args : Array Value), (∀ (j : Nat) t v, fn.params[j]? = some t → args[j]? = some v → Value.okWide C.prog W .any base t v) → ArgsOk C.prog W fn.params.toList args.toList → laidMetH C.prog laid W →
      Calls C.prog f args W (Ret (.bool true) W))
    (os : Os) (started : os.Started) (H : Type) (enc : TypeId × Value → H)
    (witness : ∃ (w : World) (tape : Tape) (i : Input), w.os = os ∧ (w.forCall tape i).Shaped C.prog ∧ i.vars = [] ∧ Input.okWide C.prog (w.forCall tape i) .any w.heap.size f i ∧
      ((s.pre enc C.prog fn [] false (w.forCall tape i).memory i.args ∧ laidMetH C.prog laid (w.forCall tape i).memory) ∧ sizedMet enc C.prog fn (OpenSpec.ofChange s) false (w.forCall tape i).memory i.args) ∧ ({} : Assume).holds C.prog (lone (Frame.enter C.prog f i.args .normal) [] (w.forCall tape i))) :
    ReturnsInHanded {} C os f .any (fun w args => (s.pre enc C.prog fn [] false w args ∧ laidMetH C.prog laid w) ∧ sizedMet enc C.prog fn (OpenSpec.ofChange s) false w args) (s.post enc C.prog fn false true false false) := by
  refine returnsInHanded_of_change_and (C := C) (X := fun w _ => laidMetH C.prog laid w) (fun _ _ _ hh h => h.of_heap hh) own started noInit hf witness ?_
  intro W base args ds gs before hval hW _ hwt hL _
  have hW' := hW
  obtain ⟨p, q, hA, hV, rfl, hfz, hnd⟩ := hW
  have hlen : ∀ {ts : List TypeId} {vs : List Value} {ds : List (DataW H)} {ps : List MemPlace}, DataW.TrodAll enc C.prog W 0 (fun _ => true) true ts vs ds ps → ds.length = ts.length := by
    intro ts
    induction ts with
    | nil => intro vs ds ps h; cases vs <;> cases ds <;> first | rfl | exact h.elim
    | cons t ts ih =>
      intro vs ds ps h
      cases vs with
      | nil => cases ds <;> exact h.elim
      | cons v vs =>
        cases ds with
        | nil => exact h.elim
        | cons d ds => obtain ⟨_, _, _, h2, _⟩ := h; simp [ih h2]
  rw [hv] at hV
  obtain ⟨rfl, rfl⟩ := trodVars_none hV
  have hwt' : ∀ y ∈ DataW.weightsEach C.prog fn.params.toList ds, y ≤ reachBytes := by
    intro y hy
    simp only [List.all_eq_true, decide_eq_true_eq, ChangeSpec.plain, hv] at hwt
    refine hwt y ?_
    simpa [DataSpec.varTypes] using hy
  refine (walk W base args hval (argsOk_of hA hwt') hL).mono fun e W' ⟨he, hB⟩ => ?_
  exact ⟨_, he, law_post hl hv hpar hres hb hW' (hfn H ds (hlen hA)) hB⟩
end Go.Proofs.YtnddfeidggcplaaGreat
namespace Go.Proofs.YtnddfeidggcplaaGreat
open Go.ChangeShapes Go.WideShapes Go.RowKit

/-- A law whose every call returns true and leaves what was there as it was: its row's step, where nothing is laid. -/
theorem law_lifted0 {C : Checked} {f : FuncId} {fn : Func} {s : ChangeSpec} {tb : TypeId} (own : ownKnob C.prog.godebug = none) (noInit : C.prog.inits.idxOf? f = none) (hf : C.prog.funcs[f]? = some fn)
    (hl : laidOutB C.prog = true) (hv : s.vars = []) (hpar : (fn.params.toList.all fun t => C.prog.readableRec t && decide (t < C.prog.types.size)) = true) (hres : fn.resultTypes = #[tb]) (hb : C.prog.underlying tb = some .bool)
    (hfn : ∀ (H : Type) (ds : List (DataW H)), ds.length = fn.params.toList.length → s.fn H ds = { results := [.lit (.bool true)], args := ds })
    (walk : ∀ (W : World) (base : Nat) (args : Array Value), (∀ (j : Nat) t v, fn.params[j]? = some t → args[j]? = some v → Value.okWide C.prog W .any base t v) → ArgsOk C.prog W fn.params.toList args.toList →
      Calls C.prog f args W (Ret (.bool true) W))
    (os : Os) (started : os.Started) (H : Type) (enc : TypeId × Value → H)
    (witness : ∃ (w : World) (tape : Tape) (i : Input), w.os = os ∧ (w.forCall tape i).Shaped C.prog ∧ i.vars = [] ∧ Input.okWide C.prog (w.forCall tape i) .any w.heap.size f i ∧
      ((s.pre enc C.prog fn [] false (w.forCall tape i).memory i.args ∧ True) ∧ sizedMet enc C.prog fn (OpenSpec.ofChange s) false (w.forCall tape i).memory i.args) ∧ ({} : Assume).holds C.prog (lone (Frame.enter C.prog f i.args .normal) [] (w.forCall tape i))) :
    ReturnsInHanded {} C os f .any (fun w args => s.pre enc C.prog fn [] false w args ∧ sizedMet enc C.prog fn (OpenSpec.ofChange s) false w args) (s.post enc C.prog fn false true false false) := by
  have e : (fun (w : World) (args : Array Value) => s.pre enc C.prog fn [] false w args ∧ sizedMet enc C.prog fn (OpenSpec.ofChange s) false w args) = fun w args => (s.pre enc C.prog fn [] false w args ∧ True) ∧ sizedMet enc C.prog fn (OpenSpec.ofChange s) false w args := by
    funext w args
    rw [and_true]
  rw [e]
  refine returnsInHanded_of_change_and (C := C) (X := fun _ _ => True) (fun _ _ _ _ h => h) own started noInit hf witness ?_
  intro W base args ds gs before hval hW _ hwt hL _
  have hW' := hW
  obtain ⟨p, q, hA, hV, rfl, hfz, hnd⟩ := hW
  have hlen : ∀ {ts : List TypeId} {vs : List Value} {ds : List (DataW H)} {ps : List MemPlace}, DataW.TrodAll enc C.prog W 0 (fun _ => true) true ts vs ds ps → ds.length = ts.length := by
    intro ts
    induction ts with
    | nil => intro vs ds ps h; cases vs <;> cases ds <;> first | rfl | exact h.elim
    | cons t ts ih =>
      intro vs ds ps h
      cases vs with
      | nil => cases ds <;> exact h.elim
      | cons v vs =>
        cases ds with
        | nil => exact h.elim
        | cons d ds => obtain ⟨_, _, _, h2, _⟩ := h; simp [ih h2]
  rw [hv] at hV
  obtain ⟨rfl, rfl⟩ := trodVars_none hV
  have hwt' : ∀ y ∈ DataW.weightsEach C.prog fn.params.toList ds, y ≤ reachBytes := by
    intro y hy
    simp only [List.all_eq_true, decide_eq_true_eq, ChangeSpec.plain, hv] at hwt
    refine hwt y ?_
    simpa [DataSpec.varTypes] using hy
  refine (walk W base args hval (argsOk_of hA hwt')).mono fun e W' ⟨he, hB⟩ => ?_
  exact ⟨_, he, law_post hl hv hpar hres hb hW' (hfn H ds (hlen hA)) hB⟩
end Go.Proofs.YtnddfeidggcplaaGreat
