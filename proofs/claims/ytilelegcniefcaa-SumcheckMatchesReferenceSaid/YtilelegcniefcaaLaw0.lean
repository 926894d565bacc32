/-
  The frame of a law's statement whose row lists no variable.
-/
import Derived.Test.YtilelegcniefcaaLaw
namespace Go.Proofs.Ytilelegcniefcaa
open Go.ChangeShapes Go.WideShapes Go.RowKit

/-- A law whose every call returns true and leaves what was there as it was: its row's step, where nothing is laid. -/
theorem law_lifted0 {C : Checked} {f : FuncId} {fn : Func} {s : ChangeSpec} {tb : TypeId} (own : ownKnob C.prog.godebug = none) (noInit : C.prog.inits.idxOf? f = none) (hf : C.prog.funcs[f]? = some fn)
    (hl : laidOutB C.prog = true) (hv : s.vars = []) (hpar : (fn.params.toList.all fun t => C.prog.readableRec t && decide (t < C.prog.types.size)) = true) (hres : fn.resultTypes = #[tb]) (hb : C.prog.underlying tb = some .bool)
    (hfn : ∀ (H : Type) (ds : List (DataW H)), ds.length = fn.params.toList.length → s.fn H ds = { results := [.lit (.bool true)], args := ds })
    (walk : ∀ (W : World) (base : Nat) (args : Array Value), (∀ (j : Nat) t v, fn.params[j]? = some t → args[j]? = some v → Value.okWide C.prog W .any base t v) → ArgsOk C.prog W fn.params.toList args.toList →
      Calls C.prog f args W (Ret (.bool true) W))
    (os : Os) (started : os.Started) (H : Type) (enc : TypeId × Value → H)
    (witness : ∃ (w : World) (tape : Tape) (i : Input), w.os = os ∧ (w.forCall tape i).Shaped C.prog ∧ i.vars = [] ∧ Input.okWide C.prog (w.forCall tape i) .any w.heap.size f i ∧
      ((s.pre enc C.prog fn [] false (w.forCall tape i).memory i.args ∧ True) ∧ sizedMet enc C.prog fn (OpenSpec.ofChange s) false (w.forCall tape i).memory i.args) ∧ ({} : Assume).holds C.prog (lone (Frame.enter C.prog f i.args .normal) [] (w.forCall tape i))) :
    ReturnsInHanded {} C os f .any (fun w args => s.pre enc C.prog fn [] false w args ∧ sizedMet enc C.prog fn (OpenSpec.ofChange s) false w args) (s.post enc C.prog fn false true false false) := by
  have e : (fun (w : World) (args : Array Value) => s.pre enc C.prog fn [] false w args ∧ sizedMet enc C.prog fn (OpenSpec.ofChange s) false w args) = fun w args => (s.pre enc C.prog fn [] false w args ∧ True) ∧ sizedMet enc C.prog fn (OpenSpec.ofChange s) false w args := by
    funext w args
    rw [and_true]
  rw [e]
  refine returnsInHanded_of_change_and (C := C) (X := fun _ _ => True) (fun _ _ _ _ h => h) own started noInit hf witness ?_
  intro W base args ds gs before hval hW _ hwt hL _
  have hW' := hW
  obtain ⟨p, q, hA, hV, rfl, hfz, hnd⟩ := hW
  have hlen : ∀ {ts : List TypeId} {vs : List Value} {ds : List (DataW H)} {ps : List MemPlace}, DataW.TrodAll enc C.prog W 0 (fun _ => true) true ts vs ds ps → ds.length = ts.length := by
    intro ts
    induction ts with
    | nil => intro vs ds ps h; cases vs <;> cases ds <;> first | rfl | exact h.elim
    | cons t ts ih =>
      intro vs ds ps h
      cases vs with
      | nil => cases ds <;> exact h.elim
      | cons v vs =>
        cases ds with
        | nil => exact h.elim
        | cons d ds => obtain ⟨_, _, _, h2, _⟩ := h; simp [ih h2]
  rw [hv] at hV
  obtain ⟨rfl, rfl⟩ := trodVars_none hV
  have hwt' : ∀ y ∈ DataW.weightsEach C.prog fn.params.toList ds, y ≤ reachBytes := by
    intro y hy
    simp only [List.all_eq_true, decide_eq_true_eq, ChangeSpec.plain, hv] at hwt
    refine hwt y ?_
    simpa [DataSpec.varTypes] using hy
  refine (walk W base args hval (argsOk_of hA hwt')).mono fun e W' ⟨he, hB⟩ => ?_
  exact ⟨_, he, law_post hl hv hpar hres hb hW' (hfn H ds (hlen hA)) hB⟩
end Go.Proofs.Ytilelegcniefcaa
