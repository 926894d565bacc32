/-
  The frame of a law's statement: what the arguments' reading gives the walk, and what a walk that returns true and leaves old memory alone gives the row.
  The library contracts of math/bits.Mul64, Add64 and Sub64 laid at this seat's translation, in plain words (the text that the shelf's lay-plain tool wrote, with the numbers named).
  Plain mathematics, no program: the prime field as Fin of the prime, its elements as integers, and the quadratic extension as pairs.
  The functions of package field and of its reference that only compute, each by its contract: what they return for field elements.
  Plain mathematics, no program: the ring of the extension field, weights of vertices, multilinear extensions.
  That a call of one of the program's functions enters its body, function by function.
-/
import Derived.Test.YtficeebbbkmhcaaGreatDoorRows
import Derived.Test.YtficeebbbkmhcaaGreatDoorRg
import Derived.ProofKit
import Derived.OpenShut
import Derived.Carry
import Derived.LaidMore
import Derived.LaidLaws
import Derived.JoinedOf
import Derived.Stop.Joined
import Derived.Shelf.Bits.Mul64
import Derived.Shelf.Spec.BitsCarry
import Derived.Test.YtficeebbbkmhcaaGreatDoorProg
import Derived.WalkKit
import Derived.WalkSpells
import Derived.WalkLawsBesides
import Derived.Laws.BitsAllLaws
import Derived.Lib.Hide
import Derived.Shelf.Abstract
namespace Go.Proofs.YtficeebbbkmhcaaGreatDoor
open Go.ChangeShapes Go.WideShapes Go.RowKit

def Okd (P : Program) (W : World) : Nat → TypeId → List Value → Prop
  | 0, _, _ => False
  | n + 1, t, cs =>
    match P.underlying t with
    | some .bool => ∃ b, cs = [.bool b]
    | some (.int k) => ∃ z, cs = [.int k z] ∧ (Lit.int k z).wf = true
    | some .string => ∃ s : ByteArray, cs = [.string s] ∧ s.size ≤ reachBytes
    | some (.slice e) => cs = [.slice none 0 0] ∨ ∃ a len cap, cs = [.slice (some a) len cap] ∧ len ≤ cap ∧ cap * P.bytesOf e ≤ reachBytes ∧
        ∀ i, i < cap → ∃ cs', W.cells? 0 (a.add (i * P.cellsOf e)) (P.cellsOf e) = some cs' ∧ Okd P W n e cs'
    | some (.struct fs) => cs.length = P.cellsOf t ∧ ∀ (i : Nat) (f : Field), fs[i]? = some f → Okd P W n f.type ((cs.drop f.offset).take (P.cellsOf f.type))
    | some (.array m e) => cs.length = P.cellsOf t ∧ ∀ i, i < m → Okd P W n e ((cs.drop (i * P.cellsOf e)).take (P.cellsOf e))
    | _ => True

theorem weights_each {H : Type} {P : Program} {N : Nat} : ∀ (ts : List TypeId) (ds : List (DataW H)), (∀ x ∈ DataW.weightsEach P ts ds, x ≤ N) → ∀ (i : Nat) (t : TypeId) (d : DataW H), ts[i]? = some t → ds[i]? = some d → ∀ x ∈ d.weights P t, x ≤ N
  | [], _, _, i, t, d, ht, _ => by simp at ht
  | _ :: _, [], _, i, t, d, _, hd => by simp at hd
  | t0 :: ts, d0 :: ds, h, 0, t, d, ht, hd => by
    simp only [List.getElem?_cons_zero, Option.some.injEq] at ht hd
    subst ht; subst hd
    intro x hx
    exact h x (by rw [DataW.weightsEach]; exact List.mem_append_left _ hx)
  | t0 :: ts, d0 :: ds, h, i + 1, t, d, ht, hd =>
    weights_each ts ds (fun x hx => h x (by rw [DataW.weightsEach]; exact List.mem_append_right _ hx)) i t d (by simpa using ht) (by simpa using hd)
theorem weights_all {H : Type} {P : Program} {N : Nat} {e : TypeId} : ∀ (ds : List (DataW H)), (∀ x ∈ DataW.weightsAll P e ds, x ≤ N) → ∀ d ∈ ds, ∀ x ∈ d.weights P e, x ≤ N
  | [], _, d, hd => by cases hd
  | d0 :: ds, h, d, hd => by
    intro x hx
    rcases List.mem_cons.1 hd with rfl | hd
    · exact h x (by rw [DataW.weightsAll]; exact List.mem_append_left _ hx)
    · exact weights_all ds (fun x hx => h x (by rw [DataW.weightsAll]; exact List.mem_append_right _ hx)) d hd x hx

theorem okd_of_trod {H : Type} {enc : TypeId × Value → H} {P : Program} {W : World} : ∀ (n : Nat) (t : TypeId) (cs : List Value) (x : DataW H × List MemPlace),
    DataW.trod enc P W 0 (fun _ => true) true n t cs = some x → (∀ y ∈ x.1.weights P t, y ≤ reachBytes) → Okd P W n t cs
  | 0, t, cs, x, h, _ => by simp [DataW.trod] at h
  | n + 1, t, cs, x, h, hw => by
    unfold Okd
    cases ht : P.underlying t with
    | none => trivial
    | some d =>
      cases d
      case bool =>
        obtain ⟨b, rfl, _⟩ := DataW.trod_bool ht h
        exact ⟨b, rfl⟩
      case int k =>
        obtain ⟨z, rfl, _, hz⟩ := DataW.trod_int ht h
        exact ⟨z, rfl, hz⟩
      case string =>
        obtain ⟨s, rfl, rfl, _⟩ := DataW.trod_string ht h
        refine ⟨s, rfl, ?_⟩
        have := hw s.data.toList.length (by simp [DataW.weights])
        simpa using this
      case slice e =>
        rcases DataW.trod_slice ht h with ⟨rfl, _⟩ | ⟨a, len, cap, elems, rest, m, hm, rfl, rfl, _, hl, _, hlen, hel, hsp, _⟩
        · exact .inl rfl
        · obtain rfl : n = m := by omega
          obtain ⟨hr, hre⟩ := hsp rfl
          simp only [DataW.weights, ht, List.length_map, List.mem_cons, List.mem_append] at hw
          refine .inr ⟨a, len, cap, rfl, hl, ?_, fun i hi => ?_⟩
          · have := hw _ (.inl rfl)
            rwa [hlen, hr, show len + (cap - len) = cap by omega] at this
          · by_cases hil : i < len
            · have h1 := hel i hil
              rw [List.getElem?_eq_getElem (by omega), Option.bind_eq_some_iff] at h1
              obtain ⟨cs', q1, q2⟩ := h1
              refine ⟨cs', q1, okd_of_trod n e cs' _ q2 fun y hy => ?_⟩
              exact weights_all (elems.map (·.1)) (fun z hz => hw z (.inr (.inl hz))) _ (List.mem_map.2 ⟨_, List.getElem_mem _, rfl⟩) y hy
            · have h1 := hre (i - len) (by omega)
              rw [List.getElem?_eq_getElem (by omega), Option.bind_eq_some_iff, show len + (i - len) = i by omega] at h1
              obtain ⟨cs', q1, q2⟩ := h1
              refine ⟨cs', q1, okd_of_trod n e cs' _ q2 fun y hy => ?_⟩
              exact weights_all (rest.map (·.1)) (fun z hz => hw z (.inr (.inr hz))) _ (List.mem_map.2 ⟨_, List.getElem_mem _, rfl⟩) y hy
      case struct fs =>
        obtain ⟨xs, m, hm, rfl, h1, h2, h3⟩ := DataW.trod_struct ht h
        obtain rfl : n = m := by omega
        simp only [DataW.weights, ht] at hw
        refine ⟨h1, fun i f hf => ?_⟩
        have hi : i < xs.length := by rw [h2]; exact (Array.getElem?_eq_some_iff.1 hf).1
        have q := h3 i f hf
        rw [List.getElem?_eq_getElem hi] at q
        refine okd_of_trod n f.type _ _ q ?_
        exact weights_each (fs.toList.map (·.type)) (xs.map (·.1)) hw i f.type (xs[i].1) (by simp [hf]) (by simp [hi])
      case array k e =>
        obtain ⟨xs, m, hm, rfl, h1, h2, h3⟩ := DataW.trod_array ht h
        obtain rfl : n = m := by omega
        simp only [DataW.weights, ht] at hw
        refine ⟨h1, fun i hi => ?_⟩
        have q := h3 i hi
        rw [List.getElem?_eq_getElem (by omega)] at q
        refine okd_of_trod n e _ _ q ?_
        exact weights_all (xs.map (·.1)) hw (xs[i].1) (List.mem_map.2 ⟨_, List.getElem_mem _, rfl⟩)
      all_goals trivial

def ArgsOk (P : Program) (W : World) (ts : List TypeId) (args : List Value) : Prop :=
  ts.length = args.length ∧ ∀ (i : Nat) (t : TypeId) (v : Value), ts[i]? = some t → args[i]? = some v → ∃ n, Okd P W n t v.cells.toList
theorem argsOk_of {H : Type} {enc : TypeId × Value → H} {P : Program} {W : World} : ∀ {ts : List TypeId} {vs : List Value} {ds : List (DataW H)} {ps : List MemPlace},
    DataW.TrodAll enc P W 0 (fun _ => true) true ts vs ds ps → (∀ y ∈ DataW.weightsEach P ts ds, y ≤ reachBytes) → ArgsOk P W ts vs
  | [], [], [], _, _, _ => ⟨rfl, fun i t v ht _ => by simp at ht⟩
  | [], [], _ :: _, _, h, _ => h.elim
  | [], _ :: _, _, _, h, _ => h.elim
  | _ :: _, [], _, _, h, _ => h.elim
  | _ :: _, _ :: _, [], _, h, _ => h.elim
  | t :: ts, v :: vs, d :: ds, ps, h, hw => by
    obtain ⟨p, q, ⟨fuel, h1⟩, h2, rfl⟩ := h
    have hw1 : ∀ y ∈ d.weights P t, y ≤ reachBytes := fun y hy => hw y (by rw [DataW.weightsEach]; exact List.mem_append_left _ hy)
    obtain ⟨hl, hr⟩ := argsOk_of h2 fun y hy => hw y (by rw [DataW.weightsEach]; exact List.mem_append_right _ hy)
    refine ⟨by simp [hl], fun i t' v' ht hv => ?_⟩
    cases i with
    | zero =>
      simp only [List.getElem?_cons_zero, Option.some.injEq] at ht hv
      subst ht; subst hv
      exact ⟨fuel, okd_of_trod fuel t _ _ h1 hw1⟩
    | succ i => exact hr i t' v' (by simpa using ht) (by simpa using hv)

theorem all_trod {H : Type} {enc : TypeId × Value → H} {P : Program} (hl : laidOutB P = true) {W W' : World} (hb : Below W.heap.size W W') :
    ∀ {ts : List TypeId} {vs : List Value} {ds : List (DataW H)} {ps : List MemPlace}, (ts.all fun t => P.readableRec t && decide (t < P.types.size)) = true → DataW.TrodAll enc P W 0 (fun _ => true) true ts vs ds ps →
      (∀ x ∈ ps, x.block < W.heap.size) → DataW.TrodAll enc P W' 0 (fun b => decide (b < W.heap.size)) true ts vs ds ps
  | [], [], [], _, _, h, _ => h
  | [], [], _ :: _, _, _, h, _ => h.elim
  | [], _ :: _, _, _, _, h, _ => h.elim
  | _ :: _, [], _, _, _, h, _ => h.elim
  | _ :: _, _ :: _, [], _, _, h, _ => h.elim
  | t :: ts, v :: vs, d :: ds, ps, ha, h, hlt => by
    obtain ⟨p, q, h1, h2, rfl⟩ := h
    simp only [List.all_cons, Bool.and_eq_true, decide_eq_true_eq] at ha
    exact ⟨p, q, Below.trod hl ha.1.1 ha.1.2 h1 hb fun x hx => hlt x (List.mem_append_left _ hx),
      all_trod hl hb ha.2 h2 fun x hx => hlt x (List.mem_append_right _ hx), rfl⟩

theorem law_post {H : Type} {enc : TypeId × Value → H} {P : Program} {fn : Func} {s : ChangeSpec} {tb : TypeId} (hl : laidOutB P = true) (hv : s.vars = []) (hpar : (fn.params.toList.all fun t => P.readableRec t && decide (t < P.types.size)) = true)
    (hres : fn.resultTypes = #[tb]) (hb : P.underlying tb = some .bool) {W W' : World} {args : Array Value} {ds gs : List (DataW H)} {before : List MemPlace}
    (hW : DataW.Whole enc P fn.params.toList s.vars false W args.toList ds gs before) (hfn : s.fn H ds = { results := [.lit (.bool true)], args := ds }) (hB : Below W.heap.size W W') :
    s.post enc P fn false true false false W args (.bool true) W' := by
  have hW' := hW
  have hlt := hW.lt
  obtain ⟨p, q, hA, hV, rfl, hfz, hnd⟩ := hW
  rw [hv] at hV
  obtain ⟨rfl, rfl⟩ := trodVars_none hV
  simp only [List.append_nil] at hW' hlt
  refine ⟨ds, [], p, [], p, [], hW', ?_, ?_, ?_, hB.frame _, fun h => by cases h⟩
  · rw [List.append_nil, hfn, hres]
    exact trodAll_mk1 (shut_bool hb true)
  · rw [List.append_nil, hfn]
    exact all_trod hl hB hpar hA hlt
  · rw [List.append_nil, hfn, hv]
    exact rfl

theorem law_lifted {C : Checked} {f : FuncId} {fn : Func} {s : ChangeSpec} {tb : TypeId} {laid : List (String × DataW Unit)} (own : ownKnob C.prog.godebug = none) (noInit : C.prog.inits.idxOf? f = none) (hf : C.prog.funcs[f]? = some fn)
    (hl : laidOutB C.prog = true) (hv : s.vars = []) (hpar : (fn.params.toList.all fun t => C.prog.readableRec t && decide (t < C.prog.types.size)) = true) (hres : fn.resultTypes = #[tb]) (hb : C.prog.underlying tb = some .bool)
    (hfn : ∀ (H : Type) (ds : List (DataW H)), ds.length = fn.params.toList.length → s.fn H ds = { results := [.lit (.bool true)], args := ds })
    (walk : ∀ (W : World) (base : Nat) (args : Array Value), (∀ (j : Nat) t v, fn.params[j]? = some t → args[j]? = some v → Value.okWide C.prog W .any base t v) → ArgsOk C.prog W fn.params.toList args.toList → laidMetH C.prog laid W →
      Calls C.prog f args W (Ret (.bool true) W))
    (os : Os) (started : os.Started) (H : Type) (enc : TypeId × Value → H)
    (witness : ∃ (w : World) (tape : Tape) (i : Input), w.os = os ∧ (w.forCall tape i).Shaped C.prog ∧ i.vars = [] ∧ Input.okWide C.prog (w.forCall tape i) .any w.heap.size f i ∧
      ((s.pre enc C.prog fn [] false (w.forCall tape i).memory i.args ∧ laidMetH C.prog laid (w.forCall tape i).memory) ∧ sizedMet enc C.prog fn (OpenSpec.ofChange s) false (w.forCall tape i).memory i.args) ∧ ({} : Assume).holds C.prog (lone (Frame.enter C.prog f i.args .normal) [] (w.forCall tape i))) :
    ReturnsInHanded {} C os f .any (fun w args => (s.pre enc C.prog fn [] false w args ∧ laidMetH C.prog laid w) ∧ sizedMet enc C.prog fn (OpenSpec.ofChange s) false w args) (s.post enc C.prog fn false true false false) := by
  refine returnsInHanded_of_change_and (C := C) (X := fun w _ => laidMetH C.prog laid w) (fun _ _ _ hh h => h.of_heap hh) own started noInit hf witness ?_
  intro W base args ds gs before hval hW _ hwt hL _
  have hW' := hW
  obtain ⟨p, q, hA, hV, rfl, hfz, hnd⟩ := hW
  have hlen : ∀ {ts : List TypeId} {vs : List Value} {ds : List (DataW H)} {ps : List MemPlace}, DataW.TrodAll enc C.prog W 0 (fun _ => true) true ts vs ds ps → ds.length = ts.length := by
    intro ts
    induction ts with
    | nil => intro vs ds ps h; cases vs <;> cases ds <;> first | rfl | exact h.elim
    | cons t ts ih =>
      intro vs ds ps h
      cases vs with
      | nil => cases ds <;> exact h.elim
      | cons v vs =>
        cases ds with
        | nil => exact h.elim
        | cons d ds => obtain ⟨_, _, _, h2, _⟩ := h; simp [ih h2]
  rw [hv] at hV
  obtain ⟨rfl, rfl⟩ := trodVars_none hV
  have hwt' : ∀ y ∈ DataW.weightsEach C.prog fn.params.toList ds, y ≤ reachBytes := by
    intro y hy
    simp only [List.all_eq_true, decide_eq_true_eq, ChangeSpec.plain, hv] at hwt
    refine hwt y ?_
    simpa [DataSpec.varTypes] using hy
  refine (walk W base args hval (argsOk_of hA hwt') hL).mono fun e W' ⟨he, hB⟩ => ?_
  exact ⟨_, he, law_post hl hv hpar hres hb hW' (hfn H ds (hlen hA)) hB⟩
end Go.Proofs.YtficeebbbkmhcaaGreatDoor
namespace Go.Proofs.YtficeebbbkmhcaaGreatDoor
open Go.Shelf
def lays264_ren : Go.Shelf.Ren := ⟨fun | 264 => 137 | n => n, fun | 53 => 37 | 46 => 192 | n => n, fun | n => n⟩
theorem lays264 : Go.Proofs.Lays.n264 Tryz.prog lays264_ren := {
  mixed := by kernel_rfl
  f264 := Tryz.func137.trans (congrArg some (by kernel_rfl))
  t46 := Tryz.underlying192
  a46 := Tryz.isAgg192
  z46 := Tryz.sizeOf192
  v46 := Tryz.zeroValue192
  t53 := Tryz.underlying37
  a53 := Tryz.isAgg37
  z53 := Tryz.sizeOf37
  v53 := Tryz.zeroValue37 }
open Go.RowKit Go.Lib in
theorem bits_Mul64 (x y : Nat) (hx : x < 18446744073709551616) (hy : y < 18446744073709551616) (w : World) :
    Calls Tryz.prog 137 #[.int .u64 x, .int .u64 y] w fun e w' => e = .returned (.tuple #[.int .u64 ((x * y / 18446744073709551616 : Nat) : Int), .int .u64 ((x * y % 18446744073709551616 : Nat) : Int)]) ∧ w' = w := Any.bits_Mul64 lays264 x y hx hy w
def lays25_ren : Go.Shelf.Ren := ⟨fun | 25 => 108 | n => n, fun | 22 => 37 | n => n, fun | n => n⟩
theorem lays25 : Go.Proofs.Lays7.n25 Tryz.prog lays25_ren := {
  mixed := by kernel_rfl
  f25 := Tryz.func108.trans (congrArg some (by kernel_rfl))
  t22 := Tryz.underlying37
  a22 := Tryz.isAgg37
  z22 := Tryz.sizeOf37
  v22 := Tryz.zeroValue37
  i22 := by kernel_rfl }
def lays26_ren : Go.Shelf.Ren := ⟨fun | 26 => 127 | n => n, fun | 22 => 37 | n => n, fun | n => n⟩
theorem lays26 : Go.Proofs.Lays7.n26 Tryz.prog lays26_ren := {
  mixed := by kernel_rfl
  f26 := Tryz.func127.trans (congrArg some (by kernel_rfl))
  t22 := Tryz.underlying37
  a22 := Tryz.isAgg37
  z22 := Tryz.sizeOf37
  v22 := Tryz.zeroValue37
  i22 := by kernel_rfl }
theorem add64_0 (x y : Int) (hx : 0 ≤ x) (hy : 0 ≤ y) (w : World) : (callFunc 108 #[.int .u64 x, .int .u64 y, .int .u64 0]).run Tryz.prog w =
    .ok (.value (.tuple #[.int .u64 ((x + y) % 18446744073709551616), .int .u64 ((x + y) / 18446744073709551616)])) w := by
  obtain ⟨x, rfl⟩ := Int.eq_ofNat_of_zero_le hx
  obtain ⟨y, rfl⟩ := Int.eq_ofNat_of_zero_le hy
  refine (Any7.bits_Add64 lays25 x y 0 (by omega) w).trans ?_
  congr 5 <;> omega
theorem sub64_0 (x y : Int) (hx : 0 ≤ x) (hy : 0 ≤ y) (hy' : y < 18446744073709551616) (w : World) : (callFunc 127 #[.int .u64 x, .int .u64 y, .int .u64 0]).run Tryz.prog w =
    .ok (.value (.tuple #[.int .u64 ((x - y) % 18446744073709551616), .int .u64 (if x < y then 1 else 0)])) w := by
  obtain ⟨x, rfl⟩ := Int.eq_ofNat_of_zero_le hx
  obtain ⟨y, rfl⟩ := Int.eq_ofNat_of_zero_le hy
  have e1 : (((x + 18446744073709551616 - y - 0) % 18446744073709551616 : Nat) : Int) = ((x : Int) - y) % 18446744073709551616 := by omega
  have e2 : ((if x < y + 0 then 1 else 0 : Nat) : Int) = if (x : Int) < y then 1 else 0 := by split <;> split <;> omega
  rw [← e1, ← e2]
  exact Any7.bits_Sub64 lays26 x y 0 (by omega) w
theorem mul64_i (x y : Int) (hx : 0 ≤ x) (hx' : x < 18446744073709551616) (hy : 0 ≤ y) (hy' : y < 18446744073709551616) (w : World) :
    Calls Tryz.prog 137 #[.int .u64 x, .int .u64 y] w fun e w' => e = .returned (.tuple #[.int .u64 (x * y / 18446744073709551616), .int .u64 (x * y % 18446744073709551616)]) ∧ w = w' := by
  obtain ⟨x, rfl⟩ := Int.eq_ofNat_of_zero_le hx
  obtain ⟨y, rfl⟩ := Int.eq_ofNat_of_zero_le hy
  refine (bits_Mul64 x y (by omega) (by omega) w).mono ?_
  rintro e w' ⟨rfl, rfl⟩
  exact ⟨by simp, rfl⟩
end Go.Proofs.YtficeebbbkmhcaaGreatDoor
namespace Go.Proofs.YtficeebbbkmhcaaGreatDoor
def PP : Nat := 18446744069414584321
instance : NeZero PP := ⟨by decide⟩
abbrev Fp := Fin PP
def fv (a : Fp) : Int := (a.val : Int)
theorem fv_lo (a : Fp) : 0 ≤ fv a := Int.natCast_nonneg _
theorem fv_hi (a : Fp) : fv a < 18446744069414584321 := by
  have h := a.isLt
  unfold fv; unfold PP at h; omega
theorem fv_inj {a b : Fp} (h : fv a = fv b) : a = b := by
  unfold fv at h; exact Fin.ext (by omega)
theorem fv_add (a b : Fp) : fv (a + b) = (fv a + fv b) % 18446744069414584321 := by
  unfold fv; rw [Fin.val_add]; unfold PP; omega
theorem fv_mul (a b : Fp) : fv (a * b) = (fv a * fv b) % 18446744069414584321 := by
  unfold fv; rw [Fin.val_mul]; unfold PP; simp
theorem fv_sub (a b : Fp) : fv (a - b) = (fv a - fv b) % 18446744069414584321 := by
  have h := b.isLt
  unfold fv; rw [Fin.sub_def]; simp only []; unfold PP at *; omega
theorem fv_zero : fv 0 = 0 := rfl
theorem fv_one : fv 1 = 1 := rfl
def fz (z : Int) : Fp := Fin.ofNat PP (z % 18446744069414584321).toNat
theorem fv_fz (z : Int) : fv (fz z) = z % 18446744069414584321 := by
  unfold fv fz; rw [Fin.val_ofNat]; unfold PP; omega

structure E where
  a : Fp
  b : Fp
deriving DecidableEq
theorem E.ext_ {x y : E} (h : x.a = y.a) (h' : x.b = y.b) : x = y := by cases x; cases y; simp_all
instance : Add E := ⟨fun x y => ⟨x.a + y.a, x.b + y.b⟩⟩
instance : Sub E := ⟨fun x y => ⟨x.a - y.a, x.b - y.b⟩⟩
instance : Neg E := ⟨fun x => ⟨-x.a, -x.b⟩⟩
instance : Mul E := ⟨fun x y => ⟨x.a * y.a + 7 * (x.b * y.b), x.a * y.b + x.b * y.a⟩⟩
instance : Zero E := ⟨⟨0, 0⟩⟩
instance : One E := ⟨⟨1, 0⟩⟩
theorem add_a (x y : E) : (x + y).a = x.a + y.a := rfl
theorem add_b (x y : E) : (x + y).b = x.b + y.b := rfl
theorem sub_a (x y : E) : (x - y).a = x.a - y.a := rfl
theorem sub_b (x y : E) : (x - y).b = x.b - y.b := rfl
theorem mul_a (x y : E) : (x * y).a = x.a * y.a + 7 * (x.b * y.b) := rfl
theorem mul_b (x y : E) : (x * y).b = x.a * y.b + x.b * y.a := rfl
theorem one_a : (1 : E).a = 1 := rfl
theorem one_b : (1 : E).b = 0 := rfl
theorem zero_a : (0 : E).a = 0 := rfl
theorem zero_b : (0 : E).b = 0 := rfl
theorem E.mul_assoc (x y z : E) : x * y * z = x * (y * z) := by
  apply E.ext_ <;> simp only [mul_a, mul_b] <;> grind
theorem E.mul_comm (x y : E) : x * y = y * x := by
  apply E.ext_ <;> simp only [mul_a, mul_b] <;> grind

theorem mul_law (m : Int) (_h0 : 0 ≤ m) (_h1 : m < 340282366920938463463374607431768211456) :
    (((m % 18446744073709551616) % 18446744069414584321 - m / 18446744073709551616 / 4294967296) % 18446744069414584321 +
      (m / 18446744073709551616 % 4294967296 * 4294967295) % 18446744069414584321) % 18446744069414584321 = m % 18446744069414584321 := by omega
end Go.Proofs.YtficeebbbkmhcaaGreatDoor
namespace Go.Proofs.YtficeebbbkmhcaaGreatDoor
open Go.RowKit

theorem ret_i {k : IntKind} {a b : Int} (h : a = b) : Ending.returned (.int k a) = .returned (.int k b) := by rw [h]
theorem and_mask (x : Int) (h0 : 0 ≤ x) (h1 : x < 18446744073709551616) : bits .and .u64 x 4294967295 = x % 4294967296 := by
  rw [u64_and x 4294967295 h0 h1 (by omega) (by omega)]
  rw [show (4294967295 : Int).toNat = 2 ^ 32 - 1 from rfl, Nat.and_two_pow_sub_one_eq_mod]
  omega

set_option maxRecDepth 100000 in
set_option maxHeartbeats 400000 in
theorem fRed_lo (x : Int) (h0 : 0 ≤ x) (h1 : x < 18446744069414584321) (w : World) :
    Calls Tryz.prog 138 #[.int .u64 x] w fun e w' => e = .returned (.int .u64 x) ∧ w = w' := by
  go_enter Tryz.func138, Tryz.ntmps138
  go_wp2
  go_ret
  exact ⟨rfl, rfl⟩
set_option maxRecDepth 100000 in
set_option maxHeartbeats 400000 in
theorem fRed_hi (x : Int) (h0 : 18446744069414584321 ≤ x) (h1 : x < 18446744073709551616) (w : World) :
    Calls Tryz.prog 138 #[.int .u64 x] w fun e w' => e = .returned (.int .u64 (x - 18446744069414584321)) ∧ w = w' := by
  go_enter Tryz.func138, Tryz.ntmps138
  go_wp2
  go_ret
  exact ⟨rfl, rfl⟩
theorem fRed (x : Int) (h0 : 0 ≤ x) (h1 : x < 18446744073709551616) (w : World) :
    Calls Tryz.prog 138 #[.int .u64 x] w fun e w' => e = .returned (.int .u64 (x % 18446744069414584321)) ∧ w = w' := by
  by_cases h : x < 18446744069414584321
  · refine (fRed_lo x h0 h w).mono ?_
    rintro e w' ⟨rfl, rfl⟩
    exact ⟨by rw [show x % 18446744069414584321 = x by omega], rfl⟩
  · refine (fRed_hi x (by omega) h1 w).mono ?_
    rintro e w' ⟨rfl, rfl⟩
    exact ⟨by rw [show x % 18446744069414584321 = x - 18446744069414584321 by omega], rfl⟩
set_option maxRecDepth 100000 in
set_option maxHeartbeats 400000 in
theorem fAdd_i (x y : Int) (hx : 0 ≤ x) (hx' : x < 18446744069414584321) (hy : 0 ≤ y) (hy' : y < 18446744069414584321) (w : World) :
    Calls Tryz.prog 70 #[.int .u64 x, .int .u64 y] w fun e w' => e = .returned (.int .u64 ((x + y) % 18446744069414584321)) ∧ w = w' := by
  go_enter Tryz.func70, Tryz.ntmps70
  go_wp2_with (simp only [add64_0 x y hx hy])
  all_goals
    go_ret
    refine ⟨ret_i ?_, rfl⟩
    try simp only [IntKind.wrap_u64]
    omega
set_option maxRecDepth 100000 in
set_option maxHeartbeats 400000 in
theorem fSub_i (x y : Int) (hx : 0 ≤ x) (hx' : x < 18446744069414584321) (hy : 0 ≤ y) (hy' : y < 18446744069414584321) (w : World) :
    Calls Tryz.prog 111 #[.int .u64 x, .int .u64 y] w fun e w' => e = .returned (.int .u64 ((x - y) % 18446744069414584321)) ∧ w = w' := by
  have hy2 : y < 18446744073709551616 := by omega
  by_cases h : x < y
  · have hs := sub64_0 x y hx hy hy2
    rw [if_pos h] at hs
    go_enter Tryz.func111, Tryz.ntmps111
    go_wp2_with (simp only [hs])
    go_ret
    refine ⟨ret_i ?_, rfl⟩
    try simp only [IntKind.wrap_u64]
    omega
  · have hs := sub64_0 x y hx hy hy2
    rw [if_neg h] at hs
    go_enter Tryz.func111, Tryz.ntmps111
    go_wp2_with (simp only [hs])
    go_ret
    refine ⟨ret_i ?_, rfl⟩
    try simp only [IntKind.wrap_u64]
    omega
theorem mul_bd (x y : Int) (hx : 0 ≤ x) (hx' : x < 18446744069414584321) (hy : 0 ≤ y) (hy' : y < 18446744069414584321) : 0 ≤ x * y ∧ x * y < 340282366920938463463374607431768211456 := by
  refine ⟨Int.mul_nonneg hx hy, ?_⟩
  have h1 : x * y ≤ 18446744069414584320 * y := Int.mul_le_mul_of_nonneg_right (by omega) hy
  omega
set_option maxRecDepth 100000 in
set_option maxHeartbeats 400000 in
theorem fMul_m (x y m : Int) (hm : Hid (m = x * y)) (m0 : 0 ≤ m) (m1 : m < 340282366920938463463374607431768211456) (hx : 0 ≤ x) (hx' : x < 18446744073709551616) (hy : 0 ≤ y) (hy' : y < 18446744069414584321) (w : World) :
    Calls Tryz.prog 126 #[.int .u64 x, .int .u64 y] w fun e w' => e = .returned (.int .u64 (m % 18446744069414584321)) ∧ w = w' := by
  have c1 : ∀ w, Calls Tryz.prog 137 #[.int .u64 x, .int .u64 y] w fun e w' => e = .returned (.tuple #[.int .u64 (m / 18446744073709551616), .int .u64 (m % 18446744073709551616)]) ∧ w = w' := fun w => by
    rw [hm.out]
    exact mul64_i x y hx hx' hy (by omega) w
  have C1 := Lib.hid c1
  clear c1
  have a1 : 0 ≤ m / 18446744073709551616 := by omega
  have a2 : m / 18446744073709551616 < 18446744073709551616 := by omega
  have a3 : 0 ≤ m % 18446744073709551616 := by omega
  have a4 : m % 18446744073709551616 < 18446744073709551616 := by omega
  have a5 : 0 ≤ m % 18446744073709551616 % 18446744069414584321 := by omega
  have a6 : m % 18446744073709551616 % 18446744069414584321 < 18446744069414584321 := by omega
  have a7 : 0 ≤ m / 18446744073709551616 / 4294967296 := by omega
  have a8 : m / 18446744073709551616 / 4294967296 < 18446744069414584321 := by omega
  have b1 : 0 ≤ m / 18446744073709551616 % 4294967296 * 4294967295 := by omega
  have b2 : m / 18446744073709551616 % 4294967296 * 4294967295 < 18446744073709551616 := by omega
  have b3 : 0 ≤ (m % 18446744073709551616 - m / 18446744073709551616 / 4294967296) % 18446744069414584321 := by omega
  have b4 : (m % 18446744073709551616 - m / 18446744073709551616 / 4294967296) % 18446744069414584321 < 18446744069414584321 := by omega
  have b5 : 0 ≤ m / 18446744073709551616 % 4294967296 * 4294967295 % 18446744069414584321 := by omega
  have b6 : m / 18446744073709551616 % 4294967296 * 4294967295 % 18446744069414584321 < 18446744069414584321 := by omega
  have am := and_mask (m / 18446744073709551616) a1 a2
  have fin := Lib.hid (mul_law m m0 m1)
  go_enter Tryz.func126, Tryz.ntmps126
  go_wp2_with fail
  refine (C1.out _).mono ?_
  rintro e w' ⟨rfl, rfl⟩
  go_wp2_with fail
  refine (fRed _ a3 a4 _).mono ?_
  rintro e w' ⟨rfl, rfl⟩
  go_wp2_with fail
  refine (fSub_i _ _ a5 a6 a7 a8 _).mono ?_
  rintro e w' ⟨rfl, rfl⟩
  go_wp2_with fail
  refine (fRed _ b1 b2 _).mono ?_
  rintro e w' ⟨rfl, rfl⟩
  go_wp2_with fail
  refine (fAdd_i _ _ b3 b4 b5 b6 _).mono ?_
  rintro e w' ⟨rfl, rfl⟩
  go_wp2_with fail
  go_ret
  refine ⟨ret_i ?_, rfl⟩
  clear C1 fin am
  omega
theorem fAdd (a b : Fp) (w : World) :
    Calls Tryz.prog 70 #[.int .u64 (fv a), .int .u64 (fv b)] w fun e w' => e = .returned (.int .u64 (fv (a + b))) ∧ w = w' := by
  rw [fv_add]; exact fAdd_i _ _ (fv_lo a) (fv_hi a) (fv_lo b) (fv_hi b) w
theorem fSub (a b : Fp) (w : World) :
    Calls Tryz.prog 111 #[.int .u64 (fv a), .int .u64 (fv b)] w fun e w' => e = .returned (.int .u64 (fv (a - b))) ∧ w = w' := by
  rw [fv_sub]; exact fSub_i _ _ (fv_lo a) (fv_hi a) (fv_lo b) (fv_hi b) w
theorem fMul (a b : Fp) (w : World) :
    Calls Tryz.prog 126 #[.int .u64 (fv a), .int .u64 (fv b)] w fun e w' => e = .returned (.int .u64 (fv (a * b))) ∧ w = w' := by
  rw [fv_mul]
  have h := mul_bd (fv a) (fv b) (fv_lo a) (fv_hi a) (fv_lo b) (fv_hi b)
  exact fMul_m _ _ _ (Lib.hid rfl) h.1 h.2 (fv_lo a) (by have := fv_hi a; omega) (fv_lo b) (fv_hi b) w

/-! ### The reference -/
set_option maxRecDepth 100000 in
set_option maxHeartbeats 400000 in
theorem rRed (x : Int) (h0 : 0 ≤ x) (h1 : x < 18446744073709551616) (w : World) :
    Calls Tryz.prog 110 #[.int .u64 x] w fun e w' => e = .returned (.int .u64 (x % 18446744069414584321)) ∧ w = w' := by
  go_enter Tryz.func110, Tryz.ntmps110
  go_wp2
  go_ret
  exact ⟨ret_i (by first | omega | (simp only [IntKind.wrap_u64]; omega)), rfl⟩
set_option maxRecDepth 100000 in
set_option maxHeartbeats 400000 in
theorem rAdd_i (x y : Int) (hx : 0 ≤ x) (hx' : x < 18446744069414584321) (hy : 0 ≤ y) (hy' : y < 18446744069414584321) (w : World) :
    Calls Tryz.prog 42 #[.int .u64 x, .int .u64 y] w fun e w' => e = .returned (.int .u64 ((x + y) % 18446744069414584321)) ∧ w = w' := by
  go_enter Tryz.func42, Tryz.ntmps42
  go_wp2
  all_goals
    go_ret
    exact ⟨ret_i (by first | omega | (simp only [IntKind.wrap_u64]; omega)), rfl⟩
theorem rAdd (a b : Fp) (w : World) :
    Calls Tryz.prog 42 #[.int .u64 (fv a), .int .u64 (fv b)] w fun e w' => e = .returned (.int .u64 (fv (a + b))) ∧ w = w' := by
  rw [fv_add]; exact rAdd_i _ _ (fv_lo a) (fv_hi a) (fv_lo b) (fv_hi b) w
set_option maxRecDepth 100000 in
set_option maxHeartbeats 400000 in
theorem rFromInt (x : Int) (hx : -9223372036854775808 ≤ x) (hx' : x ≤ 9223372036854775807) (w : World) :
    Calls Tryz.prog 37 #[.int .i64 x] w fun e w' => e = .returned (.int .u64 (fv (fz x))) ∧ w = w' := by
  rw [fv_fz]
  go_enter Tryz.func37, Tryz.ntmps37
  go_wp2
  all_goals
    go_ret
    exact ⟨ret_i (by first | omega | (simp only [IntKind.wrap_u64]; omega)), rfl⟩
set_option maxRecDepth 100000 in
set_option maxHeartbeats 400000 in
theorem rShift_i (x : Int) (hx : 0 ≤ x) (hx' : x < 18446744069414584321) (w : World) :
    Calls Tryz.prog 80 #[.int .u64 x] w fun e w' => e = .returned (.int .u64 ((x * 4294967296) % 18446744069414584321)) ∧ w = w' := by
  have b0 : 0 ≤ x % 4294967296 * 4294967296 := by omega
  have b1 : x % 4294967296 * 4294967296 < 18446744073709551616 := by omega
  have b2 : 0 ≤ x / 4294967296 * 4294967295 := by omega
  have b3 : x / 4294967296 * 4294967295 < 18446744073709551616 := by omega
  have b4 : 0 ≤ x % 4294967296 * 4294967296 % 18446744069414584321 := by omega
  have b5 : x % 4294967296 * 4294967296 % 18446744069414584321 < 18446744069414584321 := by omega
  have b6 : 0 ≤ x / 4294967296 * 4294967295 % 18446744069414584321 := by omega
  have b7 : x / 4294967296 * 4294967295 % 18446744069414584321 < 18446744069414584321 := by omega
  go_enter Tryz.func80, Tryz.ntmps80
  go_wp2_with fail
  refine (rRed _ b0 b1 _).mono ?_
  rintro e w' ⟨rfl, rfl⟩
  go_wp2_with fail
  refine (rRed _ b2 b3 _).mono ?_
  rintro e w' ⟨rfl, rfl⟩
  go_wp2_with fail
  refine (rAdd_i _ _ b4 b5 b6 b7 _).mono ?_
  rintro e w' ⟨rfl, rfl⟩
  go_wp2_with fail
  go_ret
  exact ⟨ret_i (by first | omega | (simp only [IntKind.wrap_u64]; omega)), rfl⟩
theorem half_bd (u y : Int) (hu : 0 ≤ u) (hu' : u ≤ 4294967295) (hy : 0 ≤ y) (hy' : y ≤ 4294967295) : 0 ≤ u * y ∧ u * y < 18446744073709551616 := by
  refine ⟨Int.mul_nonneg hu hy, ?_⟩
  have h1 : u * y ≤ 4294967295 * y := Int.mul_le_mul_of_nonneg_right hu' hy
  omega
set_option maxRecDepth 100000 in
set_option maxHeartbeats 400000 in
theorem rHalf_m (x y s t : Int) (hs : Hid (x % 4294967296 * y = s)) (ht : Hid (x / 4294967296 * y = t)) (s0 : 0 ≤ s) (s1 : s < 18446744073709551616) (t0 : 0 ≤ t) (t1 : t < 18446744073709551616) (hx : 0 ≤ x) (hx' : x < 18446744069414584321) (_hy : 0 ≤ y) (_hy' : y ≤ 4294967295) (w : World) :
    Calls Tryz.prog 79 #[.int .u64 x, .int .u64 y] w fun e w' => e = .returned (.int .u64 ((s + 4294967296 * t) % 18446744069414584321)) ∧ w = w' := by
  have u1 : IntKind.u64.wrap (x % 4294967296 * y) = s := by rw [hs.out]; exact IntWalk.u64_in _ (by omega)
  have u2 : IntKind.u64.wrap (x / 4294967296 * y) = t := by rw [ht.out]; exact IntWalk.u64_in _ (by omega)
  have b4 : 0 ≤ s % 18446744069414584321 := by omega
  have b5 : s % 18446744069414584321 < 18446744069414584321 := by omega
  have b6 : 0 ≤ t % 18446744069414584321 := by omega
  have b7 : t % 18446744069414584321 < 18446744069414584321 := by omega
  have b8 : 0 ≤ t % 18446744069414584321 * 4294967296 % 18446744069414584321 := by omega
  have b9 : t % 18446744069414584321 * 4294967296 % 18446744069414584321 < 18446744069414584321 := by omega
  go_enter Tryz.func79, Tryz.ntmps79
  go_wp2_with fail
  refine (rRed s s0 s1 _).mono ?_
  rintro e w' ⟨rfl, rfl⟩
  go_wp2_with fail
  refine (rRed t t0 t1 _).mono ?_
  rintro e w' ⟨rfl, rfl⟩
  go_wp2_with fail
  refine (rShift_i _ b6 b7 _).mono ?_
  rintro e w' ⟨rfl, rfl⟩
  go_wp2_with fail
  refine (rAdd_i _ _ b4 b5 b8 b9 _).mono ?_
  rintro e w' ⟨rfl, rfl⟩
  go_wp2_with fail
  go_ret
  refine ⟨ret_i ?_, rfl⟩
  clear u1 u2 hs ht
  omega
theorem rHalf_i (x y : Int) (hx : 0 ≤ x) (hx' : x < 18446744069414584321) (hy : 0 ≤ y) (hy' : y ≤ 4294967295) (w : World) :
    Calls Tryz.prog 79 #[.int .u64 x, .int .u64 y] w fun e w' => e = .returned (.int .u64 ((x * y) % 18446744069414584321)) ∧ w = w' := by
  have h1 := half_bd (x % 4294967296) y (by omega) (by omega) hy hy'
  have h2 := half_bd (x / 4294967296) y (by omega) (by omega) hy hy'
  have e : x * y = x % 4294967296 * y + 4294967296 * (x / 4294967296 * y) := by
    have : x = x % 4294967296 + 4294967296 * (x / 4294967296) := by omega
    calc x * y = (x % 4294967296 + 4294967296 * (x / 4294967296)) * y := by rw [← this]
      _ = _ := by rw [Int.add_mul, Int.mul_assoc]
  rw [e]
  exact rHalf_m x y _ _ (Lib.hid rfl) (Lib.hid rfl) h1.1 h1.2 h2.1 h2.2 hx hx' hy hy' w
set_option maxRecDepth 100000 in
set_option maxHeartbeats 400000 in
theorem rMul_m (x y s t : Int) (hs : Hid (x * (y % 4294967296) = s)) (ht : Hid (x * (y / 4294967296) = t)) (hx : 0 ≤ x) (hx' : x < 18446744069414584321) (hy : 0 ≤ y) (hy' : y < 18446744069414584321) (w : World) :
    Calls Tryz.prog 43 #[.int .u64 x, .int .u64 y] w fun e w' => e = .returned (.int .u64 ((s + 4294967296 * t) % 18446744069414584321)) ∧ w = w' := by
  have c1 := rHalf_i x (y % 4294967296) hx hx' (by omega) (by omega)
  have c2 := rHalf_i x (y / 4294967296) hx hx' (by omega) (by omega)
  rw [hs.out] at c1
  rw [ht.out] at c2
  have C1 := Lib.hid c1
  have C2 := Lib.hid c2
  clear c1 c2
  have b4 : 0 ≤ s % 18446744069414584321 := by omega
  have b5 : s % 18446744069414584321 < 18446744069414584321 := by omega
  have b6 : 0 ≤ t % 18446744069414584321 := by omega
  have b7 : t % 18446744069414584321 < 18446744069414584321 := by omega
  have b8 : 0 ≤ t % 18446744069414584321 * 4294967296 % 18446744069414584321 := by omega
  have b9 : t % 18446744069414584321 * 4294967296 % 18446744069414584321 < 18446744069414584321 := by omega
  go_enter Tryz.func43, Tryz.ntmps43
  go_wp2_with fail
  refine (C1.out _).mono ?_
  rintro e w' ⟨rfl, rfl⟩
  go_wp2_with fail
  refine (C2.out _).mono ?_
  rintro e w' ⟨rfl, rfl⟩
  go_wp2_with fail
  refine (rShift_i _ b6 b7 _).mono ?_
  rintro e w' ⟨rfl, rfl⟩
  go_wp2_with fail
  refine (rAdd_i _ _ b4 b5 b8 b9 _).mono ?_
  rintro e w' ⟨rfl, rfl⟩
  go_wp2_with fail
  go_ret
  refine ⟨ret_i ?_, rfl⟩
  clear C1 C2 hs ht
  omega
theorem rMul (a b : Fp) (w : World) :
    Calls Tryz.prog 43 #[.int .u64 (fv a), .int .u64 (fv b)] w fun e w' => e = .returned (.int .u64 (fv (a * b))) ∧ w = w' := by
  rw [fv_mul]
  have e : fv a * fv b = fv a * (fv b % 4294967296) + 4294967296 * (fv a * (fv b / 4294967296)) := by
    have : fv b = fv b % 4294967296 + 4294967296 * (fv b / 4294967296) := by omega
    calc fv a * fv b = fv a * (fv b % 4294967296 + 4294967296 * (fv b / 4294967296)) := by rw [← this]
      _ = _ := by rw [Int.mul_add, Int.mul_left_comm]
  rw [e]
  exact rMul_m _ _ _ _ (Lib.hid rfl) (Lib.hid rfl) (fv_lo a) (fv_hi a) (fv_lo b) (fv_hi b) w
end Go.Proofs.YtficeebbbkmhcaaGreatDoor
namespace Go.Proofs.YtficeebbbkmhcaaGreatDoor

theorem f_mul_zero (a : Fp) : a * 0 = 0 := fv_inj (by rw [fv_mul, fv_zero]; simp)
theorem f_zero_mul (a : Fp) : 0 * a = 0 := fv_inj (by rw [fv_mul, fv_zero]; simp)
theorem f_zero_add_zero : (0 : Fp) + 0 = 0 := rfl
theorem E.add_comm (x y : E) : x + y = y + x := by apply E.ext_ <;> simp only [add_a, add_b] <;> grind
theorem E.add_assoc (x y z : E) : x + y + z = x + (y + z) := by apply E.ext_ <;> simp only [add_a, add_b] <;> grind
theorem E.add_zero (x : E) : x + 0 = x := by apply E.ext_ <;> simp only [add_a, add_b, zero_a, zero_b] <;> grind
theorem E.zero_add (x : E) : 0 + x = x := by apply E.ext_ <;> simp only [add_a, add_b, zero_a, zero_b] <;> grind
theorem E.mul_one (x : E) : x * 1 = x := by apply E.ext_ <;> simp only [mul_a, mul_b, one_a, one_b] <;> grind
theorem E.one_mul (x : E) : 1 * x = x := by apply E.ext_ <;> simp only [mul_a, mul_b, one_a, one_b] <;> grind
theorem E.mul_zero (x : E) : x * 0 = 0 := by apply E.ext_ <;> simp only [mul_a, mul_b, zero_a, zero_b, f_mul_zero, f_zero_add_zero]
theorem E.zero_mul (x : E) : 0 * x = 0 := by apply E.ext_ <;> simp only [mul_a, mul_b, zero_a, zero_b, f_mul_zero, f_zero_mul, f_zero_add_zero]
theorem E.mul_add (x y z : E) : x * (y + z) = x * y + x * z := by apply E.ext_ <;> simp only [mul_a, mul_b, add_a, add_b] <;> grind
theorem E.add_mul (x y z : E) : (x + y) * z = x * z + y * z := by apply E.ext_ <;> simp only [mul_a, mul_b, add_a, add_b] <;> grind
theorem E.sub_self (x : E) : x - x = 0 := by apply E.ext_ <;> simp only [sub_a, sub_b, zero_a, zero_b] <;> grind
theorem E.sub_zero (x : E) : x - 0 = x := by apply E.ext_ <;> simp only [sub_a, sub_b, zero_a, zero_b] <;> grind
theorem E.mul_sub (x y z : E) : x * (y - z) = x * y - x * z := by apply E.ext_ <;> simp only [mul_a, mul_b, sub_a, sub_b] <;> grind
instance : Std.Associative (α := E) (· + ·) := ⟨E.add_assoc⟩
instance : Std.Commutative (α := E) (· + ·) := ⟨E.add_comm⟩
instance : Std.Associative (α := E) (· * ·) := ⟨E.mul_assoc⟩
instance : Std.Commutative (α := E) (· * ·) := ⟨E.mul_comm⟩

def eb (a : Fp) : E := ⟨a, 0⟩
theorem mul_eb (x : E) (c : Fp) : x * eb c = ⟨x.a * c, x.b * c⟩ := by
  apply E.ext_ <;> simp only [mul_a, mul_b, eb] <;> grind
theorem eb_add (a b : Fp) : eb (a + b) = eb a + eb b := by apply E.ext_ <;> simp only [add_a, add_b, eb, f_zero_add_zero]

end Go.Proofs.YtficeebbbkmhcaaGreatDoor
namespace Go.Proofs.YtficeebbbkmhcaaGreatDoor
theorem en_attestor_ext_Add : ∀ args w, (callFunc 34 args).run Tryz.prog w = .ok (.enter 34 args) w := enters_of Tryz.func34 (by kernel_rfl) rfl
theorem en_attestor_ext_Mul : ∀ args w, (callFunc 71 args).run Tryz.prog w = .ok (.enter 71 args) w := enters_of Tryz.func71 (by kernel_rfl) rfl
theorem en_attestor_ext_Sub : ∀ args w, (callFunc 74 args).run Tryz.prog w = .ok (.enter 74 args) w := enters_of Tryz.func74 (by kernel_rfl) rfl
theorem en_attestor_attestorref01_Reduce : ∀ args w, (callFunc 110 args).run Tryz.prog w = .ok (.enter 110 args) w := enters_of Tryz.func110 (by kernel_rfl) rfl
theorem en_attestor_attestorref01_Add : ∀ args w, (callFunc 42 args).run Tryz.prog w = .ok (.enter 42 args) w := enters_of Tryz.func42 (by kernel_rfl) rfl
theorem en_attestor_mle_Eval : ∀ args w, (callFunc 16 args).run Tryz.prog w = .ok (.enter 16 args) w := enters_of Tryz.func16 (by kernel_rfl) rfl
theorem en_attestor_attestorref02_FromInt : ∀ args w, (callFunc 11 args).run Tryz.prog w = .ok (.enter 11 args) w := enters_of Tryz.func11 (by kernel_rfl) rfl
theorem en_attestor_attestorref02_Mul : ∀ args w, (callFunc 15 args).run Tryz.prog w = .ok (.enter 15 args) w := enters_of Tryz.func15 (by kernel_rfl) rfl
theorem en_attestor_ext_componentwise : ∀ args w, (callFunc 69 args).run Tryz.prog w = .ok (.enter 69 args) w := enters_of Tryz.func69 (by kernel_rfl) rfl
theorem en_attestor_field_Add : ∀ args w, (callFunc 70 args).run Tryz.prog w = .ok (.enter 70 args) w := enters_of Tryz.func70 (by kernel_rfl) rfl
theorem en_attestor_field_Sub : ∀ args w, (callFunc 111 args).run Tryz.prog w = .ok (.enter 111 args) w := enters_of Tryz.func111 (by kernel_rfl) rfl
theorem en_slices_Clone___attestor_api_Ext_attestor_api_Ext_ : ∀ args w, (callFunc 44 args).run Tryz.prog w = .ok (.enter 44 args) w := enters_of Tryz.func44 (by kernel_rfl) rfl
theorem en_attestor_attestorref01_Mul : ∀ args w, (callFunc 43 args).run Tryz.prog w = .ok (.enter 43 args) w := enters_of Tryz.func43 (by kernel_rfl) rfl
theorem en_attestor_ext_componentwise_1 : ∀ args w, (callFunc 107 args).run Tryz.prog w = .ok (.enter 107 args) w := enters_of Tryz.func107 (by kernel_rfl) rfl
theorem en_attestor_field_Mul : ∀ args w, (callFunc 126 args).run Tryz.prog w = .ok (.enter 126 args) w := enters_of Tryz.func126 (by kernel_rfl) rfl
theorem en_attestor_mle_blend : ∀ args w, (callFunc 81 args).run Tryz.prog w = .ok (.enter 81 args) w := enters_of Tryz.func81 (by kernel_rfl) rfl
theorem en_attestor_mle_Bind : ∀ args w, (callFunc 76 args).run Tryz.prog w = .ok (.enter 76 args) w := enters_of Tryz.func76 (by kernel_rfl) rfl
theorem en_attestor_field_Neg : ∀ args w, (callFunc 151 args).run Tryz.prog w = .ok (.enter 151 args) w := enters_of Tryz.func151 (by kernel_rfl) rfl
theorem en_attestor_sumcheck_Total : ∀ args w, (callFunc 10 args).run Tryz.prog w = .ok (.enter 10 args) w := enters_of Tryz.func10 (by kernel_rfl) rfl
theorem en_attestor_sumcheck_Final : ∀ args w, (callFunc 75 args).run Tryz.prog w = .ok (.enter 75 args) w := enters_of Tryz.func75 (by kernel_rfl) rfl
theorem en_attestor_sumcheck_evaluate : ∀ args w, (callFunc 35 args).run Tryz.prog w = .ok (.enter 35 args) w := enters_of Tryz.func35 (by kernel_rfl) rfl
theorem en_attestor_sumcheck_Total_1 : ∀ args w, (callFunc 36 args).run Tryz.prog w = .ok (.enter 36 args) w := enters_of Tryz.func36 (by kernel_rfl) rfl
theorem en_attestor_sumcheck_Final_1 : ∀ args w, (callFunc 112 args).run Tryz.prog w = .ok (.enter 112 args) w := enters_of Tryz.func112 (by kernel_rfl) rfl
theorem en_attestor_poly_node : ∀ args w, (callFunc 113 args).run Tryz.prog w = .ok (.enter 113 args) w := enters_of Tryz.func113 (by kernel_rfl) rfl
end Go.Proofs.YtficeebbbkmhcaaGreatDoor
