/-
  Slices of slices as the reading of the arguments gives them.
  What the package variables of SHA-256 hold, read from the laid variables of the statement.
-/
import Derived.Test.YtkgglhakimkkhaaGreatDoorWt2
import Derived.Test.YtkgglhakimkkhaaGreatDoorRq6
import Derived.Test.YtkgglhakimkkhaaGreatDoorZv
import Derived.Test.YtkgglhakimkkhaaGreatDoorCut
namespace Go.Proofs.YtkgglhakimkkhaaGreatDoor
open Go.ChangeShapes Go.WideShapes Go.RowKit

def fst1 {α : Type} (x : Value × α) : List Value := [x.1]
theorem fst1_flat {α : Type} : ∀ xs : List (Value × α), xs.flatMap fst1 = xs.map (·.1)
  | [] => rfl
  | x :: xs => by rw [List.flatMap_cons, fst1_flat xs]; rfl
theorem okd_rtabs {W : World} {n : Nat} {cs : List Value} (h : Okd Tryz.prog W n 31 cs) : ∃ v, cs = [v] ∧ ∃ ts : List (List Raw), RTabS 0 W.heap.size W v ts := by
  obtain ⟨v, hv, xs, h1, h2⟩ := okd_slice (α := Value × List Raw) fst1 (fun x => RawS 0 W.heap.size W x.1 x.2) (by decide) (fun _ => rfl) Tryz.underlying31 (by kernel_rfl) (Nat.le_of_ble_eq_true (by kernel_rfl)) (fun n cs h => by
    obtain ⟨v, hv, ts, ht⟩ := okd_raws h
    exact ⟨(v, ts), ht, hv⟩) h
  rw [fst1_flat] at h1
  refine ⟨v, hv, xs.map (·.2), xs.map (·.1), by simp, by rw [List.length_map]; exact h1, fun k u t hu ht => ?_⟩
  rw [List.getElem?_map] at hu ht
  cases hx : xs[k]? with
  | none => rw [hx] at hu; cases hu
  | some x =>
    rw [hx] at hu ht
    simp only [Option.map_some, Option.some.injEq] at hu ht
    subst hu; subst ht
    exact h2 x (List.mem_of_getElem? hx)
end Go.Proofs.YtkgglhakimkkhaaGreatDoor
namespace Go.Proofs.YtkgglhakimkkhaaGreatDoor
open Go.RowKit

theorem u32_laid {W : World} {nm : String} {g : Nat} {t : TypeId} {cs : Array Value} {fuel n : Nat} {d : DataW Unit} {p : List MemPlace} (zs : List Int) (hg : Tryz.prog.globalNamed nm = some g) (ht : Tryz.prog.underlying t = some (.array n 116)) (hv : W.var? Tryz.prog nm = some cs)
    (hd : DataW.trod (fun _ => ()) Tryz.prog W 0 (fun _ => true) false fuel t cs.toList = some (d, p)) (hz : d = .agg (zs.map fun z => .lit (.int .u32 z))) (hn : zs.length = n) : W.rangeAt g 0 (zs.map fun z => Value.int .u32 z) := by
  obtain ⟨xs, m, _, ex, _, hl, hel⟩ := DataW.trod_array ht hd
  have c5 : Tryz.prog.cellsOf 116 = 1 := by kernel_rfl
  intro r v hr
  have hr' : r < n := by
    rw [← hn]
    have := (List.getElem?_eq_some_iff.1 hr).1
    rwa [List.length_map] at this
  have hE := hel r hr'
  rw [c5, Nat.mul_one, List.getElem?_eq_getElem (by omega)] at hE
  obtain ⟨z, e1, e2, _⟩ := DataW.trod_int Tryz.underlying116 hE
  have e3 : (xs.map (·.1)) = zs.map fun n => .lit (.int .u32 n) := (DataW.agg.inj ((Prod.mk.inj ex).1.symm.trans hz))
  have e4 : (xs.map (·.1))[r]? = (zs.map fun n => (DataW.lit (.int .u32 n) : DataW Unit))[r]? := by rw [e3]
  rw [List.getElem?_map, List.getElem?_map, List.getElem?_eq_getElem (by omega : r < xs.length), List.getElem?_eq_getElem (by omega : r < zs.length), e2] at e4
  rw [List.getElem?_map, List.getElem?_eq_getElem (by omega : r < zs.length)] at hr
  simp only [Option.map_some, Option.some.injEq, DataW.lit.injEq, Lit.int.injEq, true_and] at e4 hr
  rw [← e4] at hr
  rw [Nat.zero_add, World.var?_cell hg hv r, ← hr]
  have : cs.toList[r]? = some (.int .u32 z) := by
    have h0 : ((cs.toList.drop r).take 1)[0]? = some (.int .u32 z) := by rw [e1]; rfl
    simpa using h0
  simpa using this
theorem gIni : Tryz.prog.globalNamed "attestor/sha256.initial" = some 1 := by kernel_rfl
theorem tIni : (Tryz.prog.globals[1]?).map (·.type) = some 117 := by kernel_rfl
theorem gCon : Tryz.prog.globalNamed "attestor/sha256.constants" = some 2 := by kernel_rfl
theorem tCon : (Tryz.prog.globals[2]?).map (·.type) = some 137 := by kernel_rfl
theorem ini_zs : (init8.cells) = ([1779033703, 3144134277, 1013904242, 2773480762, 1359893119, 2600822924, 528734635, 1541459225] : List Int).map fun z => Value.int .u32 z := by kernel_rfl
def conZ : List Int := kTabB.map fun x : B32 => bv x
theorem con_zs : u32c kTabB = conZ.map fun z => Value.int .u32 z := by unfold u32c conZ; rw [List.map_map]; rfl
theorem con_laid : (Rows.laid_attestor_sha256_constants : DataW Unit) = .agg (conZ.map fun z => .lit (.int .u32 z)) := by kernel_rfl
set_option maxRecDepth 100000 in
theorem laid_of3 {W : World} (h : laidMetH Tryz.prog [("attestor/mle.one", Rows.laid_attestor_mle_one), ("attestor/sha256.constants", Rows.laid_attestor_sha256_constants), ("attestor/sha256.initial", Rows.laid_attestor_sha256_initial)] W) : Laid W ∧ Lsh W := by
  have h9 := h
  rw [MakeChecks.laidMetH_plain _ _ _ (by kernel_rfl)] at h
  obtain ⟨ps, ⟨g0, t0, cs0, f0, p0, q0, hg0, ht0, hv0, hd0, ⟨g1, t1, cs1, f1, p1, q1, hg1, ht1, hv1, hd1, ⟨g2, t2, cs2, f2, p2, q2, hg2, ht2, hv2, hd2, _, _⟩, _⟩, _⟩, _, _⟩ := h
  obtain rfl := Option.some.inj (gCon.symm.trans hg1)
  obtain rfl := Option.some.inj (tCon.symm.trans ht1)
  obtain rfl := Option.some.inj (gIni.symm.trans hg2)
  obtain rfl := Option.some.inj (tIni.symm.trans ht2)
  have r2 := u32_laid conZ gCon Tryz.underlying137 hv1 hd1 con_laid (by kernel_rfl)
  have r1 := u32_laid [1779033703, 3144134277, 1013904242, 2773480762, 1359893119, 2600822924, 528734635, 1541459225] gIni Tryz.underlying117 hv2 hd2 rfl rfl
  rw [← con_zs] at r2
  rw [← ini_zs] at r1
  refine ⟨laid_of1 hg0 ht0 hv0 hd0, r1, r2, ?_⟩
  have q1 := r2 0 _ rfl
  rcases Nat.lt_or_ge 2 W.heap.size with h | h
  · exact h
  · simp only [World.cell?] at q1; rw [Array.getElem?_eq_none h] at q1; cases q1
end Go.Proofs.YtkgglhakimkkhaaGreatDoor
