/-
  MadeRounds of the reference's sums, by contract.
-/
import Derived.Test.YtipaecageimnnaaDoorP3
import Derived.Test.YtipaecageimnnaaDoorRtb
import Derived.Test.YtipaecageimnnaaDoorRow
namespace Go.Proofs.YtipaecageimnnaaDoor
open Go.RowKit

def mdR (l : List (List Raw)) (n m : Nat) : List (List E) := (List.range n).map fun i => madeAll (l.getD i []) m
theorem mdR_succ (l : List (List Raw)) (n m : Nat) : mdR l (n + 1) m = mdR l n m ++ [madeAll (l.getD n []) m] := by simp [mdR, List.range_succ]
theorem mdR_length (l : List (List Raw)) (n m : Nat) : (mdR l n m).length = n := by simp [mdR]
set_option maxRecDepth 100000 in
set_option maxHeartbeats 2000000 in
theorem rMadeRounds (l : List (List Raw)) (n m : Nat) (hn : n ≤ 1000) (hm : m ≤ 1000) (vl : Value) (lo hi : Nat) (w : World) (h : RTabS lo hi w vl l) :
    Calls Tryd.prog 15 #[vl, .int .i64 (n : Int), .int .i64 (m : Int)] w (RetR (fun lo hi v w' => TabS lo hi w' v (mdR l n m)) w) := by
  obtain ⟨A, cap, rfl⟩ := h.len
  have hsm := h.small
  have HH := Lib.hid h
  clear h
  go_enter Tryd.func15, Tryd.ntmps15
  go_wp2
  go_loopw [7, 8] (fun v i wr => ∃ j : Nat, j ≤ n ∧ i = .int .i64 j ∧ RowT w.heap.size wr v (mdR l j m) ∧ Below w.heap.size w wr) (fun _ i _ => n - (intOf i).toNat)
  case atStart => exact ⟨0, Nat.zero_le _, rfl, ⟨[], ⟨rfl, .inr ⟨w.heap.size, 0, #[], rfl, Nat.le_refl _, World.alloc_heap_new w _, Nat.le_refl _, Nat.zero_le _, rfl, by simp⟩⟩, rfl, fun k x t h => by simp at h⟩, (Below.refl _ _).alloc (Nat.le_refl _) _⟩
  case round =>
    obtain ⟨j, hj, rfl, hrow, hB⟩ := hrel
    by_cases hlt : j < n
    · go_upto_region 6 with (fail)
      refine wp_stk1 fun X hBX hz bX => ?_
      clear hz
      by_cases hjl : j < l.length
      · obtain ⟨g, off, cap', hv, lg, qg⟩ := rtabs_cells (HH.out.keep hB) (by omega)
        cases hv
        obtain ⟨R, hR⟩ : ∃ R, l[j]? = some R := ⟨_, List.getElem?_eq_getElem hjl⟩
        obtain ⟨A1, c1, d1, hraw⟩ := qg j R hR
        have hRl : l.getD j [] = R := by simp [List.getD, hR]
        have hrX : RawS lo hi X (.slice A1 R.length c1) R := ⟨Rd.keep hraw.1 hBX, hraw.2⟩
        have d2 := (hBX.cell (p := ⟨g, off + j, none⟩) lg).trans d1
        clear qg hR hraw bX d1
        go_wp2_with fail
        refine (xExact R m (by omega) _ _ _ X hrX).mono ?_
        rintro e w2 ⟨v2, rfl, t2, hb2⟩
        replace t2 : ExtS X.heap.size w2.heap.size w2 v2 (madeAll R m) := t2
        obtain ⟨A2, c2, rfl⟩ := Rd.len t2
        have hs2 := hb2.size
        have hrX := hrow.keep hBX
        have hBw := hB.trans (hBX.mono hB.size)
        have hsB := hB.size
        have hsX := hBX.size
        go_wp2_with (at_builtin; refine wpList_appT (x := .slice A2 (madeAll R m).length c2) (y := madeAll R m) (lo := X.heap.size) (hi := w2.heap.size) (base := w.heap.size) (ts := mdR l j m) rfl _ _ rfl Tryd.underlying36 rfl rfl ?hrow ?hsrc rfl ?hE ?hlo ?hhi ?hout ?hk ?hbase ?_)
        case hrow => exact (hrX.keep hb2).keep ((Below.refl _ _).alloc (Nat.le_refl _) _)
        case hsrc => exact Blk.new_at _ _ _ rfl
        case hE => exact Rd.keep t2 ((Below.refl _ _).alloc (Nat.le_refl _) _)
        case hlo => omega
        case hhi => simp
        case hout => exact hrX.out (Nat.le_refl _)
        case hk => rw [mdR_length]; omega
        case hbase => simp; omega
        intro u' w3 hrow3 hB3 hg3 hob3
        have hal2 : Below w2.heap.size w2 (w2.alloc (.cells #[.slice A2 (madeAll R m).length c2] 22)) := (Below.refl _ _).alloc (Nat.le_refl _) _
        go_wp2_with fail
        exact ⟨⟨j + 1, by omega, by go_num, by rw [mdR_succ, hRl]; exact hrow3, ((hBw.trans (hb2.mono hBw.size)).trans (hal2.mono (hBw.trans (hb2.mono hBw.size)).size)).trans hB3⟩, by simp [intOf]; omega⟩
      · obtain ⟨R, hR⟩ : ∃ R : List Raw, R = [] := ⟨[], rfl⟩
        have hRl : l.getD j [] = R := by rw [hR]; simp [List.getD, hjl]
        have hrX : RawS 0 X.heap.size X (.slice (some ⟨wr.heap.size, 0, none⟩) 0 0) R := by rw [hR]; exact ⟨rd_nil _ _ _ _ _ _, fun x hx => by simp at hx⟩
        clear hR bX
        go_wp2_with fail
        refine (xExact R m (by omega) _ _ _ X hrX).mono ?_
        rintro e w2 ⟨v2, rfl, t2, hb2⟩
        replace t2 : ExtS X.heap.size w2.heap.size w2 v2 (madeAll R m) := t2
        obtain ⟨A2, c2, rfl⟩ := Rd.len t2
        have hs2 := hb2.size
        have hrX := hrow.keep hBX
        have hBw := hB.trans (hBX.mono hB.size)
        have hsB := hB.size
        have hsX := hBX.size
        go_wp2_with (at_builtin; refine wpList_appT (x := .slice A2 (madeAll R m).length c2) (y := madeAll R m) (lo := X.heap.size) (hi := w2.heap.size) (base := w.heap.size) (ts := mdR l j m) rfl _ _ rfl Tryd.underlying36 rfl rfl ?hrow ?hsrc rfl ?hE ?hlo ?hhi ?hout ?hk ?hbase ?_)
        case hrow => exact (hrX.keep hb2).keep ((Below.refl _ _).alloc (Nat.le_refl _) _)
        case hsrc => exact Blk.new_at _ _ _ rfl
        case hE => exact Rd.keep t2 ((Below.refl _ _).alloc (Nat.le_refl _) _)
        case hlo => omega
        case hhi => simp
        case hout => exact hrX.out (Nat.le_refl _)
        case hk => rw [mdR_length]; omega
        case hbase => simp; omega
        intro u' w3 hrow3 hB3 hg3 hob3
        have hal2 : Below w2.heap.size w2 (w2.alloc (.cells #[.slice A2 (madeAll R m).length c2] 22)) := (Below.refl _ _).alloc (Nat.le_refl _) _
        go_wp2_with fail
        exact ⟨⟨j + 1, by omega, by go_num, by rw [mdR_succ, hRl]; exact hrow3, ((hBw.trans (hb2.mono hBw.size)).trans (hal2.mono (hBw.trans (hb2.mono hBw.size)).size)).trans hB3⟩, by simp [intOf]; omega⟩
    · obtain rfl : j = n := by omega
      go_wp2
      go_ret
      exact ⟨_, rfl, hrow.tabs (by rw [mdR_length]; omega), hB⟩
end Go.Proofs.YtipaecageimnnaaDoor
