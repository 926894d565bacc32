/-
  Gates, weights and two points that lie in memory together; what the functions of chapter 17 give over them.
-/
import Derived.Test.YtbmgngoeiadmmaaDoorSan
import Derived.Test.YtbmgngoeiadmmaaDoorPut
namespace Go.Proofs.YtbmgngoeiadmmaaDoor
open Go.RowKit

structure Lay (W : World) (gs : List Gt) (us p q : List E) (a b c d : Value) : Prop where
  hl : GateS 0 W.heap.size W a gs
  hu : ExtS 0 W.heap.size W b us
  hp : ExtS 0 W.heap.size W c p
  hq : ExtS 0 W.heap.size W d q
  laid : Laid W
  len : gs.length ≤ us.length
  ok : ∀ g ∈ gs, g.L < 2 ^ p.length ∧ g.R < 2 ^ q.length
  pl : p.length ≤ 3
  ql : q.length ≤ 3
section
variable {W W' : World} {gs : List Gt} {us p q : List E} {a b c d : Value}
theorem Lay.keep (h : Lay W gs us p q a b c d) (hb : Below W.heap.size W W') : Lay W' gs us p q a b c d :=
  ⟨(Rd.keep h.hl hb).wide (Nat.le_refl _) hb.size, (Rd.keep h.hu hb).wide (Nat.le_refl _) hb.size, (Rd.keep h.hp hb).wide (Nat.le_refl _) hb.size, (Rd.keep h.hq hb).wide (Nat.le_refl _) hb.size, h.laid.keep hb, h.len, h.ok, h.pl, h.ql⟩
theorem Lay.grw (h : Lay W gs us p q a b c d) (hw : Grw W W') : Lay W' gs us p q a b c d := h.keep (grw_below hw)
/-- A block that was written, above all that lies. -/
theorem Rd.put {lo hi size n g : Nat} {v : Value} {cs : List Value} {w X : World} (h : Rd lo hi size w v n cs) (hp : Put w X g) (hg : hi ≤ g) : Rd lo hi size X v n cs := hp.rd h (.inr hg)
theorem Lay.coef (h : Lay W gs us p q a b c d) (x y : E) : Calls Tryd.prog 16 #[a, b, endsV c d x y] W (RetR (ExtA (coefs p q gs us)) W) :=
  wCoef gs us p q x y a b c d 0 _ 0 _ 0 _ 0 _ W h.hl h.hu h.hp h.hq (Nat.le_refl _) (Nat.le_refl _) (Nat.le_refl _) (Nat.le_refl _) h.laid h.len h.ok (Nat.le_trans h.pl (Nat.le_of_ble_eq_true rfl)) (Nat.le_trans h.ql (Nat.le_of_ble_eq_true rfl))
theorem Lay.point (h : Lay W gs us p q a b c d) (x y : E) : Calls Tryd.prog 18 #[a, b, endsV c d x y] W (Ret (ev (point p q gs us x y)) W) :=
  wPoint gs us p q x y a b c d 0 _ 0 _ 0 _ 0 _ W h.hl h.hu h.hp h.hq (Nat.le_refl _) (Nat.le_refl _) (Nat.le_refl _) (Nat.le_refl _) h.laid h.len h.ok (Nat.le_trans h.pl (Nat.le_of_ble_eq_true rfl)) (Nat.le_trans h.ql (Nat.le_of_ble_eq_true rfl))
theorem Lay.tables (h : Lay W gs us p q a b c d) (hpq : q.length = p.length) : Calls Tryd.prog 13 #[a, b, .int .i64 p.length] W (RetR (TabA (tabsT p.length (gs.zip us))) W) :=
  wTables gs us p.length a b 0 _ 0 _ W h.hl h.hu (Nat.le_refl _) (Nat.le_refl _) h.len (fun g hg => by have := h.ok g hg; rw [hpq] at this; exact this) h.pl
theorem Lay.okM (h : Lay W gs us p q a b c d) : ∀ g ∈ gs, g.L ≤ 1000000 ∧ g.R ≤ 1000000 := fun g hg => by
  obtain ⟨h1, h2⟩ := h.ok g hg
  have e1 : 2 ^ p.length ≤ 2 ^ 3 := Nat.pow_le_pow_right (by decide) h.pl
  have e2 : 2 ^ q.length ≤ 2 ^ 3 := Nat.pow_le_pow_right (by decide) h.ql
  omega
end
theorem gm_ok (k : Nat) (r : Rg) : (gm k r).L < 2 ^ k ∧ (gm k r).R < 2 ^ k := by
  have hp : (0 : Int) < 2 ^ k := Int.pow_pos (by decide)
  have e : ((2 ^ k : Nat) : Int) = (2 : Int) ^ k := by simp
  have h1 := Int.emod_lt_of_pos r.L hp
  have h2 := Int.emod_lt_of_pos r.R hp
  have h3 := Int.emod_nonneg r.L (Int.ne_of_gt hp)
  have h4 := Int.emod_nonneg r.R (Int.ne_of_gt hp)
  unfold gm
  simp only
  omega
theorem madeG_ok (l : List Rg) (k n : Nat) : ∀ g ∈ madeG l k n, g.L < 2 ^ k ∧ g.R < 2 ^ k := fun g hg => by
  obtain ⟨r, _, rfl⟩ := List.mem_map.1 hg
  exact gm_ok k r
theorem madeG_len (l : List Rg) (k n : Nat) : (madeG l k n).length ≤ n := by unfold madeG; rw [List.length_map]; exact List.length_take_le _ _
theorem Qy.k3 (q : Qy) (_h : 0 ≤ q.K) : q.k ≤ 3 := by unfold Qy.k; omega
theorem Qy.p_len (q : Qy) : q.p.length = q.k := madeAll_length _ _
theorem Qy.q_len (q : Qy) : q.q.length = q.k := madeAll_length _ _
theorem Qy.us_len (q : Qy) : q.us.length = q.gs.length := madeAll_length _ _
/-- What 'made' hands back lies together. -/
theorem lay_made {w w' : World} {q : Qy} {a b c d : Value} (hK : 0 ≤ q.K) (h1 : GateS w.heap.size w'.heap.size w' a q.gs) (h2 : ExtS w.heap.size w'.heap.size w' b q.us) (h3 : ExtS w.heap.size w'.heap.size w' c q.p) (h4 : ExtS w.heap.size w'.heap.size w' d q.q) (hL : Laid w') :
    Lay w' q.gs q.us q.p q.q a b c d :=
  ⟨Rd.wide h1 (Nat.zero_le _) (Nat.le_refl _), Rd.wide h2 (Nat.zero_le _) (Nat.le_refl _), Rd.wide h3 (Nat.zero_le _) (Nat.le_refl _), Rd.wide h4 (Nat.zero_le _) (Nat.le_refl _), hL, Nat.le_of_eq q.us_len.symm,
    fun g hg => by rw [q.p_len, q.q_len]; exact madeG_ok _ _ _ g hg, by rw [q.p_len]; exact q.k3 hK, by rw [q.q_len]; exact q.k3 hK⟩
theorem QyS.keep {N : Nat} {w w' : World} {q : Qy} {vL vU vP vQ : Value} (h : QyS N w q vL vU vP vQ) (hb : Below w.heap.size w w') : QyS N w' q vL vU vP vQ :=
  ⟨RawG.keep h.L hb, RawS.keep h.U hb, RawS.keep h.P hb, RawS.keep h.Q hb, h.x0, h.x1, h.y0, h.y1, h.K⟩
theorem ends_info : (Tryd.prog.info? 33).map (fun i => (i.zero, i.size, i.bytes)) = some (some (.agg #[.slice none 0 0, .slice none 0 0, .int .u64 0, .int .u64 0, .int .u64 0, .int .u64 0]), 6, 80) := by kernel_rfl
/-- A slice of four elements, cell by cell. -/
theorem four_cells {lo hi : Nat} {w : World} {v : Value} {c0 c1 c2 c3 : E} (h : ExtS lo hi w v [c0, c1, c2, c3]) : ∃ g off cap, v = .slice (some ⟨g, off, none⟩) 4 cap ∧ 4 ≤ cap ∧ lo ≤ g ∧ g < hi ∧ g < w.heap.size ∧
    (w.cell? ⟨g, off, none⟩ = some (.int .u64 (fv c0.a)) ∧ w.cell? ⟨g, off + 1, none⟩ = some (.int .u64 (fv c0.b))) ∧ (w.cell? ⟨g, off + 2, none⟩ = some (.int .u64 (fv c1.a)) ∧ w.cell? ⟨g, off + 2 + 1, none⟩ = some (.int .u64 (fv c1.b))) ∧
    (w.cell? ⟨g, off + 4, none⟩ = some (.int .u64 (fv c2.a)) ∧ w.cell? ⟨g, off + 4 + 1, none⟩ = some (.int .u64 (fv c2.b))) ∧ (w.cell? ⟨g, off + 6, none⟩ = some (.int .u64 (fv c3.a)) ∧ w.cell? ⟨g, off + 6 + 1, none⟩ = some (.int .u64 (fv c3.b))) := by
  obtain ⟨g, off, cap, hv, q1, q2, q3, q4, q5⟩ := exts_cells h (Nat.succ_pos _)
  have k0 := q5 0 _ rfl
  rw [Nat.zero_mul, Nat.add_zero] at k0
  exact ⟨g, off, cap, hv, q1, q2, q3, q4, k0, q5 1 _ rfl, q5 2 _ rfl, q5 3 _ rfl⟩
theorem tabsT_get (k : Nat) (ts : List (Gt × E)) (a : Nat) (h : a < 4) : (tabsT k ts)[a]? = some (tabT k ts a) := by
  unfold tabsT
  rw [List.getElem?_map, List.getElem?_range h, Option.map_some]
/-- The rows of a slice of slices, cell by cell. -/
theorem tab_cells {lo hi : Nat} {w : World} {v : Value} {ts : List (List E)} (h : TabS lo hi w v ts) (h0 : 0 < ts.length) : ∃ g off cap, v = .slice (some ⟨g, off, none⟩) ts.length cap ∧ ts.length ≤ cap ∧ lo ≤ g ∧ g < hi ∧ g < w.heap.size ∧
    ∀ (k : Nat) (y : List E), ts[k]? = some y → ∃ x, w.cell? ⟨g, off + k, none⟩ = some x ∧ ExtS lo hi w x y := by
  obtain ⟨vs, h1, h2, h3⟩ := h
  obtain ⟨g, off, cap, hv, q1, q2, q3, q4, q5⟩ := Rd.form h2 h0
  refine ⟨g, off, cap, hv, q1, q2, q3, q4, fun k y hy => ?_⟩
  have hk : k < vs.length := by rw [h1]; exact (List.getElem?_eq_some_iff.1 hy).1
  have hx : vs[k]? = some vs[k] := List.getElem?_eq_getElem hk
  exact ⟨vs[k], q5 k _ hx, h3 k _ y hx hy⟩
def qv (vL vU vP vQ : Value) (q : Qy) : Value := .agg #[vL, vU, vP, vQ, .int .u64 q.x0, .int .u64 q.x1, .int .u64 q.y0, .int .u64 q.y1, .int .u8 q.K]
end Go.Proofs.YtbmgngoeiadmmaaDoor
