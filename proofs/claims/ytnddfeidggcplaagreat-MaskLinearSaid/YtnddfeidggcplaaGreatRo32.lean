/-
  Terms without coefficients, as MaskLinear makes them: their sum and its rounds are zero; a row of such terms.
-/
import Derived.Test.YtnddfeidggcplaaGreatZ32
namespace Go.Proofs.YtnddfeidggcplaaGreat
open Go.RowKit

def zrE (ps : List Trm) : List Trm := ps.map fun p => ⟨0, p.t⟩
theorem zrE_length (ps : List Trm) : (zrE ps).length = ps.length := by simp [zrE]
theorem zrE_succ (ps : List Trm) (k : Nat) (p : Trm) (h : ps[k]? = some p) : zrE (ps.take (k + 1)) = zrE (ps.take k) ++ [⟨0, p.t⟩] := by simp [zrE, List.take_add_one, h]
theorem trm_zr (val : Nat → E) (l : List Nat) : trmE val ⟨0, l⟩ = 0 := by
  have key : ∀ l : List Nat, l.foldl (fun v k => v * val k) (0 : E) = 0 := by
    intro l
    induction l with
    | nil => rfl
    | cons k l ih => rw [List.foldl_cons, E.zero_mul, ih]
  exact key l
theorem fin_zr (val : Nat → E) (ps : List Trm) : finE val (zrE ps) = 0 := by
  unfold finE zrE
  rw [List.map_map]
  exact esum_map_zero _ _ fun p _ => trm_zr val p.t
theorem tot_zr (tabs : List (List E)) (ps : List Trm) : totE tabs (zrE ps) = 0 := by
  unfold totE totK
  exact esum_map_zero _ _ fun i _ => fin_zr _ ps
theorem deg_zr (ps : List Trm) : degE (zrE ps) = degE ps := by unfold degE zrE; rw [List.foldl_map]
theorem rnd_zr (tabs : List (List E)) (ps : List Trm) (i : Nat) (h : i < degE ps + 1) : (rndE tabs (zrE ps)).getD i 0 = 0 := by
  rw [rndE_get tabs (zrE ps) i (by rw [deg_zr]; exact h), tot_zr]
theorem prv_zr (ps : List Trm) (x : Nat) (hx : x < degE ps + 1) : ∀ (cs : List E) (tabs : List (List E)) (i : Nat), ((prvR tabs (zrE ps) cs).getD i []).getD x 0 = 0
  | [], _, i => by simp [prvR]
  | c :: cs, tabs, 0 => by simpa [prvR] using rnd_zr tabs ps x hx
  | c :: cs, tabs, i + 1 => by
    have := prv_zr ps x hx cs (bndE tabs c) i
    simpa [prvR] using this
theorem prv_row (ps : List Trm) : ∀ (cs : List E) (tabs : List (List E)) (i : Nat) (g : List E), (prvR tabs ps cs)[i]? = some g → g.length = degE ps + 1
  | [], _, i, g, h => by simp [prvR] at h
  | c :: cs, tabs, 0, g, h => by
    simp only [prvR, List.getElem?_cons_zero, Option.some.injEq] at h
    subst h
    exact rndE_length _ _
  | c :: cs, tabs, i + 1, g, h => by
    simp only [prvR, List.getElem?_cons_succ] at h
    exact prv_row ps cs _ i g h
theorem prvM_row {plain m : List (List E)} {rho : E} {co : List E} {D i : Nat} {g : List E} (hm : ∀ g ∈ m, g.length = D + 1) (h : (prvM plain m rho co)[i]? = some g) : i < m.length ∧ g = linR (plain.getD i []) rho (mrow m co i) ∧ (mrow m co i).length = D + 1 := by
  have hi : i < m.length := by
    have := (List.getElem?_eq_some_iff.1 h).1
    rwa [prvM_length] at this
  have h1 : (prvM plain m rho co)[i]? = some (linR (plain.getD i []) rho (mrow m co i)) := by simp [prvM, hi]
  rw [h, Option.some.injEq] at h1
  refine ⟨hi, h1, ?_⟩
  rw [mrow_length, show m.getD i [] = m[i] by simp [List.getD, hi]]
  exact hm _ (List.getElem_mem hi)
/-- The masked rounds are the plain ones and rho times those of a sum without coefficients. -/
theorem msk_linear (tabs : List (List E)) (ps : List Trm) (m : List (List E)) (rho : E) (co : List E) (hm : ∀ g ∈ m, g.length = degE ps + 1) (i x : Nat) (g p a : List E) (gx px ax : E)
    (h1 : (prvM (prvR tabs ps co) m rho co)[i]? = some g) (h2 : (prvR tabs ps co)[i]? = some p) (h3 : (prvM (prvR tabs (zrE ps) co) m 1 co)[i]? = some a) (k1 : g[x]? = some gx) (k2 : p[x]? = some px) (k3 : a[x]? = some ax) : px + rho * ax = gx := by
  obtain ⟨hi, rfl, hl⟩ := prvM_row hm h1
  obtain ⟨-, rfl, -⟩ := prvM_row hm h3
  have hx : x < degE ps + 1 := by
    have := (List.getElem?_eq_some_iff.1 k1).1
    rwa [linR_length, hl] at this
  have e1 : (linR ((prvR tabs ps co).getD i []) rho (mrow m co i)).getD x 0 = gx := by rw [List.getD_eq_getElem?_getD, k1]; rfl
  have e3 : (linR ((prvR tabs (zrE ps) co).getD i []) 1 (mrow m co i)).getD x 0 = ax := by rw [List.getD_eq_getElem?_getD, k3]; rfl
  have e2 : ((prvR tabs ps co).getD i []).getD x 0 = px := by
    rw [show (prvR tabs ps co).getD i [] = p by rw [List.getD_eq_getElem?_getD, h2]; rfl]
    rw [List.getD_eq_getElem?_getD, k2]; rfl
  rw [linR_getD _ _ _ _ (by rw [hl]; exact hx)] at e1 e3
  rw [e2] at e1
  rw [prv_zr ps x hx, E.one_mul, E.zero_add] at e3
  rw [← e1, ← e3]

/-! ### A row of terms whose indices lie elsewhere -/
def RowZ (base lo hi : Nat) (V w : World) (u : Value) (ps : List Trm) : Prop := ∃ us : List Value, w.ownsRow base 74 3 u ps.length ((ps.zip us).flatMap trc) ∧ us.length = ps.length ∧ ∀ (k : Nat) x p, us[k]? = some x → ps[k]? = some p → IdxS lo hi V x p.t
theorem RowZ.first {base lo hi g : Nat} {V w : World} (hb : base ≤ g) (h : Blk w g 74 #[]) : RowZ base lo hi V w (.slice (some ⟨g, 0, none⟩) 0 0) [] :=
  ⟨[], ⟨rfl, .inr ⟨g, 0, #[], rfl, hb, h, Nat.le_refl _, Nat.zero_le _, rfl, rfl⟩⟩, rfl, fun k x t h => by simp at h⟩
theorem RowZ.len {base lo hi : Nat} {V w : World} {u : Value} {ps : List Trm} (h : RowZ base lo hi V w u ps) : ∃ A cap, u = .slice A ps.length cap := by
  obtain ⟨us, h1, _⟩ := h
  exact own_len h1
theorem RowZ.keep {base lo hi : Nat} {V w X : World} {u : Value} {ps : List Trm} (h : RowZ base lo hi V w u ps) (hb : Below w.heap.size w X) : RowZ base lo hi V X u ps := by
  obtain ⟨us, h1, h2, h3⟩ := h
  exact ⟨us, own_below h1 (Nat.le_refl _) hb, h2, h3⟩
theorem RowZ.block {base lo hi g : Nat} {V w : World} {u : Value} {ps : List Trm} (h : RowZ base lo hi V w u ps) (hg : u.ownBlock = some g) : base ≤ g ∧ g < w.heap.size := by
  obtain ⟨us, h1, _⟩ := h
  exact own_block h1 hg
theorem own_putN {w w' : World} {base n size g : Nat} {e : TypeId} {v : Value} {xs : List Value} (h : w.ownsRow base e size v n xs) (hp : Put w w' g) (hg : v.ownBlock ≠ some g) : w'.ownsRow base e size v n xs := by
  obtain ⟨h1, h2⟩ := h
  refine ⟨h1, ?_⟩
  rcases h2 with h2 | ⟨k, cap, cur, rfl, q1, q2, q3⟩
  · exact .inl h2
  · refine .inr ⟨k, cap, cur, rfl, q1, ?_, q3⟩
    rw [hp.other k (fun e => hg (by rw [e]; rfl))]
    exact q2
theorem RowZ.put {base lo hi g : Nat} {V w X : World} {u : Value} {ps : List Trm} (h : RowZ base lo hi V w u ps) (hp : Put w X g) (hg : u.ownBlock ≠ some g) : RowZ base lo hi V X u ps := by
  obtain ⟨us, h1, h2, h3⟩ := h
  exact ⟨us, own_putN h1 hp hg, h2, h3⟩
theorem RowZ.trms {base hi : Nat} {V w : World} {u : Value} {ps : List Trm} (h : RowZ base 0 hi V w u ps) (hl : ps.length ≤ 1000000) (hb : Below V.heap.size V w) (hh : hi ≤ V.heap.size) : TrmS 0 w.heap.size w u ps := by
  obtain ⟨us, h1, h2, h3⟩ := h
  exact ⟨us, h2, Rd.wide (Rd.of_own h1 (by omega) (Nat.le_refl _)) (Nat.zero_le _) (Nat.le_refl _), fun k x t hx ht => Rd.wide (Rd.keep (h3 k x t hx ht) hb) (Nat.le_refl _) (Nat.le_trans hh hb.size)⟩
theorem blk_grown {X w : World} {g : Nat} {t : TypeId} {cs : Array Value} {row : Option Nat} (h : Blk X g t cs) (hg : X.grownBy w row) (hne : row ≠ some g) : Blk w g t cs := by
  have hl := h.lt
  unfold Blk at *
  rw [hg.block g hl (fun e => hne e.symm)]
  exact h
theorem wpList_appZ {ops : Array Oper} {rest : List Oper} {o : Oper} {a : Act} {Q : Exit → Act → World → Prop} {X V : World} {base n lo hi : Nat} {t : TypeId} {ps : List Trm} {u x : Value} {y : Trm} (hgd : o.guard = none) (s p : Operand)
    (ho : o.op = .call { callee := .builtin .append, args := #[s, p], argTypes := #[t, t] }) (ht : Tryz.prog.underlying t = some (.slice 74)) (hs : a.eval s = u) (hx : a.eval p = .slice (some ⟨n, 0, none⟩) 1 1) (hrow : RowZ base lo hi V X u ps) (hsrc : Blk X n 74 #[.int .u64 (fv y.c.a), .int .u64 (fv y.c.b), x]) (hxc : x.oneCell' = true)
    (hE : IdxS lo hi V x y.t) (hk : ps.length ≤ 100000) (hbase : base ≤ X.heap.size)
    (h : ∀ v' w', RowZ base lo hi V w' v' (ps ++ [y]) → Below base X w' → X.grownBy w' u.ownBlock → (v'.ownBlock = u.ownBlock ∨ v'.ownBlock = some X.heap.size) → wpList Tryz.prog ops Q rest (a.put o.dst v') w') : wpList Tryz.prog ops Q (o :: rest) a X := by
  obtain ⟨i0, hi0, hz0, hz1, hz2⟩ := info_parts prod_info
  obtain ⟨us, h1, h2, h3⟩ := hrow
  refine wpList_app3 hgd s p ho ht hi0 hz0 hz1 hz2 rfl (by decide) (cl := trc (y, x)) rfl (trc_one (y, x) hxc) hs hx h1 hsrc (by unfold maxLen; omega) (by omega) hbase fun v' w' hown hgrow hB hob => ?_
  refine h v' w' ⟨us ++ [x], ?_, by simp [h2], fun k z t' hz ht' => ?_⟩ hB hgrow hob
  · rw [List.zip_append h2.symm, List.flatMap_append, List.length_append]
    simpa using hown
  by_cases hkl : k < us.length
  · rw [List.getElem?_append_left hkl] at hz
    rw [List.getElem?_append_left (by omega)] at ht'
    exact h3 k z t' hz ht'
  · have hkk : k < (us ++ [x]).length := (List.getElem?_eq_some_iff.1 hz).1
    simp only [List.length_append, List.length_cons, List.length_nil] at hkk
    obtain rfl : k = us.length := by omega
    rw [List.getElem?_append_right (Nat.le_refl _), Nat.sub_self] at hz
    rw [List.getElem?_append_right (by omega), h2, Nat.sub_self] at ht'
    simp only [List.getElem?_cons_zero, Option.some.injEq] at hz ht'
    subst hz
    subst ht'
    exact hE
end Go.Proofs.YtnddfeidggcplaaGreat
