/-
  Plain mathematics, no program: the steps of Euclid's algorithm in the prime field.
  Plain mathematics, no program: the modulus is prime, Fermat's little theorem, seven is no square; so every element but zero has an inverse.
  Multilinear extensions: what the functions of chapter 05 compute, and its laws.
  Laws of the multilinear extension: sums, vertices, joined points, affine coordinates.
  Laws of the multilinear extension: weights, equality, streaming, sums of a table.
  The law of a region that draws its order, once more, for a region in which some loads may come late: behind the first of the forced stores. Such a load yields the same value wherever it stands, as long as each operation leaves what was there at the region's start as it was.
-/
import Derived.Test.YtficeebbbkmhcaaGreatDoorEn
import Derived.Test.YtficeebbbkmhcaaGreatDoorQy
import Derived.Test.YtficeebbbkmhcaaGreatDoorRg
import Derived.OrdersHeld
import Derived.Deep.MidRow
namespace Go.Proofs.YtficeebbbkmhcaaGreatDoor
def fn (k : Nat) : Fp := Fin.ofNat PP k
theorem fv_fn (k : Nat) : fv (fn k) = (k : Int) % 18446744069414584321 := by
  unfold fv fn; rw [Fin.val_ofNat]; unfold PP; omega
theorem fn_val (a : Fp) : fn a.val = a := by
  apply Fin.ext; unfold fn; rw [Fin.val_ofNat]; exact Nat.mod_eq_of_lt a.isLt
theorem fn_add (a b : Nat) : fn (a + b) = fn a + fn b := by
  apply fv_inj; rw [fv_add, fv_fn, fv_fn, fv_fn]; omega
theorem fn_mul (a b : Nat) : fn (a * b) = fn a * fn b := by
  apply fv_inj; rw [fv_mul, fv_fn, fv_fn, fv_fn, Int.natCast_mul, Int.mul_emod]
theorem fn_one : fn 1 = 1 := rfl
theorem fn_PP : fn 18446744069414584321 = 0 := by apply fv_inj; rw [fv_fn]; rfl
theorem euclid_step {a s t : Fp} {r n : Nat} (h1 : fn r = s * a) (h2 : fn n = t * a) : fn (r % n) = (s - fn (r / n) * t) * a := by
  have h : fn (n * (r / n) + r % n) = fn n * fn (r / n) + fn (r % n) := by rw [fn_add, fn_mul]
  rw [Nat.div_add_mod, h1, h2] at h
  grind
theorem gcd_step (r n : Nat) (h : Nat.gcd r n = 1) : Nat.gcd n (r % n) = 1 := by
  rw [Nat.gcd_comm, ← Nat.gcd_rec, Nat.gcd_comm]; exact h
def nrm (x : E) : Fp := x.a * x.a - 7 * (x.b * x.b)
def cnj (x : E) : E := ⟨x.a, 0 - x.b⟩
theorem inv_law (x : E) (c : Fp) (h : c * nrm x = 1) : (cnj x * eb c) * x = 1 := by
  unfold nrm at h
  rw [mul_eb]
  unfold cnj
  apply E.ext_ <;> simp only [mul_a, mul_b, one_a, one_b] <;> grind
end Go.Proofs.YtficeebbbkmhcaaGreatDoor
namespace Go.Proofs.YtficeebbbkmhcaaGreatDoor

/-! ### Powers -/
def rpow {n : Nat} [NeZero n] (a : Fin n) : Nat → Fin n
  | 0 => 1
  | k + 1 => rpow a k * a
section
variable {n : Nat} [NeZero n]
theorem rpow_zero (a : Fin n) : rpow a 0 = 1 := rfl
theorem rpow_succ (a : Fin n) (k : Nat) : rpow a (k + 1) = rpow a k * a := rfl
theorem rpow_add (a : Fin n) (j : Nat) : ∀ k, rpow a (j + k) = rpow a j * rpow a k
  | 0 => by rw [Nat.add_zero, rpow_zero, Fin.mul_one]
  | k + 1 => by rw [← Nat.add_assoc, rpow_succ, rpow_succ, rpow_add a j k, Fin.mul_assoc]
theorem rpow_one (k : Nat) : rpow (1 : Fin n) k = 1 := by
  induction k with
  | zero => rfl
  | succ k ih => rw [rpow_succ, ih, Fin.mul_one]
theorem rpow_mul (a : Fin n) (j : Nat) : ∀ k, rpow a (j * k) = rpow (rpow a j) k
  | 0 => by rw [Nat.mul_zero]; rfl
  | k + 1 => by rw [Nat.mul_succ, rpow_add, rpow_mul a j k, rpow_succ]
theorem rpow_two (a : Fin n) (k : Nat) : rpow a (2 * k) = rpow (a * a) k := by
  rw [rpow_mul]
  congr 1
  show rpow a 1 * a = a * a
  show (1 * a) * a = a * a
  rw [Fin.one_mul]
theorem rpow_odd (a : Fin n) (k : Nat) : rpow a (2 * k + 1) = rpow (a * a) k * a := by rw [rpow_succ, rpow_two]
def sqi (a : Fin n) : Nat → Fin n
  | 0 => a
  | k + 1 => sqi (a * a) k
theorem sqi_pow : ∀ (k : Nat) (a : Fin n), sqi a k = rpow a (2 ^ k)
  | 0, a => by show a = 1 * a; rw [Fin.one_mul]
  | k + 1, a => by rw [sqi, sqi_pow k, ← rpow_two, Nat.pow_succ']
end
/-! ### Pigeonholes -/
theorem pigeon : ∀ (n m : Nat) (f : Nat → Nat), (∀ i, i < n → f i < m) → (∀ i j, i < n → j < n → f i = f j → i = j) → n ≤ m
  | 0, _, _, _, _ => Nat.zero_le _
  | n + 1, 0, f, h, _ => absurd (h 0 (Nat.succ_pos _)) (Nat.not_lt_zero _)
  | n + 1, m + 1, f, h, hi => by
    refine Nat.succ_le_succ (pigeon n m (fun i => if f i = m then f n else f i) (fun i hin => ?_) (fun i j hin hjn he => ?_))
    · have h1 := h i (by omega)
      have h2 := h n (by omega)
      have h3 := hi i n (by omega) (by omega)
      split <;> omega
    · have h1 := hi i j (by omega) (by omega)
      have h2 := hi i n (by omega) (by omega)
      have h3 := hi j n (by omega) (by omega)
      split at he <;> split at he <;> omega
theorem odd_part : ∀ (B e : Nat), e < B → 0 < e → ∃ t o, e = 2 ^ t * (2 * o + 1)
  | 0, e, h, _ => absurd h (Nat.not_lt_zero _)
  | B + 1, e, h, h0 => by
    by_cases he : e % 2 = 1
    · exact ⟨0, e / 2, by rw [Nat.pow_zero]; omega⟩
    · obtain ⟨t, o, h1⟩ := odd_part B (e / 2) (by omega) (by omega)
      refine ⟨t + 1, o, ?_⟩
      rw [Nat.pow_succ', Nat.mul_assoc, ← h1]
      omega
theorem apart_pow {d : Nat} [NeZero d] (h1 : (1 : Fin d) ≠ -1) (h : Fin d) (s : Nat) (hs : rpow h (2 ^ s) = -1) : 2 ^ (s + 1) ≤ d := by
  have neg_sq : (-1 : Fin d) * -1 = 1 := by grind
  have hone : rpow h (2 ^ (s + 1)) = 1 := by rw [Nat.pow_succ, rpow_mul, hs]; show (1 * -1) * (-1 : Fin d) = 1; rw [Fin.one_mul]; exact neg_sq
  have key : ∀ e, 0 < e → e < 2 ^ (s + 1) → rpow h e ≠ 1 := fun e h0 he hr => by
    obtain ⟨t, o, ho⟩ := odd_part (e + 1) e (by omega) h0
    have hts : t ≤ s := by
      apply Nat.le_of_lt_succ
      apply (Nat.pow_lt_pow_iff_right (a := 2) (by decide)).1
      refine Nat.lt_of_le_of_lt ?_ he
      rw [ho]
      exact Nat.le_mul_of_pos_right _ (by omega)
    have e1 : rpow (rpow h (2 ^ s)) (2 * o + 1) = -1 := by rw [hs, rpow_odd, neg_sq, rpow_one, Fin.one_mul]
    have e2 : rpow (rpow h (2 ^ s)) (2 * o + 1) = 1 := by
      rw [← rpow_mul, show 2 ^ s * (2 * o + 1) = e * 2 ^ (s - t) by
        rw [ho, Nat.mul_right_comm, ← Nat.pow_add, show t + (s - t) = s by omega], rpow_mul, hr, rpow_one]
    exact h1 (e2.symm.trans e1)
  have lem : ∀ i j, i < j → j < 2 ^ (s + 1) → rpow h i = rpow h j → False := fun i j hij hj he => by
    refine key (j - i) (by omega) (by omega) ?_
    have e3 : rpow h (2 ^ (s + 1) - i) * rpow h i = 1 := by rw [← rpow_add, show 2 ^ (s + 1) - i + i = 2 ^ (s + 1) by omega, hone]
    have e4 : rpow h (j - i) = rpow h (2 ^ (s + 1) - i) * rpow h j := by
      rw [show j = i + (j - i) by omega, rpow_add, ← Fin.mul_assoc, e3, Fin.one_mul, show i + (j - i) - i = j - i by omega]
    rw [e4, ← he, e3]
  refine pigeon _ _ (fun i => (rpow h i).val) (fun i _ => (rpow h i).isLt) (fun i j hi hj he => ?_)
  have he' : rpow h i = rpow h j := Fin.ext he
  rcases Nat.lt_trichotomy i j with h2 | h2 | h2
  · exact (lem i j h2 hj he').elim
  · exact h2
  · exact (lem j i h2 hi he'.symm).elim

/-! ### The modulus -/
def hroot : Nat := 1753635133440165772
def sqn (M : Nat) : Nat → Nat → Nat
  | 0, x => x
  | k + 1, x => sqn M k (x * x % M)
theorem sqn_fin (d M : Nat) [NeZero d] (hd : d ∣ M) : ∀ (k x : Nat), Fin.ofNat d (sqn M k x) = sqi (Fin.ofNat d x) k
  | 0, _ => rfl
  | k + 1, x => by
    rw [sqn, sqi, sqn_fin d M hd k]
    congr 1
    apply Fin.ext
    rw [Fin.val_ofNat, Fin.val_mul, Fin.val_ofNat, Nat.mod_mod_of_dvd _ hd, Nat.mul_mod]
theorem no_small (d : Nat) (h1 : 1 < d) (hd : d ∣ PP) : 4294967296 ≤ d := by
  have hz : NeZero d := ⟨by omega⟩
  have hodd : d ≠ 2 := by rintro rfl; revert hd; decide +kernel
  have e := sqn_fin d PP hd 31 hroot
  rw [show sqn PP 31 hroot = PP - 1 by decide +kernel, sqi_pow] at e
  have e2 : Fin.ofNat d (PP - 1) = -1 := by
    have e3 : Fin.ofNat d (PP - 1) + 1 = 0 := by
      apply Fin.ext
      rw [Fin.val_add, Fin.val_ofNat, show ((1 : Fin d).val) = 1 % d from rfl, Nat.add_mod_mod, Nat.mod_add_mod, show PP - 1 + 1 = PP from rfl, Nat.mod_eq_zero_of_dvd hd]
      rfl
    grind
  have hne : (1 : Fin d) ≠ -1 := by
    intro hh
    have h2 : (1 : Fin d) + 1 = 0 := by grind
    have h3 := congrArg Fin.val h2
    rw [Fin.val_add, show ((1 : Fin d).val) = 1 % d from rfl, Nat.mod_eq_of_lt h1] at h3
    have h4 : (1 + 1) % d = 0 := h3
    have h5 : d ∣ 2 := Nat.dvd_of_mod_eq_zero h4
    have := Nat.le_of_dvd (by decide) h5
    omega
  exact apart_pow hne _ 31 (e.symm.trans e2)
theorem pp_prime (d : Nat) (hd : d ∣ PP) : d = 1 ∨ d = PP := by
  obtain ⟨e, he⟩ := hd
  have hP : PP = 18446744069414584321 := rfl
  by_cases h1 : d ≤ 1
  · left
    rcases Nat.le_one_iff_eq_zero_or_eq_one.1 h1 with h2 | h2
    · rw [h2, Nat.zero_mul] at he; rw [hP] at he; omega
    · exact h2
  · right
    by_cases h2 : e ≤ 1
    · rcases Nat.le_one_iff_eq_zero_or_eq_one.1 h2 with h3 | h3
      · rw [h3, Nat.mul_zero] at he; rw [hP] at he; omega
      · rw [h3, Nat.mul_one] at he; exact he.symm
    · have h3 := no_small d (by omega) ⟨e, he⟩
      have h4 := no_small e (by omega) ⟨d, by rw [he, Nat.mul_comm]⟩
      have h5 := Nat.mul_le_mul h3 h4
      rw [← he, hP] at h5
      omega
theorem pp_gcd (a : Fp) (h : a ≠ 0) : Nat.gcd PP a.val = 1 := by
  rcases pp_prime _ (Nat.gcd_dvd_left PP a.val) with h1 | h1
  · exact h1
  · exfalso
    have h2 := Nat.gcd_dvd_right PP a.val
    rw [h1] at h2
    have h3 : a.val ≠ 0 := fun e => h (Fin.ext e)
    have h4 := Nat.le_of_dvd (by omega) h2
    exact absurd a.isLt (by omega)
theorem f_cancel (a b c : Fp) (h : a ≠ 0) (he : a * b = a * c) : b = c := by
  have h1 : (a * b).val = (a * c).val := congrArg Fin.val he
  rw [Fin.val_mul, Fin.val_mul] at h1
  have lem : ∀ x y : Fp, x.val ≤ y.val → a.val * x.val % PP = a.val * y.val % PP → x = y := fun x y hxy h2 => by
    have h3 : PP ∣ a.val * y.val - a.val * x.val := Nat.dvd_of_mod_eq_zero (Nat.sub_mod_eq_zero_of_mod_eq h2.symm)
    rw [← Nat.mul_sub] at h3
    have h4 : PP ∣ y.val - x.val := (Nat.Coprime.dvd_of_dvd_mul_left (pp_gcd a h) h3)
    have h5 := y.isLt
    apply Fin.ext
    by_cases h6 : y.val - x.val = 0
    · omega
    · have := Nat.le_of_dvd (by omega) h4
      omega
  rcases Nat.le_total b.val c.val with h2 | h2
  · exact lem b c h2 h1
  · exact (lem c b h2 h1.symm).symm

/-! ### Fermat -/
theorem perm_of {α : Type} [DecidableEq α] : ∀ (l m : List α), l.Nodup → (∀ x ∈ l, x ∈ m) → l.length = m.length → l.Perm m
  | [], m, _, _, h => by
    have : m = [] := List.eq_nil_of_length_eq_zero h.symm
    rw [this]
  | x :: l, m, hn, hs, hl => by
    have hx : x ∈ m := hs x (List.mem_cons_self ..)
    rw [List.nodup_cons] at hn
    refine List.Perm.trans (List.Perm.cons x (perm_of l (m.erase x) hn.2 (fun y hy => ?_) ?_)) (List.perm_cons_erase hx).symm
    · have hne : y ≠ x := fun e => hn.1 (e ▸ hy)
      exact (List.mem_erase_of_ne hne).2 (hs y (List.mem_cons_of_mem _ hy))
    · rw [List.length_erase_of_mem hx, ← hl, List.length_cons, Nat.add_sub_cancel]
def fprod (l : List Fp) : Fp := l.foldr (· * ·) 1
theorem fprod_cons (x : Fp) (l : List Fp) : fprod (x :: l) = x * fprod l := rfl
theorem fprod_perm {l m : List Fp} (h : l.Perm m) : fprod l = fprod m := by
  induction h with
  | nil => rfl
  | cons x _ ih => rw [fprod_cons, fprod_cons, ih]
  | swap x y l => rw [fprod_cons, fprod_cons, fprod_cons, fprod_cons, ← Fin.mul_assoc, ← Fin.mul_assoc, Fin.mul_comm y x]
  | trans _ _ h1 h2 => exact h1.trans h2
theorem fprod_scale (a : Fp) : ∀ l : List Fp, fprod (l.map (a * ·)) = rpow a l.length * fprod l
  | [] => by show (1 : Fp) = 1 * 1; rw [Fin.mul_one]
  | x :: l => by rw [List.map_cons, fprod_cons, fprod_cons, fprod_scale a l, List.length_cons, rpow_succ]; generalize rpow a l.length = u; generalize fprod l = v; grind
theorem f_mul_ne (a b : Fp) (ha : a ≠ 0) (hb : b ≠ 0) : a * b ≠ 0 := fun h => hb (f_cancel a b 0 ha (by rw [h, f_mul_zero]))
theorem fprod_ne : ∀ l : List Fp, (∀ x ∈ l, x ≠ 0) → fprod l ≠ 0
  | [], _ => by show (1 : Fp) ≠ 0; decide +kernel
  | x :: l, h => f_mul_ne x _ (h x (List.mem_cons_self ..)) (fprod_ne l fun y hy => h y (List.mem_cons_of_mem _ hy))
theorem units (n : Nat) [NeZero n] : ∃ U : List (Fin n), U.Nodup ∧ (∀ x : Fin n, x ∈ U ↔ x ≠ 0) ∧ U.length + 1 = n := by
  have hP : (0 : Fin n) ∈ List.finRange n := List.mem_finRange _
  refine ⟨(List.finRange n).erase 0, List.Nodup.erase _ (List.nodup_finRange n), fun x => ?_, ?_⟩
  · constructor
    · intro h e
      subst e
      exact List.Nodup.not_mem_erase (List.nodup_finRange n) h
    · intro h; exact (List.mem_erase_of_ne h).2 (List.mem_finRange _)
  · rw [List.length_erase_of_mem hP, List.length_finRange]
    have := NeZero.ne n
    omega
theorem fermat (a : Fp) (h : a ≠ 0) (N : Nat) (hN : N + 1 = PP) : rpow a N = 1 := by
  obtain ⟨U, h1, h2, h3⟩ := units PP
  obtain rfl : N = U.length := by omega
  have hp : (U.map (a * ·)).Perm U := by
    refine perm_of _ _ ?_ ?_ (by rw [List.length_map])
    · rw [List.Nodup, List.pairwise_map]
      exact h1.imp fun hne he => hne (f_cancel a _ _ h he)
    · intro x hx
      obtain ⟨y, hy, rfl⟩ := List.mem_map.1 hx
      exact (h2 _).2 (f_mul_ne a y h ((h2 y).1 hy))
  have e := fprod_perm hp
  rw [fprod_scale] at e
  have hne := fprod_ne U fun x hx => (h2 x).1 hx
  refine f_cancel (fprod U) _ _ hne ?_
  rw [Fin.mul_comm, e, Fin.mul_one]
def finv (a : Fp) : Fp := rpow a 18446744069414584319
theorem finv_mul (a : Fp) (h : a ≠ 0) : finv a * a = 1 := by
  unfold finv
  have h3 : (18446744069414584319 + 1) + 1 = PP := by decide +kernel
  generalize 18446744069414584319 = N at *
  rw [← rpow_succ]
  exact fermat a h _ h3
theorem finv_unique (a s : Fp) (h : s * a = 1) : s = finv a := by
  have h0 : a ≠ 0 := by
    rintro rfl
    rw [f_mul_zero] at h
    revert h
    decide +kernel
  refine f_cancel a _ _ h0 ?_
  rw [Fin.mul_comm a s, h, Fin.mul_comm a, finv_mul a h0]
theorem seven_half : ∃ N : Nat, N + N + 1 = PP ∧ rpow (7 : Fp) N = -1 := by
  refine ⟨2 ^ 31 * 4294967295, by decide +kernel, ?_⟩
  have e1 : rpow (7 : Fp) 4294967295 = Fin.ofNat PP hroot := by
    have h : ∀ (k : Nat) (a b : Fp), (b = 1 → sqi a k = rpow a (2 ^ k)) := fun k a b _ => sqi_pow k a
    have e2 : rpow (7 : Fp) (2 ^ 32) = rpow (7 : Fp) 4294967295 * 7 := by rw [← rpow_succ]
    rw [← sqi_pow] at e2
    refine f_cancel 7 _ _ (by decide +kernel) ?_
    rw [Fin.mul_comm, ← e2]
    decide +kernel
  rw [Nat.mul_comm, rpow_mul, e1, ← sqi_pow]
  decide +kernel
theorem no_square (c : Fp) : c * c ≠ 7 := fun h => by
  obtain ⟨N, h1, h2⟩ := seven_half
  have hc : c ≠ 0 := by
    rintro rfl
    rw [f_mul_zero] at h
    revert h
    decide +kernel
  have h3 := fermat c hc (2 * N) (by omega)
  rw [rpow_two, h, h2] at h3
  revert h3
  decide +kernel
theorem nrm_ne (x : E) (h : x ≠ 0) : nrm x ≠ 0 := fun hn => by
  unfold nrm at hn
  by_cases hb : x.b = 0
  · have ha : x.a ≠ 0 := fun ha => h (E.ext_ ha hb)
    rw [hb, f_mul_zero, f_mul_zero] at hn
    exact f_mul_ne _ _ ha ha (by grind)
  · refine no_square (x.a * finv x.b) ?_
    have e := finv_mul x.b hb
    generalize finv x.b = u at *
    generalize x.a = a at *
    generalize x.b = b at *
    have e2 : a * a = 7 * (b * b) := by grind
    calc a * u * (a * u) = (a * a) * (u * u) := by grind
      _ = 7 * (b * b) * (u * u) := by rw [e2]
      _ = 7 * (u * b) * (u * b) := by grind
      _ = 7 := by rw [e, Fin.mul_one, Fin.mul_one]
def einv (x : E) : E := cnj x * eb (finv (nrm x))
theorem einv_mul (x : E) (h : x ≠ 0) : einv x * x = 1 := inv_law x _ (finv_mul _ (nrm_ne x h))
theorem E.cancel (a b c : E) (h : a ≠ 0) (he : a * b = a * c) : b = c := by
  have h1 := einv_mul a h
  calc b = einv a * a * b := by rw [h1, E.one_mul]
    _ = einv a * (a * b) := by rw [E.mul_assoc]
    _ = einv a * (a * c) := by rw [he]
    _ = einv a * a * c := by rw [E.mul_assoc]
    _ = c := by rw [h1, E.one_mul]
theorem einv_unique (x s : E) (h : s * x = 1) : s = einv x := by
  have h0 : x ≠ 0 := by
    rintro rfl
    rw [E.mul_zero] at h
    revert h
    decide +kernel
  refine E.cancel x _ _ h0 ?_
  rw [E.mul_comm x s, h, E.mul_comm x, einv_mul x h0]
end Go.Proofs.YtficeebbbkmhcaaGreatDoor
namespace Go.Proofs.YtficeebbbkmhcaaGreatDoor

def bindL : List E → E → List E
  | x :: y :: t, r => (x + r * (y - x)) :: bindL t r
  | _, _ => []
def evalL : List E → List E → List E
  | t, [] => t
  | t, r :: p => evalL (bindL t r) p
theorem bindL_length (r : E) : ∀ (n : Nat) (t : List E), t.length = 2 * n → (bindL t r).length = n
  | 0, [], _ => rfl
  | n + 1, x :: y :: t, h => by
    show (bindL t r).length + 1 = n + 1
    rw [bindL_length r n t (by simp only [List.length_cons] at h; omega)]
  | 0, _ :: _, h => by simp at h
  | n + 1, [], h => by simp at h
  | n + 1, [_], h => by simp at h; omega
theorem bindL_get (r : E) : ∀ (i : Nat) (t : List E) (x y : E), t[2 * i]? = some x → t[2 * i + 1]? = some y → (bindL t r)[i]? = some (x + r * (y - x))
  | 0, a :: b :: t, x, y, hx, hy => by
    simp at hx hy; subst hx; subst hy; rfl
  | i + 1, a :: b :: t, x, y, hx, hy => by
    show (bindL t r)[i]? = _
    refine bindL_get r i t x y ?_ ?_
    · rw [show 2 * (i + 1) = 2 * i + 1 + 1 by omega] at hx; simpa using hx
    · rw [show 2 * (i + 1) + 1 = 2 * i + 1 + 1 + 1 by omega] at hy; simpa using hy
  | 0, [], x, y, hx, _ => by simp at hx
  | 0, [_], x, y, _, hy => by simp at hy
  | i + 1, [], x, y, hx, _ => by simp at hx
  | i + 1, [_], x, y, hx, _ => by rw [show 2 * (i + 1) = 2 * i + 1 + 1 by omega] at hx; simp at hx
theorem evalL_length : ∀ (p t : List E), t.length = 2 ^ p.length → (evalL t p).length = 1
  | [], t, h => by simpa [evalL] using h
  | r :: p, t, h => by
    rw [evalL]
    refine evalL_length p _ (bindL_length r _ t ?_)
    rw [h, List.length_cons, Nat.pow_succ']
def mev (t p : List E) : E := (evalL t p).headD 0
theorem evalL_mev {p t : List E} (h : t.length = 2 ^ p.length) : evalL t p = [mev t p] := by
  have := evalL_length p t h
  unfold mev
  match evalL t p, this with
  | [x], _ => rfl
end Go.Proofs.YtficeebbbkmhcaaGreatDoor
namespace Go.Proofs.YtficeebbbkmhcaaGreatDoor

section
variable {α : Type}
theorem esum_add (f g : α → E) : ∀ l : List α, esum (l.map fun x => f x + g x) = esum (l.map f) + esum (l.map g)
  | [] => by simp only [List.map_nil, esum, E.add_zero]
  | x :: l => by
    simp only [List.map_cons, esum]
    rw [esum_add f g l]
    generalize esum (l.map f) = a
    generalize esum (l.map g) = b
    apply E.ext_ <;> simp only [add_a, add_b] <;> grind
end
end Go.Proofs.YtficeebbbkmhcaaGreatDoor
namespace Go.Proofs.YtficeebbbkmhcaaGreatDoor

theorem E.sub_self_add (x y : E) : y + (x - y) = x := by apply E.ext_ <;> simp only [sub_a, sub_b, add_a, add_b] <;> grind
theorem esum_pairs (f : Nat → E) : ∀ n, esum ((List.range (2 * n)).map f) = esum ((List.range n).map fun i => f (2 * i) + f (2 * i + 1))
  | 0 => rfl
  | n + 1 => by
    rw [show 2 * (n + 1) = 2 * n + 1 + 1 by omega, List.range_succ, List.range_succ, List.range_succ, List.map_append, List.map_append, List.map_append, esum_append, esum_append, esum_append, esum_pairs f n, E.add_assoc]
    congr 1
    show f (2 * n) + 0 + (f (2 * n + 1) + 0) = f (2 * n) + f (2 * n + 1) + 0
    rw [E.add_zero, E.add_zero, E.add_zero]
/-! ### Finite differences -/
end Go.Proofs.YtficeebbbkmhcaaGreatDoor
namespace Go.Proofs.YtficeebbbkmhcaaGreatDoor
open Go Go.RowKit

def wpListC (P : Program) (ops : Array Oper) (Q : Exit → Act → World → Prop) (C : World → Prop) : List Oper → Act → World → Prop
  | [], a, w => Q .normal a w
  | o :: l, a, w => o.guard = none ∧ o.wp P a w (fun a' w' => C w' ∧ wpListC P ops Q C l a' w') Q
def loadish (o : Oper) : Bool := match o.op with | .move _ => true | .load .. => true | .fieldAddr .. => true | .indexAddr .. => true | .convert .. => true | .binOp .. => true | .call { callee := .builtin .len, .. } => true | _ => false
theorem bind_noSkip {P : Program} {w w' : World} (s : Sem Value) : (do pure (Next.value (← s)) : Sem Next).run P w ≠ .ok .skip w' := by
  simp only [Sem.run_bind]
  cases s.run P w <;> simp [Result.andThen]
theorem loadish_noSkip {P : Program} {o : Oper} {ρ : Operand → Value} {w w' : World} (h : loadish o = true) : (execOp ρ o).run P w ≠ .ok .skip w' := by
  obtain ⟨dst, op, type, pos, after, guard⟩ := o
  cases op <;> simp only [loadish, Bool.false_eq_true] at h
  case move x => simp [execOp]
  case call c =>
    obtain ⟨cal, ags, ats⟩ := c
    cases cal with
    | value f => simp at h
    | invoke r m => simp at h
    | builtin b =>
      cases b <;> simp only [Bool.false_eq_true] at h
      simp only [execOp, resolve, Sem.run_bind, Sem.run_pure, Result.andThen, invoke, builtin]
      cases (Sem.run P (Builtin.len_ ats type (Array.map ρ ags)) w) <;> simp
  all_goals exact bind_noSkip _
def sinkL (ops : Array Oper) (n : Nat) (L : List Nat) : Bool := (List.range n).all fun i => L.contains i || (List.range (n + 1)).any fun j => decide (i < j) && Region.waitsFor .any ops j i
def lateB (ops : Array Oper) (n : Nat) : List Nat → Array Bool → Bool
  | [], _ => true
  | i :: L, listed => decide (i < n) && (Region.ready .any ops listed).contains i && Region.free .any ops listed i && (match ops[i]? with | some o => loadish o && o.guard.isNone | none => false) && lateB ops n L (listed.setIfInBounds i true)
def rgLB (ops : Array Oper) (n : Nat) (L : List Nat) : Bool :=
  let B := befores ops.toList []
  ops.toList.all noDefer && Region.noSelect ops && decide (n ≤ ops.size) && (List.range n).all (headB ops n B) && sinkL ops n L && Region.chainB .any ops n &&
    Region.seqB .any ops (ops.size - n) n (firstN n ops.size) && lateB ops n L (Array.replicate ops.size false)

section
variable {P : Program} {ops : Array Oper} {n : Nat} {B : List Nat} {Sp : List (Nat × Spec)} {C : World → Prop} {N0 : Nat} {a0 : Act}
theorem listed_both {listed : Array Bool} {i : Nat} (h : listed.getD i true = false) : listed.getD i false = false := by
  rcases Nat.lt_or_ge i listed.size with h' | h'
  · simp [h'] at h ⊢; exact h
  · simp [Array.getElem?_eq_none h'] at h
theorem tail_waitsL {L : List Nat} {listed : Array Bool} (hs : sinkL ops n L = true) (hc : Region.chainB .any ops n = true) (hn : n < ops.size) (inv : HeadInv .any ops n listed) (hL : ∀ i ∈ L, i < n → listed.getD i true = true) :
    ∀ (d i : Nat), n - i = d → i < n → listed.getD i true = false → ∀ t, n ≤ t → t ∉ Region.ready .any ops listed := by
  intro d
  induction d using Nat.strongRecOn with
  | _ d ih =>
    intro i hd hi hun t ht hr
    obtain ⟨_, ot, hot, hall⟩ := mem_ready.1 hr
    have htlt : t < ops.size := (Array.getElem?_eq_some_iff.1 hot).1
    have h1 := List.all_eq_true.1 hs i (List.mem_range.2 hi)
    have hiL : ¬ i ∈ L := fun h => by have := hL i h hi; rw [this] at hun; cases hun
    simp only [Bool.or_eq_true, List.contains_iff_mem, hiL, false_or, List.any_eq_true, List.mem_range, Bool.and_eq_true, decide_eq_true_eq] at h1
    obtain ⟨j, hj, hij, hw⟩ := h1
    obtain ⟨oj, hoj, e, he, hb, hon⟩ := Region.waitsFor_spec hw
    by_cases hjn : j = n
    · subst hjn
      by_cases htj : t = j
      · subst htj
        obtain rfl : ot = oj := Option.some.inj (hot.symm.trans hoj)
        have := hall e he hb
        rw [hon, listed_both hun] at this
        cases this
      · have h2 := List.all_eq_true.1 hc t (List.mem_range.2 htlt)
        simp only [Bool.or_eq_true, decide_eq_true_eq] at h2
        rcases h2 with h2 | h2
        · omega
        · obtain ⟨o2, ho2, e2, he2, hb2, hon2⟩ := Region.waitsFor_spec h2
          obtain rfl : ot = o2 := Option.some.inj (hot.symm.trans ho2)
          have := hall e2 he2 hb2
          rw [hon2, listed_both (inv.tail (t - 1) (by omega) (by omega))] at this
          cases this
    · have hjun : listed.getD j true = false := by
        cases hjl : listed.getD j false with
        | true =>
          have := inv.closed j oj hoj hjl e he hb
          rw [hon, listed_both hun] at this
          cases this
        | false =>
          have hjs : j < listed.size := by rw [inv.size]; omega
          simp [hjs] at hjl ⊢
          exact hjl
      exact ih (n - j) (by omega) j rfl (by omega) hjun t ht hr
theorem wpAnyH_of_seq {Q : Exit → Act → World → Prop} : ∀ (l : List Oper) (k : Nat) (listed : Array Bool) (a : Act) (w : World), (∀ j, l[j]? = ops[k + j]?) →
    Region.seqB .any ops l.length k listed = true → wpListC P ops Q C l a w → wpAnyH P .any ops Q C l.length listed a w
  | [], _, _, _, _, _, hB, h => ⟨by simpa [Region.seqB] using hB, h⟩
  | o :: l, k, listed, a, w, hl, hB, h => by
    have h0 : ops[k]? = some o := by simpa using (hl 0).symm
    simp only [List.length_cons, Region.seqB, Bool.and_eq_true, decide_eq_true_eq] at hB
    refine ⟨fun h1 => (by rw [hB.1] at h1; cases h1), fun i hi => ?_⟩
    rw [hB.1] at hi
    have hik : i = k := by simpa using hi
    subst hik
    have hwant : Region.wanted o (yielded ops a.tmps) = true := by unfold Region.wanted; rw [h.1]
    unfold wpOp
    simp only [h0, if_pos hwant]
    exact .inl (Oper.wp_mono (fun a' w' h' => ⟨h'.1, wpAnyH_of_seq l (i + 1) _ a' w' (fun j => by have := hl (j + 1); simpa [Nat.add_assoc, Nat.add_comm 1 j] using this) hB.2 h'.2⟩) h.2)

theorem anyH_of_good {Q : Exit → Act → World → Prop} {L : List Nat} (hst : ∀ i A F, specOf Sp i = some (.rel A F) → Fit A F) (hns : ∀ i u, specOf Sp i ≠ some (.skip u)) (hC : ∀ w w', C w → Below w.heap.size w w' → C w') (hN : ∀ w, C w → N0 ≤ w.heap.size)
    (hnd : ∀ (k : Nat) (o : Oper), ops[k]? = some o → noDefer o = true) (hle : n ≤ ops.size) (H : ∀ k, k < n → ∃ o d, HeadOk ops n B k o d) (hsink : sinkL ops n L = true) (hchain : Region.chainB .any ops n = true) (hseq : Region.seqB .any ops (ops.size - n) n (firstN n ops.size) = true)
    (hsz : ∀ (k : Nat) (d : Tmp), k < n → dstOf ops k = some d → d < a0.tmps.size)
    (htree : wpRg P ops B Sp C N0 (fun a w => wpListC P ops Q C (ops.toList.drop n) a w) (ops.toList.take n) 0 a0 [] []) :
    ∀ (f : Nat) (listed : Array Bool) (a : Act) (w : World) (r : Nat → Nat × Nat), unl n listed = f → (∀ i ∈ L, i < n → listed.getD i true = true) → HeadInv .any ops n listed → Good P ops n Sp C N0 a0 listed a w r → wpAnyH P .any ops Q C (f + (ops.size - n)) listed a w := by
  intro f
  induction f with
  | zero =>
    intro listed a w r hf hLl inv hG
    have hall : ∀ k, k < n → listed.getD k false = true := fun k hk => by
      have h1 := unl_zero hf k hk
      have h2 : k < listed.size := by rw [inv.size]; omega
      simp [h2] at h1 ⊢
      exact h1
    have hfin := good_end hst hns hN hnd H hsz hle htree hG hall
    have hls := firstN_of inv.size hf inv.tail
    have hdl : (ops.toList.drop n).length = ops.size - n := by simp
    have := wpAnyH_of_seq (Q := Q) (ops.toList.drop n) n listed a w (fun j => by simp [List.getElem?_drop]) (by rw [hdl, hls]; exact hseq) hfin
    rw [hdl] at this
    rw [Nat.zero_add]
    exact this
  | succ f ih =>
    intro listed a w r hf hLl inv hG
    rw [show f + 1 + (ops.size - n) = (f + (ops.size - n)) + 1 by omega]
    have hex : ∃ i, i < n ∧ listed.getD i true = false := by
      refine Classical.byContradiction fun hno => ?_
      have : unl n listed = 0 := List.countP_eq_zero.2 fun i hi => by
        have hi' := List.mem_range.1 hi
        cases hd : listed.getD i true with
        | true => simp
        | false => exact absurd ⟨i, hi', hd⟩ hno
      omega
    obtain ⟨i0, hi0, hun0⟩ := hex
    obtain ⟨j0, _, hj0⟩ := ready_head H inv.size hle i0 hi0 hun0
    refine ⟨fun h0 => (by rw [h0] at hj0; cases hj0), fun i hi => ?_⟩
    obtain ⟨hun, oi, hoi, _⟩ := mem_ready.1 hi
    have hin : i < n := by
      rcases Nat.lt_or_ge i n with h | h
      · exact h
      · have hlt : i < ops.size := (Array.getElem?_eq_some_iff.1 hoi).1
        exact absurd hi (tail_waitsL hsink hchain (by omega) inv hLl _ i0 rfl hi0 hun0 i h)
    obtain ⟨o, d, h⟩ := H i hin
    have hs := good_step hst hns hC hN hnd H hsz hle htree hG inv hin h hi
    have hisz : i < listed.size := by rw [inv.size]; omega
    have hunl := unl_set hisz hun n hin
    have next : ∀ a' w', (∃ r', Good P ops n Sp C N0 a0 (listed.setIfInBounds i true) a' w' r') → C w' ∧ wpAnyH P .any ops Q C (f + (ops.size - n)) (listed.setIfInBounds i true) a' w' :=
      fun a' w' ⟨r', hG'⟩ => ⟨hG'.c, ih _ a' w' r' (by omega) (fun k hk hkn => by
        by_cases hik : i = k
        · subst hik; simp [hisz]
        · rw [getD_set_ne true hik]; exact hLl k hk hkn) (inv.set hi hin) hG'⟩
    unfold wpOp
    simp only [h.op]
    by_cases hw : Region.wanted o (yielded ops a.tmps) = true
    · rw [if_pos hw] at hs ⊢
      exact .inl (wp_of_step (stepAt_mono (fun v w' hv => next _ _ hv) hs))
    · rw [if_neg hw] at hs ⊢
      exact next _ _ hs

theorem good_late {Fin : Act → World → Prop} (hst : ∀ i A F, specOf Sp i = some (.rel A F) → Fit A F) (hns : ∀ i u, specOf Sp i ≠ some (.skip u)) (hC : ∀ w w', C w → Below w.heap.size w w' → C w') (hN : ∀ w, C w → N0 ≤ w.heap.size)
    (hnd : ∀ (k : Nat) (o : Oper), ops[k]? = some o → noDefer o = true) (H : ∀ k, k < n → ∃ o d, HeadOk ops n B k o d) (hsz : ∀ (k : Nat) (d : Tmp), k < n → dstOf ops k = some d → d < a0.tmps.size)
    (hn : n ≤ ops.size) (htree : wpRg P ops B Sp C N0 Fin (ops.toList.take n) 0 a0 [] [])
    {listed : Array Bool} {a : Act} {w : World} {r : Nat → Nat × Nat} (hG : Good P ops n Sp C N0 a0 listed a w r) (inv : HeadInv .any ops n listed)
    {i : Nat} {o : Oper} {d : Tmp} (hi : i < n) (h : HeadOk ops n B i o d) (hr : i ∈ Region.ready .any ops listed) (hs : specOf Sp i = none) (hlo : loadish o = true) (hg : o.guard = none) :
    ∃ v, YieldsIf P ops C o v a ∧ ∃ r', Good P ops n Sp C N0 a0 (listed.setIfInBounds i true) (a.put o.dst v) w r' := by
  obtain ⟨hun, o', ho', hall⟩ := mem_ready.1 hr
  obtain rfl : o = o' := Option.some.inj (h.op.symm.trans ho')
  have hdi : dstOf ops i = some d := by unfold dstOf; rw [h.op]; exact h.dst
  have hlt : d < a.tmps.size := by rw [hG.size]; exact hsz i d hi hdi
  have hPl : ∀ k, k < n → isBefore B k i = true → listed.getD k false = true := fun k _ hk =>
    before_listed H inv hi (fun o2 ho2 e he hb => by
      obtain rfl : o = o2 := Option.some.inj (h.op.symm.trans ho2)
      exact hall e he hb) k hk
  have hPb : ∀ k j, k < n → isBefore B k i = true → isBefore B j k = true → isBefore B j i = true := fun k j _ h1 h2 => before_trans H hi k j h1 h2
  have htl : (ops.toList.take n).length = n := by simp; omega
  obtain ⟨l', b, G, rs, hl1, hl2, R, hw⟩ := descend hnd H hsz hG hPl hPb hst (fun k u h => absurd h (hns k u)) hN (Nat.le_of_lt hi) (ops.toList.take n) 0 a0 [] [] (Nat.zero_le _) (by rw [htl]; omega)
    (fun j hj => by rw [htl] at hj; simp [hj]) ⟨rfl, rfl, fun _ _ => rfl, fun j hj => absurd hj (by omega), fun φ hφ => (by cases hφ), fun ρ hρ => (by cases hρ), fun φ hφ => (by cases hφ)⟩ htree
  have hag : ∀ t ∈ o.looksAt ops, b.tmps[t]? = a.tmps[t]? := rel_agree H hG hi (fun j hj => hj) h R
  have hex := exec_agree (hnd i o h.op) hag
  have hwa : Region.wanted o (yielded ops b.tmps) = true := by unfold Region.wanted; rw [hg]
  have hwant : Region.wanted o (yielded ops a.tmps) = true := by unfold Region.wanted; rw [hg]
  have hself : ∀ v, ∀ t ∈ o.looksAt ops, (a.put o.dst v).tmps[t]? = a.tmps[t]? := fun v t ht => by
    rw [h.dst]
    refine put_ne fun e => ?_
    subst e
    have := before_lt H hi i (h.wr t ht i hi hdi)
    omega
  have hself2 : ∀ v, execOp (a.put o.dst v).eval o = execOp a.eval o := fun v => exec_agree (hnd i o h.op) (hself v)
  have hself3 : ∀ v, Region.wanted o (yielded ops (a.put o.dst v).tmps) = Region.wanted o (yielded ops a.tmps) := fun v => wanted_agree (hself v)
  have hval : ∀ v, (a.put o.dst v).tmps.getD d undef = v := fun v => by rw [h.dst]; exact put_getD hlt
  cases l' with
  | nil => simp only [List.length_nil] at hl1; omega
  | cons o2 l' =>
    have : o2 = o := by
      have := hl2 0 (by simp)
      rw [Nat.add_zero, h.op] at this
      simpa using this
    subst this
    unfold wpRg at hw
    rw [if_pos hwa, hs] at hw
    obtain ⟨hcalm, v, hv, _⟩ := hw
    have hq : ∀ w, C w → o2.quietAt P a C w v := fun w hw => quietAt_same hex.symm (hv w hw)
    refine ⟨v, .inl ⟨hwant, fun w' hw' => ?_⟩, _, good_next hst hC hN hnd H hsz hG inv hi h hun (Below.refl _ _) (fun r' _ => ⟨fun e => ?_, fun _ _ => ⟨hcalm, w, hG.c, ?_⟩, fun _ u' hs' => ?_, fun _ A F hs' => ?_⟩)⟩
    · have hq' := hq w' hw'
      unfold Oper.quietAt at hq'
      have n1 := fun f args w2 => calm_noEnter (P := P) (ρ := a.eval) (w := w') (f := f) (args := args) (w' := w2) hcalm
      have n2 := fun w2 => loadish_noSkip (P := P) (ρ := a.eval) (w := w') (w' := w2) hlo
      generalize (execOp a.eval o2).run P w' = res at *
      cases res with
      | ok x w2 =>
        cases x <;> simp only [Oper.quietUpon] at hq'
        case value z => obtain ⟨rfl, rfl⟩ := hq'; rfl
        case skip => exact absurd rfl (n2 w2)
        case enter f args => exact absurd rfl (n1 f args w2)
      | halt x w2 => simp only [Oper.quietUpon] at hq'
    · rw [hself3, hwant] at e; cases e
    · rw [hval]; exact quietAt_same (hself2 _) (hq w hG.c)
    · rw [hs] at hs'; cases hs'
    · rw [hs] at hs'; cases hs'

theorem late_take {L0 : List Nat} {Q : Exit → Act → World → Prop} {Fin : Act → World → Prop} (hst : ∀ i A F, specOf Sp i = some (.rel A F) → Fit A F) (hns : ∀ i u, specOf Sp i ≠ some (.skip u)) (hC : ∀ w w', C w → Below w.heap.size w w' → C w') (hN : ∀ w, C w → N0 ≤ w.heap.size)
    (hnd : ∀ (k : Nat) (o : Oper), ops[k]? = some o → noDefer o = true) (hsel : Region.noSelect ops = true) (H : ∀ k, k < n → ∃ o d, HeadOk ops n B k o d) (hsz : ∀ (k : Nat) (d : Tmp), k < n → dstOf ops k = some d → d < a0.tmps.size)
    (hn : n ≤ ops.size) (htree : wpRg P ops B Sp C N0 Fin (ops.toList.take n) 0 a0 [] []) (hQ : ∀ c (a : Act) d v w, Q (.panic c) (a.put d v) w → Q (.panic c) a w)
    (fin : ∀ (listed : Array Bool) (a : Act) (w : World) (r : Nat → Nat × Nat), HeadInv .any ops n listed → Good P ops n Sp C N0 a0 listed a w r → (∀ i, i ∈ L0 → i < n → listed.getD i true = true) → wpAnyH P .any ops Q C (unl n listed + (ops.size - n)) listed a w) :
    ∀ (L : List Nat) (listed : Array Bool) (a : Act) (w : World) (r : Nat → Nat × Nat), HeadInv .any ops n listed → Good P ops n Sp C N0 a0 listed a w r → lateB ops n L listed = true → (∀ i ∈ L, specOf Sp i = none) → (∀ i ∈ L0, i < n → i ∈ L ∨ listed.getD i true = true) →
      wpAnyH P .any ops Q C (unl n listed + (ops.size - n)) listed a w
  | [], listed, a, w, r, inv, hG, _, _, hl => fin listed a w r inv hG fun i hi hin => (hl i hi hin).resolve_left (by simp)
  | i :: L, listed, a, w, r, inv, hG, hB, hs, hl => by
    simp only [lateB, Bool.and_eq_true, decide_eq_true_eq] at hB
    obtain ⟨⟨⟨⟨h1, h2⟩, h3⟩, h4⟩, h5⟩ := hB
    have hr : i ∈ Region.ready .any ops listed := by simpa using h2
    obtain ⟨o, d, h⟩ := H i h1
    rw [h.op] at h4
    simp only [Bool.and_eq_true, Option.isNone_iff_eq_none] at h4
    obtain ⟨v, hy, r', hG'⟩ := good_late hst hns hC hN hnd H hsz hn htree hG inv h1 h hr (hs i (List.mem_cons_self ..)) h4.1 h4.2
    have hun := (mem_ready.1 hr).1
    have hisz : i < listed.size := by rw [inv.size]; omega
    have hunl := unl_set hisz hun n h1
    rw [← hunl, show unl n (listed.setIfInBounds i true) + 1 + (ops.size - n) = (unl n (listed.setIfInBounds i true) + (ops.size - n)) + 1 by omega]
    refine wpAnyH_take h.op hsel h3 h2 (fun c a w => hQ c a _ _ w) hy hG.c ?_
    refine late_take hst hns hC hN hnd hsel H hsz hn htree hQ fin L _ _ w r' (inv.set hr h1) hG' h5 (fun k hk => hs k (List.mem_cons_of_mem _ hk)) fun k hk hkn => ?_
    by_cases hik : i = k
    · subst hik; exact .inr (by simp [hisz])
    · rcases hl k hk hkn with h | h
      · rcases List.mem_cons.1 h with h | h
        · exact absurd h.symm hik
        · exact .inl h
      · exact .inr (by rw [getD_set_ne true hik]; exact h)
end

theorem wp_region_late {P : Program} {id : Nat} {l : List Oper} {Q : Exit → Act → World → Prop} {a : Act} {W : World} (n : Nat) (L : List Nat) (Sp : List (Nat × Spec)) (hm : P.follows .mixedOrders = true) (hB : rgLB l.toArray n L = true) (hz : sizesB l.toArray n a.tmps.size = true) (hs : (L.all fun i => (specOf Sp i).isNone) = true)
    (hQ : ∀ c (a : Act) d v w, Q (.panic c) (a.put d v) w → Q (.panic c) a w)
    (st : stables Sp) (walk : wpRg P l.toArray (befores l []) Sp (Grw W) W.heap.size (fun a' w' => wpListC P l.toArray Q (Grw W) (l.drop n) a' w') (l.take n) 0 a [] []) : (Code.region id l.toArray true).wp P Q a W := by
  refine wp_region_any hm ?_
  unfold rgLB at hB
  simp only [Bool.and_eq_true, decide_eq_true_eq] at hB
  obtain ⟨⟨⟨⟨⟨⟨⟨h1, h2⟩, h3⟩, h4⟩, h5⟩, h6⟩, h7⟩, h8⟩ := hB
  have hnd : ∀ (k : Nat) (o : Oper), l.toArray[k]? = some o → noDefer o = true := fun k o ho => List.all_eq_true.1 h1 o (by
    have : l[k]? = some o := by simpa using ho
    exact List.mem_of_getElem? this)
  have hH : ∀ k, k < n → ∃ o d, HeadOk l.toArray n (befores l []) k o d := fun k hk => headOk_of (List.all_eq_true.1 h4 k (List.mem_range.2 hk))
  have h0 : unl n (Array.replicate l.toArray.size false) = n := by
    unfold unl
    have : (List.range n).countP (fun i => !(Array.replicate l.toArray.size false).getD i true) = (List.range n).length := List.countP_eq_length.2 fun i hi => by
      have hi' := List.mem_range.1 hi
      have h1 : i < l.length := by simp only [List.size_toArray] at h3; omega
      simp [h1]
    rw [this, List.length_range]
  have inv0 : HeadInv .any l.toArray n (Array.replicate l.toArray.size false) :=
    ⟨by simp, fun j oj _ hl => (by rw [getD_replicate_false] at hl; cases hl), fun t _ ht => getD_in (by simpa using ht) (getD_replicate_false _ _)⟩
  have hst := stables_spec st
  have walk' : wpRg P l.toArray (befores l []) Sp (Grw W) W.heap.size (fun a' w' => wpListC P l.toArray Q (Grw W) (l.toArray.toList.drop n) a' w') (l.toArray.toList.take n) 0 a [] [] := by simpa using walk
  have fin := fun (listed : Array Bool) (a' : Act) (w' : World) (r : Nat → Nat × Nat) (inv : HeadInv .any l.toArray n listed) (hG : Good P l.toArray n Sp (Grw W) W.heap.size a listed a' w' r) (hl : ∀ i, i ∈ L → i < n → listed.getD i true = true) =>
    anyH_of_good (P := P) (Q := Q) (L := L) hst (stables_ns st) (fun w w' h h' => grw_next h h') (fun w h => (grw_below h).size) hnd h3 hH h5 h6 h7 (a0 := a) (sizesB_spec hz) walk' (unl n listed) listed a' w' r rfl hl inv hG
  have := late_take (P := P) (Q := Q) (L0 := L) hst (stables_ns st) (fun w w' h h' => grw_next h h') (fun w h => (grw_below h).size) hnd h2 hH (a0 := a) (sizesB_spec hz) h3 walk' hQ fin L _ a { W with drawn := W.drawn + 1 } (fun _ => (0, 0)) inv0
    ⟨grw_of (Below.refl _ W).drew, rfl, rfl, fun _ _ => rfl, fun k o d _ _ _ hl => (by rw [getD_replicate_false] at hl; cases hl), fun k j _ _ _ hl => (by rw [getD_replicate_false] at hl; cases hl)⟩ h8
    (fun i hi => by simpa using List.all_eq_true.1 hs i hi) (fun i hi _ => .inl hi)
  rw [h0, show n + (l.toArray.size - n) = l.toArray.size by omega] at this
  exact wpAny_of_held _ _ _ _ this
theorem wpListC_assign {P : Program} {ops : Array Oper} {rest : List Oper} {o : Oper} {a : Act} {W0 w : World} {Q : Exit → Act → World → Prop} (hgd : o.guard = none) (x : Operand) (ho : o.op = .assign x) (hw : Grw W0 w) (h : wpListC P ops Q (Grw W0) rest (a.put o.dst (a.eval x)) w) : wpListC P ops Q (Grw W0) (o :: rest) a w :=
  ⟨hgd, wp_of_step (by unfold stepAt; rw [BigFrame.run_assign x ho]; exact ⟨hw, h⟩)⟩
theorem wpListC_assignU {P : Program} {ops : Array Oper} {rest : List Oper} {o : Oper} {a : Act} {W0 w : World} {Q : Exit → Act → World → Prop} (u : Value) (hgd : o.guard = none) (x : Operand) (ho : o.op = .assign x) (hw : Grw W0 w) (hx : a.eval x = u) (h : ∀ a', a' = a.put o.dst u → wpListC P ops Q (Grw W0) rest a' w) : wpListC P ops Q (Grw W0) (o :: rest) a w :=
  wpListC_assign hgd x ho hw (by rw [hx]; exact h _ rfl)
theorem wpListC_nil {P : Program} {ops : Array Oper} {a : Act} {W0 w : World} {Q : Exit → Act → World → Prop} (h : wpList P ops Q [] a w) : wpListC P ops Q (Grw W0) [] a w := h
end Go.Proofs.YtficeebbbkmhcaaGreatDoor
