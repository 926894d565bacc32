/-
  Plain mathematics, no program: the steps of Euclid's algorithm in the prime field.
  Plain mathematics, no program: the modulus is prime, Fermat's little theorem, seven is no square; so every element but zero has an inverse.
  Multilinear extensions: what the functions of chapter 05 compute, and its laws.
  Laws of the multilinear extension: sums, vertices, joined points, affine coordinates.
  Laws of the multilinear extension: weights, equality, streaming, sums of a table.
-/
import Derived.Test.YtkgglhakimkkhaaGreatDoorEn
import Derived.Test.YtkgglhakimkkhaaGreatDoorWt2
namespace Go.Proofs.YtkgglhakimkkhaaGreatDoor
def fn (k : Nat) : Fp := Fin.ofNat PP k
theorem fv_fn (k : Nat) : fv (fn k) = (k : Int) % 18446744069414584321 := by
  unfold fv fn; rw [Fin.val_ofNat]; unfold PP; omega
theorem fn_val (a : Fp) : fn a.val = a := by
  apply Fin.ext; unfold fn; rw [Fin.val_ofNat]; exact Nat.mod_eq_of_lt a.isLt
theorem fn_add (a b : Nat) : fn (a + b) = fn a + fn b := by
  apply fv_inj; rw [fv_add, fv_fn, fv_fn, fv_fn]; omega
theorem fn_mul (a b : Nat) : fn (a * b) = fn a * fn b := by
  apply fv_inj; rw [fv_mul, fv_fn, fv_fn, fv_fn, Int.natCast_mul, Int.mul_emod]
theorem fn_one : fn 1 = 1 := rfl
theorem fn_PP : fn 18446744069414584321 = 0 := by apply fv_inj; rw [fv_fn]; rfl
theorem euclid_step {a s t : Fp} {r n : Nat} (h1 : fn r = s * a) (h2 : fn n = t * a) : fn (r % n) = (s - fn (r / n) * t) * a := by
  have h : fn (n * (r / n) + r % n) = fn n * fn (r / n) + fn (r % n) := by rw [fn_add, fn_mul]
  rw [Nat.div_add_mod, h1, h2] at h
  grind
theorem gcd_step (r n : Nat) (h : Nat.gcd r n = 1) : Nat.gcd n (r % n) = 1 := by
  rw [Nat.gcd_comm, ← Nat.gcd_rec, Nat.gcd_comm]; exact h
def nrm (x : E) : Fp := x.a * x.a - 7 * (x.b * x.b)
def cnj (x : E) : E := ⟨x.a, 0 - x.b⟩
theorem inv_law (x : E) (c : Fp) (h : c * nrm x = 1) : (cnj x * eb c) * x = 1 := by
  unfold nrm at h
  rw [mul_eb]
  unfold cnj
  apply E.ext_ <;> simp only [mul_a, mul_b, one_a, one_b] <;> grind
end Go.Proofs.YtkgglhakimkkhaaGreatDoor
namespace Go.Proofs.YtkgglhakimkkhaaGreatDoor

/-! ### Powers -/
def rpow {n : Nat} [NeZero n] (a : Fin n) : Nat → Fin n
  | 0 => 1
  | k + 1 => rpow a k * a
section
variable {n : Nat} [NeZero n]
theorem rpow_zero (a : Fin n) : rpow a 0 = 1 := rfl
theorem rpow_succ (a : Fin n) (k : Nat) : rpow a (k + 1) = rpow a k * a := rfl
theorem rpow_add (a : Fin n) (j : Nat) : ∀ k, rpow a (j + k) = rpow a j * rpow a k
  | 0 => by rw [Nat.add_zero, rpow_zero, Fin.mul_one]
  | k + 1 => by rw [← Nat.add_assoc, rpow_succ, rpow_succ, rpow_add a j k, Fin.mul_assoc]
theorem rpow_one (k : Nat) : rpow (1 : Fin n) k = 1 := by
  induction k with
  | zero => rfl
  | succ k ih => rw [rpow_succ, ih, Fin.mul_one]
theorem rpow_mul (a : Fin n) (j : Nat) : ∀ k, rpow a (j * k) = rpow (rpow a j) k
  | 0 => by rw [Nat.mul_zero]; rfl
  | k + 1 => by rw [Nat.mul_succ, rpow_add, rpow_mul a j k, rpow_succ]
theorem rpow_two (a : Fin n) (k : Nat) : rpow a (2 * k) = rpow (a * a) k := by
  rw [rpow_mul]
  congr 1
  show rpow a 1 * a = a * a
  show (1 * a) * a = a * a
  rw [Fin.one_mul]
theorem rpow_odd (a : Fin n) (k : Nat) : rpow a (2 * k + 1) = rpow (a * a) k * a := by rw [rpow_succ, rpow_two]
def sqi (a : Fin n) : Nat → Fin n
  | 0 => a
  | k + 1 => sqi (a * a) k
theorem sqi_pow : ∀ (k : Nat) (a : Fin n), sqi a k = rpow a (2 ^ k)
  | 0, a => by show a = 1 * a; rw [Fin.one_mul]
  | k + 1, a => by rw [sqi, sqi_pow k, ← rpow_two, Nat.pow_succ']
end
/-! ### Pigeonholes -/
theorem pigeon : ∀ (n m : Nat) (f : Nat → Nat), (∀ i, i < n → f i < m) → (∀ i j, i < n → j < n → f i = f j → i = j) → n ≤ m
  | 0, _, _, _, _ => Nat.zero_le _
  | n + 1, 0, f, h, _ => absurd (h 0 (Nat.succ_pos _)) (Nat.not_lt_zero _)
  | n + 1, m + 1, f, h, hi => by
    refine Nat.succ_le_succ (pigeon n m (fun i => if f i = m then f n else f i) (fun i hin => ?_) (fun i j hin hjn he => ?_))
    · have h1 := h i (by omega)
      have h2 := h n (by omega)
      have h3 := hi i n (by omega) (by omega)
      split <;> omega
    · have h1 := hi i j (by omega) (by omega)
      have h2 := hi i n (by omega) (by omega)
      have h3 := hi j n (by omega) (by omega)
      split at he <;> split at he <;> omega
theorem odd_part : ∀ (B e : Nat), e < B → 0 < e → ∃ t o, e = 2 ^ t * (2 * o + 1)
  | 0, e, h, _ => absurd h (Nat.not_lt_zero _)
  | B + 1, e, h, h0 => by
    by_cases he : e % 2 = 1
    · exact ⟨0, e / 2, by rw [Nat.pow_zero]; omega⟩
    · obtain ⟨t, o, h1⟩ := odd_part B (e / 2) (by omega) (by omega)
      refine ⟨t + 1, o, ?_⟩
      rw [Nat.pow_succ', Nat.mul_assoc, ← h1]
      omega
theorem apart_pow {d : Nat} [NeZero d] (h1 : (1 : Fin d) ≠ -1) (h : Fin d) (s : Nat) (hs : rpow h (2 ^ s) = -1) : 2 ^ (s + 1) ≤ d := by
  have neg_sq : (-1 : Fin d) * -1 = 1 := by grind
  have hone : rpow h (2 ^ (s + 1)) = 1 := by rw [Nat.pow_succ, rpow_mul, hs]; show (1 * -1) * (-1 : Fin d) = 1; rw [Fin.one_mul]; exact neg_sq
  have key : ∀ e, 0 < e → e < 2 ^ (s + 1) → rpow h e ≠ 1 := fun e h0 he hr => by
    obtain ⟨t, o, ho⟩ := odd_part (e + 1) e (by omega) h0
    have hts : t ≤ s := by
      apply Nat.le_of_lt_succ
      apply (Nat.pow_lt_pow_iff_right (a := 2) (by decide)).1
      refine Nat.lt_of_le_of_lt ?_ he
      rw [ho]
      exact Nat.le_mul_of_pos_right _ (by omega)
    have e1 : rpow (rpow h (2 ^ s)) (2 * o + 1) = -1 := by rw [hs, rpow_odd, neg_sq, rpow_one, Fin.one_mul]
    have e2 : rpow (rpow h (2 ^ s)) (2 * o + 1) = 1 := by
      rw [← rpow_mul, show 2 ^ s * (2 * o + 1) = e * 2 ^ (s - t) by
        rw [ho, Nat.mul_right_comm, ← Nat.pow_add, show t + (s - t) = s by omega], rpow_mul, hr, rpow_one]
    exact h1 (e2.symm.trans e1)
  have lem : ∀ i j, i < j → j < 2 ^ (s + 1) → rpow h i = rpow h j → False := fun i j hij hj he => by
    refine key (j - i) (by omega) (by omega) ?_
    have e3 : rpow h (2 ^ (s + 1) - i) * rpow h i = 1 := by rw [← rpow_add, show 2 ^ (s + 1) - i + i = 2 ^ (s + 1) by omega, hone]
    have e4 : rpow h (j - i) = rpow h (2 ^ (s + 1) - i) * rpow h j := by
      rw [show j = i + (j - i) by omega, rpow_add, ← Fin.mul_assoc, e3, Fin.one_mul, show i + (j - i) - i = j - i by omega]
    rw [e4, ← he, e3]
  refine pigeon _ _ (fun i => (rpow h i).val) (fun i _ => (rpow h i).isLt) (fun i j hi hj he => ?_)
  have he' : rpow h i = rpow h j := Fin.ext he
  rcases Nat.lt_trichotomy i j with h2 | h2 | h2
  · exact (lem i j h2 hj he').elim
  · exact h2
  · exact (lem j i h2 hi he'.symm).elim

/-! ### The modulus -/
def hroot : Nat := 1753635133440165772
def sqn (M : Nat) : Nat → Nat → Nat
  | 0, x => x
  | k + 1, x => sqn M k (x * x % M)
theorem sqn_fin (d M : Nat) [NeZero d] (hd : d ∣ M) : ∀ (k x : Nat), Fin.ofNat d (sqn M k x) = sqi (Fin.ofNat d x) k
  | 0, _ => rfl
  | k + 1, x => by
    rw [sqn, sqi, sqn_fin d M hd k]
    congr 1
    apply Fin.ext
    rw [Fin.val_ofNat, Fin.val_mul, Fin.val_ofNat, Nat.mod_mod_of_dvd _ hd, Nat.mul_mod]
theorem no_small (d : Nat) (h1 : 1 < d) (hd : d ∣ PP) : 4294967296 ≤ d := by
  have hz : NeZero d := ⟨by omega⟩
  have hodd : d ≠ 2 := by rintro rfl; revert hd; decide +kernel
  have e := sqn_fin d PP hd 31 hroot
  rw [show sqn PP 31 hroot = PP - 1 by decide +kernel, sqi_pow] at e
  have e2 : Fin.ofNat d (PP - 1) = -1 := by
    have e3 : Fin.ofNat d (PP - 1) + 1 = 0 := by
      apply Fin.ext
      rw [Fin.val_add, Fin.val_ofNat, show ((1 : Fin d).val) = 1 % d from rfl, Nat.add_mod_mod, Nat.mod_add_mod, show PP - 1 + 1 = PP from rfl, Nat.mod_eq_zero_of_dvd hd]
      rfl
    grind
  have hne : (1 : Fin d) ≠ -1 := by
    intro hh
    have h2 : (1 : Fin d) + 1 = 0 := by grind
    have h3 := congrArg Fin.val h2
    rw [Fin.val_add, show ((1 : Fin d).val) = 1 % d from rfl, Nat.mod_eq_of_lt h1] at h3
    have h4 : (1 + 1) % d = 0 := h3
    have h5 : d ∣ 2 := Nat.dvd_of_mod_eq_zero h4
    have := Nat.le_of_dvd (by decide) h5
    omega
  exact apart_pow hne _ 31 (e.symm.trans e2)
theorem pp_prime (d : Nat) (hd : d ∣ PP) : d = 1 ∨ d = PP := by
  obtain ⟨e, he⟩ := hd
  have hP : PP = 18446744069414584321 := rfl
  by_cases h1 : d ≤ 1
  · left
    rcases Nat.le_one_iff_eq_zero_or_eq_one.1 h1 with h2 | h2
    · rw [h2, Nat.zero_mul] at he; rw [hP] at he; omega
    · exact h2
  · right
    by_cases h2 : e ≤ 1
    · rcases Nat.le_one_iff_eq_zero_or_eq_one.1 h2 with h3 | h3
      · rw [h3, Nat.mul_zero] at he; rw [hP] at he; omega
      · rw [h3, Nat.mul_one] at he; exact he.symm
    · have h3 := no_small d (by omega) ⟨e, he⟩
      have h4 := no_small e (by omega) ⟨d, by rw [he, Nat.mul_comm]⟩
      have h5 := Nat.mul_le_mul h3 h4
      rw [← he, hP] at h5
      omega
theorem pp_gcd (a : Fp) (h : a ≠ 0) : Nat.gcd PP a.val = 1 := by
  rcases pp_prime _ (Nat.gcd_dvd_left PP a.val) with h1 | h1
  · exact h1
  · exfalso
    have h2 := Nat.gcd_dvd_right PP a.val
    rw [h1] at h2
    have h3 : a.val ≠ 0 := fun e => h (Fin.ext e)
    have h4 := Nat.le_of_dvd (by omega) h2
    exact absurd a.isLt (by omega)
theorem f_cancel (a b c : Fp) (h : a ≠ 0) (he : a * b = a * c) : b = c := by
  have h1 : (a * b).val = (a * c).val := congrArg Fin.val he
  rw [Fin.val_mul, Fin.val_mul] at h1
  have lem : ∀ x y : Fp, x.val ≤ y.val → a.val * x.val % PP = a.val * y.val % PP → x = y := fun x y hxy h2 => by
    have h3 : PP ∣ a.val * y.val - a.val * x.val := Nat.dvd_of_mod_eq_zero (Nat.sub_mod_eq_zero_of_mod_eq h2.symm)
    rw [← Nat.mul_sub] at h3
    have h4 : PP ∣ y.val - x.val := (Nat.Coprime.dvd_of_dvd_mul_left (pp_gcd a h) h3)
    have h5 := y.isLt
    apply Fin.ext
    by_cases h6 : y.val - x.val = 0
    · omega
    · have := Nat.le_of_dvd (by omega) h4
      omega
  rcases Nat.le_total b.val c.val with h2 | h2
  · exact lem b c h2 h1
  · exact (lem c b h2 h1.symm).symm

/-! ### Fermat -/
theorem perm_of {α : Type} [DecidableEq α] : ∀ (l m : List α), l.Nodup → (∀ x ∈ l, x ∈ m) → l.length = m.length → l.Perm m
  | [], m, _, _, h => by
    have : m = [] := List.eq_nil_of_length_eq_zero h.symm
    rw [this]
  | x :: l, m, hn, hs, hl => by
    have hx : x ∈ m := hs x (List.mem_cons_self ..)
    rw [List.nodup_cons] at hn
    refine List.Perm.trans (List.Perm.cons x (perm_of l (m.erase x) hn.2 (fun y hy => ?_) ?_)) (List.perm_cons_erase hx).symm
    · have hne : y ≠ x := fun e => hn.1 (e ▸ hy)
      exact (List.mem_erase_of_ne hne).2 (hs y (List.mem_cons_of_mem _ hy))
    · rw [List.length_erase_of_mem hx, ← hl, List.length_cons, Nat.add_sub_cancel]
def fprod (l : List Fp) : Fp := l.foldr (· * ·) 1
theorem fprod_cons (x : Fp) (l : List Fp) : fprod (x :: l) = x * fprod l := rfl
theorem fprod_perm {l m : List Fp} (h : l.Perm m) : fprod l = fprod m := by
  induction h with
  | nil => rfl
  | cons x _ ih => rw [fprod_cons, fprod_cons, ih]
  | swap x y l => rw [fprod_cons, fprod_cons, fprod_cons, fprod_cons, ← Fin.mul_assoc, ← Fin.mul_assoc, Fin.mul_comm y x]
  | trans _ _ h1 h2 => exact h1.trans h2
theorem fprod_scale (a : Fp) : ∀ l : List Fp, fprod (l.map (a * ·)) = rpow a l.length * fprod l
  | [] => by show (1 : Fp) = 1 * 1; rw [Fin.mul_one]
  | x :: l => by rw [List.map_cons, fprod_cons, fprod_cons, fprod_scale a l, List.length_cons, rpow_succ]; generalize rpow a l.length = u; generalize fprod l = v; grind
theorem f_mul_ne (a b : Fp) (ha : a ≠ 0) (hb : b ≠ 0) : a * b ≠ 0 := fun h => hb (f_cancel a b 0 ha (by rw [h, f_mul_zero]))
theorem fprod_ne : ∀ l : List Fp, (∀ x ∈ l, x ≠ 0) → fprod l ≠ 0
  | [], _ => by show (1 : Fp) ≠ 0; decide +kernel
  | x :: l, h => f_mul_ne x _ (h x (List.mem_cons_self ..)) (fprod_ne l fun y hy => h y (List.mem_cons_of_mem _ hy))
theorem units (n : Nat) [NeZero n] : ∃ U : List (Fin n), U.Nodup ∧ (∀ x : Fin n, x ∈ U ↔ x ≠ 0) ∧ U.length + 1 = n := by
  have hP : (0 : Fin n) ∈ List.finRange n := List.mem_finRange _
  refine ⟨(List.finRange n).erase 0, List.Nodup.erase _ (List.nodup_finRange n), fun x => ?_, ?_⟩
  · constructor
    · intro h e
      subst e
      exact List.Nodup.not_mem_erase (List.nodup_finRange n) h
    · intro h; exact (List.mem_erase_of_ne h).2 (List.mem_finRange _)
  · rw [List.length_erase_of_mem hP, List.length_finRange]
    have := NeZero.ne n
    omega
theorem fermat (a : Fp) (h : a ≠ 0) (N : Nat) (hN : N + 1 = PP) : rpow a N = 1 := by
  obtain ⟨U, h1, h2, h3⟩ := units PP
  obtain rfl : N = U.length := by omega
  have hp : (U.map (a * ·)).Perm U := by
    refine perm_of _ _ ?_ ?_ (by rw [List.length_map])
    · rw [List.Nodup, List.pairwise_map]
      exact h1.imp fun hne he => hne (f_cancel a _ _ h he)
    · intro x hx
      obtain ⟨y, hy, rfl⟩ := List.mem_map.1 hx
      exact (h2 _).2 (f_mul_ne a y h ((h2 y).1 hy))
  have e := fprod_perm hp
  rw [fprod_scale] at e
  have hne := fprod_ne U fun x hx => (h2 x).1 hx
  refine f_cancel (fprod U) _ _ hne ?_
  rw [Fin.mul_comm, e, Fin.mul_one]
def finv (a : Fp) : Fp := rpow a 18446744069414584319
theorem finv_mul (a : Fp) (h : a ≠ 0) : finv a * a = 1 := by
  unfold finv
  have h3 : (18446744069414584319 + 1) + 1 = PP := by decide +kernel
  generalize 18446744069414584319 = N at *
  rw [← rpow_succ]
  exact fermat a h _ h3
theorem finv_unique (a s : Fp) (h : s * a = 1) : s = finv a := by
  have h0 : a ≠ 0 := by
    rintro rfl
    rw [f_mul_zero] at h
    revert h
    decide +kernel
  refine f_cancel a _ _ h0 ?_
  rw [Fin.mul_comm a s, h, Fin.mul_comm a, finv_mul a h0]
theorem seven_half : ∃ N : Nat, N + N + 1 = PP ∧ rpow (7 : Fp) N = -1 := by
  refine ⟨2 ^ 31 * 4294967295, by decide +kernel, ?_⟩
  have e1 : rpow (7 : Fp) 4294967295 = Fin.ofNat PP hroot := by
    have h : ∀ (k : Nat) (a b : Fp), (b = 1 → sqi a k = rpow a (2 ^ k)) := fun k a b _ => sqi_pow k a
    have e2 : rpow (7 : Fp) (2 ^ 32) = rpow (7 : Fp) 4294967295 * 7 := by rw [← rpow_succ]
    rw [← sqi_pow] at e2
    refine f_cancel 7 _ _ (by decide +kernel) ?_
    rw [Fin.mul_comm, ← e2]
    decide +kernel
  rw [Nat.mul_comm, rpow_mul, e1, ← sqi_pow]
  decide +kernel
theorem no_square (c : Fp) : c * c ≠ 7 := fun h => by
  obtain ⟨N, h1, h2⟩ := seven_half
  have hc : c ≠ 0 := by
    rintro rfl
    rw [f_mul_zero] at h
    revert h
    decide +kernel
  have h3 := fermat c hc (2 * N) (by omega)
  rw [rpow_two, h, h2] at h3
  revert h3
  decide +kernel
theorem nrm_ne (x : E) (h : x ≠ 0) : nrm x ≠ 0 := fun hn => by
  unfold nrm at hn
  by_cases hb : x.b = 0
  · have ha : x.a ≠ 0 := fun ha => h (E.ext_ ha hb)
    rw [hb, f_mul_zero, f_mul_zero] at hn
    exact f_mul_ne _ _ ha ha (by grind)
  · refine no_square (x.a * finv x.b) ?_
    have e := finv_mul x.b hb
    generalize finv x.b = u at *
    generalize x.a = a at *
    generalize x.b = b at *
    have e2 : a * a = 7 * (b * b) := by grind
    calc a * u * (a * u) = (a * a) * (u * u) := by grind
      _ = 7 * (b * b) * (u * u) := by rw [e2]
      _ = 7 * (u * b) * (u * b) := by grind
      _ = 7 := by rw [e, Fin.mul_one, Fin.mul_one]
def einv (x : E) : E := cnj x * eb (finv (nrm x))
theorem einv_mul (x : E) (h : x ≠ 0) : einv x * x = 1 := inv_law x _ (finv_mul _ (nrm_ne x h))
theorem E.cancel (a b c : E) (h : a ≠ 0) (he : a * b = a * c) : b = c := by
  have h1 := einv_mul a h
  calc b = einv a * a * b := by rw [h1, E.one_mul]
    _ = einv a * (a * b) := by rw [E.mul_assoc]
    _ = einv a * (a * c) := by rw [he]
    _ = einv a * a * c := by rw [E.mul_assoc]
    _ = c := by rw [h1, E.one_mul]
theorem einv_unique (x s : E) (h : s * x = 1) : s = einv x := by
  have h0 : x ≠ 0 := by
    rintro rfl
    rw [E.mul_zero] at h
    revert h
    decide +kernel
  refine E.cancel x _ _ h0 ?_
  rw [E.mul_comm x s, h, E.mul_comm x, einv_mul x h0]
end Go.Proofs.YtkgglhakimkkhaaGreatDoor
namespace Go.Proofs.YtkgglhakimkkhaaGreatDoor

theorem sel_succ (i k : Nat) (x : E) : sel i (k + 1) x = sel (i / 2) k x := by
  unfold sel
  rw [Nat.pow_succ', ← Nat.div_div_eq_div_mul]
theorem wt_cons (r : E) (p : List E) (i : Nat) : ∀ k, wt (r :: p) i (k + 1) = sel i 0 r * wt p (i / 2) k
  | 0 => by
    show 1 * sel i 0 r = sel i 0 r * 1
    rw [E.mul_one, E.one_mul]
  | k + 1 => by
    rw [wt, wt_cons r p i k, wt, E.mul_assoc, sel_succ]
    rfl
theorem eqi_cons (i : Nat) (r : E) (p : List E) : eqi i (r :: p) = sel i 0 r * eqi (i / 2) p := wt_cons r p i p.length
theorem sel_even (i : Nat) (r : E) : sel (2 * i) 0 r = 1 - r := by unfold sel; rw [if_neg (by simp)]
theorem sel_odd (i : Nat) (r : E) : sel (2 * i + 1) 0 r = r := by unfold sel; rw [if_pos (by simp)]
def bindL : List E → E → List E
  | x :: y :: t, r => (x + r * (y - x)) :: bindL t r
  | _, _ => []
def evalL : List E → List E → List E
  | t, [] => t
  | t, r :: p => evalL (bindL t r) p
theorem bindL_length (r : E) : ∀ (n : Nat) (t : List E), t.length = 2 * n → (bindL t r).length = n
  | 0, [], _ => rfl
  | n + 1, x :: y :: t, h => by
    show (bindL t r).length + 1 = n + 1
    rw [bindL_length r n t (by simp only [List.length_cons] at h; omega)]
  | 0, _ :: _, h => by simp at h
  | n + 1, [], h => by simp at h
  | n + 1, [_], h => by simp at h; omega
theorem bindL_get (r : E) : ∀ (i : Nat) (t : List E) (x y : E), t[2 * i]? = some x → t[2 * i + 1]? = some y → (bindL t r)[i]? = some (x + r * (y - x))
  | 0, a :: b :: t, x, y, hx, hy => by
    simp at hx hy; subst hx; subst hy; rfl
  | i + 1, a :: b :: t, x, y, hx, hy => by
    show (bindL t r)[i]? = _
    refine bindL_get r i t x y ?_ ?_
    · rw [show 2 * (i + 1) = 2 * i + 1 + 1 by omega] at hx; simpa using hx
    · rw [show 2 * (i + 1) + 1 = 2 * i + 1 + 1 + 1 by omega] at hy; simpa using hy
  | 0, [], x, y, hx, _ => by simp at hx
  | 0, [_], x, y, _, hy => by simp at hy
  | i + 1, [], x, y, hx, _ => by simp at hx
  | i + 1, [_], x, y, hx, _ => by rw [show 2 * (i + 1) = 2 * i + 1 + 1 by omega] at hx; simp at hx
def mev (t p : List E) : E := (evalL t p).headD 0
def dotF (p : List E) : Nat → List E → E
  | _, [] => 0
  | s, x :: t => x * eqi s p + dotF p (s + 1) t
theorem dot_bind (r : E) (p : List E) : ∀ (n : Nat) (t : List E) (s : Nat), t.length = 2 * n → dotF (r :: p) (2 * s) t = dotF p s (bindL t r)
  | 0, [], _, _ => rfl
  | n + 1, x :: y :: t, s, h => by
    rw [dotF, dotF, bindL, dotF, show 2 * s + 1 + 1 = 2 * (s + 1) by omega, dot_bind r p n t (s + 1) (by simp only [List.length_cons] at h; omega), eqi_cons, eqi_cons, sel_even, sel_odd, show 2 * s / 2 = s by omega, show (2 * s + 1) / 2 = s by omega]
    generalize dotF p (s + 1) (bindL t r) = d
    generalize eqi s p = m
    apply E.ext_ <;> simp only [mul_a, mul_b, add_a, add_b, sub_a, sub_b, one_a, one_b] <;> grind
  | 0, _ :: _, _, h => by simp at h
  | n + 1, [], _, h => by simp at h
  | n + 1, [_], _, h => by simp at h; omega
theorem mev_dot : ∀ (p t : List E), t.length = 2 ^ p.length → mev t p = dotF p 0 t
  | [], t, h => by
    match t, h with
    | [x], _ =>
      show x = x * 1 + 0
      rw [E.mul_one, E.add_zero]
  | r :: p, t, h => by
    have h2 : t.length = 2 * 2 ^ p.length := by rw [h, List.length_cons, Nat.pow_succ']
    show mev (bindL t r) p = _
    rw [mev_dot p _ (bindL_length r _ t h2), ← dot_bind r p _ t 0 h2]
def dotE (t p : List E) (j : Nat) : E := esum ((List.range j).map fun i => t.getD i 0 * eqi i p)
theorem dotE_succ (t p : List E) (j : Nat) : dotE t p (j + 1) = dotE t p j + t.getD j 0 * eqi j p := by
  unfold dotE
  rw [List.range_succ, List.map_append, esum_append]
  simp [esum, E.add_zero]
theorem dotF_esum (p : List E) : ∀ (t : List E) (s : Nat), dotF p s t = esum ((List.range t.length).map fun i => t.getD i 0 * eqi (s + i) p)
  | [], _ => rfl
  | x :: t, s => by
    rw [dotF, dotF_esum p t (s + 1), List.length_cons, List.range_succ_eq_map, List.map_cons, List.map_map]
    show _ = x * eqi (s + 0) p + esum _
    rw [Nat.add_zero]
    congr 2
    apply List.map_congr_left
    intro i _
    simp only [Function.comp, List.getD_cons_succ]
    rw [show s + (i + 1) = s + 1 + i by omega]
theorem dotE_all (t p : List E) (h : t.length = 2 ^ p.length) : dotE t p t.length = mev t p := by
  rw [mev_dot p t h, dotF_esum]
  unfold dotE
  congr 1
  apply List.map_congr_left
  intro i _
  rw [Nat.zero_add]
end Go.Proofs.YtkgglhakimkkhaaGreatDoor
namespace Go.Proofs.YtkgglhakimkkhaaGreatDoor

section
variable {α : Type}
theorem esum_add (f g : α → E) : ∀ l : List α, esum (l.map fun x => f x + g x) = esum (l.map f) + esum (l.map g)
  | [] => by simp only [List.map_nil, esum, E.add_zero]
  | x :: l => by
    simp only [List.map_cons, esum]
    rw [esum_add f g l]
    generalize esum (l.map f) = a
    generalize esum (l.map g) = b
    apply E.ext_ <;> simp only [add_a, add_b] <;> grind
end
end Go.Proofs.YtkgglhakimkkhaaGreatDoor
namespace Go.Proofs.YtkgglhakimkkhaaGreatDoor

theorem E.sub_self_add (x y : E) : y + (x - y) = x := by apply E.ext_ <;> simp only [sub_a, sub_b, add_a, add_b] <;> grind
theorem esum_congr {α : Type} (f g : α → E) (l : List α) (h : ∀ x ∈ l, f x = g x) : esum (l.map f) = esum (l.map g) := by rw [List.map_congr_left h]
theorem esum_pairs (f : Nat → E) : ∀ n, esum ((List.range (2 * n)).map f) = esum ((List.range n).map fun i => f (2 * i) + f (2 * i + 1))
  | 0 => rfl
  | n + 1 => by
    rw [show 2 * (n + 1) = 2 * n + 1 + 1 by omega, List.range_succ, List.range_succ, List.range_succ, List.map_append, List.map_append, List.map_append, esum_append, esum_append, esum_append, esum_pairs f n, E.add_assoc]
    congr 1
    show f (2 * n) + 0 + (f (2 * n + 1) + 0) = f (2 * n) + f (2 * n + 1) + 0
    rw [E.add_zero, E.add_zero, E.add_zero]
theorem fac_comm (x y : E) : fac x y = fac y x := by
  unfold fac
  rw [E.mul_comm x y, E.mul_comm (1 - x)]
theorem pfac_comm (p q : List E) : ∀ k, pfac p q k = pfac q p k
  | 0 => rfl
  | k + 1 => by rw [pfac, pfac, pfac_comm p q k, fac_comm]
theorem pfac_eqi (a : Nat) (q : List E) : pfac (vertex a q.length) q q.length = eqi a q := pfac_vertex a _ q _ (Nat.le_refl _)
/-! ### Finite differences -/
end Go.Proofs.YtkgglhakimkkhaaGreatDoor
