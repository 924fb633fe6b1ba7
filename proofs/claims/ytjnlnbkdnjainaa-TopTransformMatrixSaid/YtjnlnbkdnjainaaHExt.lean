/- The quadratic extension, on integers: products, norms, inverses, powers, the conjugate as a power. No program in sight. -/
import Derived.Test.YtjnlnbkdnjainaaQA
namespace Go.Proofs.Ytjnlnbkdnjainaa

/-! ### pairs modulo p, with X * X = g -/
def pmul (p g : Int) (a b : Int × Int) : Int × Int := ((a.1 * b.1 + g * (a.2 * b.2)) % p, (a.1 * b.2 + a.2 * b.1) % p)
def pred (p : Int) (a : Int × Int) : Int × Int := (a.1 % p, a.2 % p)
def pone (p : Int) : Int × Int := (1 % p, 0)

theorem pmul_red_l (p g : Int) (a b : Int × Int) : pmul p g (pred p a) b = pmul p g a b := by
  unfold pmul pred
  congr 1
  · rw [Int.add_emod, em_mul_l, Int.mul_left_comm g, em_mul_l, ← Int.add_emod, Int.mul_left_comm g]
  · rw [Int.add_emod, em_mul_l, em_mul_l, ← Int.add_emod]
theorem pmul_comm (p g : Int) (a b : Int × Int) : pmul p g a b = pmul p g b a := by
  unfold pmul
  congr 2 <;> grind
theorem pmul_red_r (p g : Int) (a b : Int × Int) : pmul p g a (pred p b) = pmul p g a b := by
  rw [pmul_comm, pmul_red_l, pmul_comm]
theorem pred_pmul (p g : Int) (a b : Int × Int) : pred p (pmul p g a b) = pmul p g a b := by
  simp [pred, pmul]
/-- The product before it is reduced. -/
def rmul (g : Int) (a b : Int × Int) : Int × Int := (a.1 * b.1 + g * (a.2 * b.2), a.1 * b.2 + a.2 * b.1)
theorem pmul_eq (p g : Int) (a b : Int × Int) : pmul p g a b = pred p (rmul g a b) := rfl
theorem pmul_assoc (p g : Int) (a b c : Int × Int) : pmul p g (pmul p g a b) c = pmul p g a (pmul p g b c) := by
  rw [pmul_eq p g a b, pmul_red_l, pmul_eq p g b c, pmul_red_r]
  unfold pmul rmul
  congr 2 <;> grind
theorem pmul_one (p g : Int) (a : Int × Int) : pmul p g a (pone p) = pred p a := by
  have : pone p = pred p (1, 0) := by simp [pone, pred]
  rw [this, pmul_red_r]
  simp [pmul, pred]
theorem one_pmul (p g : Int) (a : Int × Int) : pmul p g (pone p) a = pred p a := by rw [pmul_comm, pmul_one]

/-- The power with the exponent n. -/
def ppow (p g : Int) (a : Int × Int) : Nat → Int × Int
  | 0 => pone p
  | n + 1 => pmul p g (ppow p g a n) a
theorem pred_pone (p : Int) : pred p (pone p) = pone p := by simp [pred, pone]
theorem pred_ppow (p g : Int) (a : Int × Int) (n : Nat) : pred p (ppow p g a n) = ppow p g a n := by
  cases n with
  | zero => exact pred_pone p
  | succ n => exact pred_pmul p g _ _
theorem ppow_red (p g : Int) (a : Int × Int) (n : Nat) : ppow p g (pred p a) n = ppow p g a n := by
  induction n with
  | zero => rfl
  | succ n ih => rw [ppow, ppow, ih, pmul_red_r]
theorem ppow_add (p g : Int) (a : Int × Int) (m n : Nat) : ppow p g a (m + n) = pmul p g (ppow p g a m) (ppow p g a n) := by
  induction n with
  | zero => rw [Nat.add_zero, ppow, pmul_one, pred_ppow]
  | succ n ih => rw [← Nat.add_assoc, ppow, ih, ppow, pmul_assoc]
theorem ppow_one (p g : Int) (a : Int × Int) : ppow p g a 1 = pred p a := by rw [ppow, ppow, one_pmul]
theorem ppow_two (p g : Int) (a : Int × Int) : ppow p g a 2 = pmul p g a a := by rw [ppow, ppow_one, pmul_red_l]
theorem ppow_mul (p g : Int) (a : Int × Int) (m n : Nat) : ppow p g a (m * n) = ppow p g (ppow p g a m) n := by
  induction n with
  | zero => rfl
  | succ n ih => rw [Nat.mul_succ, ppow_add, ih, ppow]
theorem pmul_pmul_comm (p g : Int) (a b c d : Int × Int) : pmul p g (pmul p g a b) (pmul p g c d) = pmul p g (pmul p g a c) (pmul p g b d) := by
  rw [pmul_assoc, pmul_assoc, ← pmul_assoc p g b c d, pmul_comm p g b c, pmul_assoc p g c b d]
theorem ppow_pmul (p g : Int) (a b : Int × Int) (n : Nat) : ppow p g (pmul p g a b) n = pmul p g (ppow p g a n) (ppow p g b n) := by
  induction n with
  | zero => rw [ppow, ppow, ppow, pmul_one, pred_pone]
  | succ n ih => rw [ppow, ih, ppow, ppow, pmul_pmul_comm]
/-- A power of an element of the field. -/
theorem ppow_base (p g a : Int) (n : Nat) : ppow p g (a, 0) n = (a ^ n % p, 0) := by
  induction n with
  | zero => simp [ppow, pone]
  | succ n ih => rw [ppow, ih, pmul]; simp only [Int.mul_zero, Int.add_zero, Int.zero_mul, Int.zero_emod, em_mul_l, Int.pow_succ]

theorem pp_odd {p g : Int} {R A X : Int × Int} {E : Nat} (h : pmul p g R (ppow p g A E) = X) (ho : E % 2 = 1) : pmul p g (pmul p g R A) (ppow p g (pmul p g A A) (E / 2)) = X := by
  rw [← h]
  conv => rhs; rw [show E = 2 * (E / 2) + 1 from by omega, ppow, ppow_mul, ppow_two]
  rw [pmul_assoc, pmul_comm p g A]
theorem pp_even {p g : Int} {R A X : Int × Int} {E : Nat} (h : pmul p g R (ppow p g A E) = X) (ho : E % 2 = 0) : pmul p g R (ppow p g (pmul p g A A) (E / 2)) = X := by
  rw [← h]
  conv => rhs; rw [show E = 2 * (E / 2) from by omega, ppow_mul, ppow_two]

/-! ### the norm -/
def pconj (p : Int) (a : Int × Int) : Int × Int := (a.1 % p, (-a.2) % p)
def pnorm (p g : Int) (a : Int × Int) : Int := (a.1 * a.1 - g * (a.2 * a.2)) % p
theorem pmul_conj (p g : Int) (a : Int × Int) : pmul p g a (pconj p a) = (pnorm p g a, 0) := by
  have : pconj p a = pred p (a.1, -a.2) := rfl
  rw [this, pmul_red_r]
  unfold pmul pnorm
  congr 1
  · congr 1; grind
  · rw [show a.1 * -a.2 + a.2 * a.1 = 0 from by grind]; exact Int.zero_emod p
theorem pnorm_red (p g : Int) (a : Int × Int) : pnorm p g (pred p a) = pnorm p g a := by
  show ((a.1 % p) * (a.1 % p) - g * ((a.2 % p) * (a.2 % p))) % p = (a.1 * a.1 - g * (a.2 * a.2)) % p
  rw [Int.sub_emod, em_mul_l, em_mul_r, ← em_mul_r g (a.2 % p * (a.2 % p)) p, em_mul_l, em_mul_r, ← Int.mul_assoc, em_mul_r, Int.mul_assoc, ← Int.sub_emod]
theorem pnorm_rmul (p g : Int) (a b : Int × Int) : pnorm p g (rmul g a b) = (pnorm p g a * pnorm p g b) % p := by
  unfold pnorm rmul
  rw [em_mul_l, em_mul_r]
  congr 1; grind
theorem pnorm_pmul (p g : Int) (a b : Int × Int) : pnorm p g (pmul p g a b) = (pnorm p g a * pnorm p g b) % p := by
  rw [pmul_eq, pnorm_red, pnorm_rmul]

/-- Only 0 has the norm 0: the generator is no square. -/
theorem pnorm_eq_zero {p : Int} (h : vld p = true) (a : Int × Int) (hn : pnorm p (gen p) a = 0) : a.1 % p = 0 ∧ a.2 % p = 0 := by
  have hp := vld_pos h
  unfold pnorm at hn
  have hsq : (a.1 * a.1) % p = (gen p * (a.2 * a.2)) % p := Int.emod_eq_emod_iff_emod_sub_eq_zero.2 hn
  by_cases h2 : a.2 % p = 0
  · have : (a.1 * a.1) % p = 0 := by rw [hsq, ← Int.mul_assoc, ← em_mul_r, h2, Int.mul_zero, Int.zero_emod]
    rcases mul_eq_zero h _ _ this with h1 | h1 <;> exact ⟨h1, h2⟩
  · exfalso
    have h1 : a.1 % p ≠ 0 := by
      intro h1
      have e : (gen p * (a.2 * a.2)) % p = 0 := by rw [← hsq, ← em_mul_l, h1, Int.zero_mul, Int.zero_emod]
      rcases mul_eq_zero h _ _ e with hg | hb
      · rcases vld_cases h with h | h | h | h | h | h | h <;> subst h <;> exact absurd hg (by decide)
      · rcases mul_eq_zero h _ _ hb with h3 | h3 <;> exact h2 h3
    have f1 := fermat h a.1 h1
    have f2 := fermat h a.2 h2
    have hg := gen_half h
    obtain ⟨k, hk, hk2⟩ : ∃ k : Nat, ((p - 1) / 2).toNat = k ∧ (p - 1).toNat = 2 * k := by
      refine ⟨((p - 1) / 2).toNat, rfl, ?_⟩
      rcases vld_cases h with h | h | h | h | h | h | h <;> subst h <;> decide
    rw [hk] at hg
    rw [hk2, Int.pow_mul] at f1 f2
    have e1 : (a.1 * a.1) ^ k % p = 1 := by rw [show a.1 * a.1 = a.1 ^ 2 from by grind]; exact f1
    have e2 : (a.2 * a.2) ^ k % p = 1 := by rw [show a.2 * a.2 = a.2 ^ 2 from by grind]; exact f2
    have e3 : (gen p * (a.2 * a.2)) ^ k % p = p - 1 := by
      rw [Int.mul_pow, ← em_mul_r, e2, Int.mul_one, hg]
    rw [← em_pow, hsq, em_pow, e3] at e1
    omega
end Go.Proofs.Ytjnlnbkdnjainaa
