/- The power with the exponent p is the conjugate; the norm of a power; the order of the group. No program in sight. -/
import Derived.Test.YtjnlnbkdnjainaaHExt
namespace Go.Proofs.Ytjnlnbkdnjainaa

/-! ### binomial coefficients -/
def bin : Nat → Nat → Nat
  | _, 0 => 1
  | 0, _ + 1 => 0
  | n + 1, k + 1 => bin n (k + 1) + bin n k
theorem bin_zero : ∀ n k, n < k → bin n k = 0
  | 0, k + 1, _ => rfl
  | n + 1, k + 1, h => by rw [bin, bin_zero n (k + 1) (by omega), bin_zero n k (by omega)]
theorem bin_absorb : ∀ n k, (k + 1) * bin (n + 1) (k + 1) = (n + 1) * bin n k
  | 0, 0 => rfl
  | 0, k + 1 => by
    have h1 : bin 1 (k + 2) = 0 := bin_zero 1 (k + 2) (by omega)
    have h2 : bin 0 (k + 1) = 0 := rfl
    rw [h1, h2]; simp
  | n + 1, 0 => by
    have ih := bin_absorb n 0
    have e1 : bin (n + 1 + 1) (0 + 1) = bin (n + 1) 1 + bin (n + 1) 0 := rfl
    have e2 : bin (n + 1) 0 = 1 := by rw [bin]
    have e3 : bin n 0 = 1 := by rw [bin]
    rw [e3] at ih
    rw [e1, e2]
    simp at ih ⊢
    omega
  | n + 1, k + 1 => by
    have ih1 := bin_absorb n (k + 1)
    have ih2 := bin_absorb n k
    have e1 : bin (n + 1 + 1) (k + 1 + 1) = bin (n + 1) (k + 1 + 1) + bin (n + 1) (k + 1) := rfl
    have e2 : bin (n + 1) (k + 1) = bin n (k + 1) + bin n k := rfl
    rw [e1, Nat.mul_add, ih1]
    rw [show (k + 1 + 1) * bin (n + 1) (k + 1) = (k + 1) * bin (n + 1) (k + 1) + bin (n + 1) (k + 1) from by rw [Nat.add_mul (k + 1) 1]; simp, ih2]
    rw [e2]
    simp only [Nat.add_mul, Nat.mul_add, Nat.one_mul]
    omega

/-! ### the terms of (a + b X) ^ n -/
def tm (a b : Int) : Nat → Nat → Int
  | 0, 0 => 1
  | 0, _ + 1 => 0
  | n + 1, 0 => a * tm a b n 0
  | n + 1, k + 1 => a * tm a b n (k + 1) + b * tm a b n k
theorem tm_bin (a b : Int) : ∀ n k, ∃ c, tm a b n k = (bin n k : Int) * c
  | 0, 0 => ⟨1, rfl⟩
  | 0, k + 1 => ⟨0, rfl⟩
  | n + 1, 0 => by
    obtain ⟨c, hc⟩ := tm_bin a b n 0
    have e : bin (n + 1) 0 = 1 ∧ bin n 0 = 1 := ⟨by rw [bin], by rw [bin]⟩
    exact ⟨a * c, by rw [tm, hc, e.1, e.2]; grind⟩
  | n + 1, k + 1 => by
    exact ⟨a ^ (n - k) * b ^ (k + 1), by
      have key : ∀ n k, k ≤ n → tm a b n k = (bin n k : Int) * (a ^ (n - k) * b ^ k) := by
        intro n
        induction n with
        | zero => intro k hk; obtain rfl : k = 0 := by omega
                  simp [tm, bin]
        | succ n ih =>
          intro k hk
          rcases k with _ | k
          · have e : bin (n + 1) 0 = 1 ∧ bin n 0 = 1 := ⟨by rw [bin], by rw [bin]⟩
            rw [tm, ih 0 (by omega), e.1, e.2]
            simp [Int.pow_succ]; grind
          · rw [tm, ih k (by omega)]
            have e2 : bin (n + 1) (k + 1) = bin n (k + 1) + bin n k := rfl
            rw [e2]
            rcases Nat.lt_or_ge n (k + 1) with h | h
            · obtain rfl : n = k := by omega
              have h0 : tm a b n (n + 1) = 0 := by
                have : ∀ n k, n < k → tm a b n k = 0 := by
                  intro n
                  induction n with
                  | zero => intro k hk; obtain ⟨j, rfl⟩ : ∃ j, k = j + 1 := ⟨k - 1, by omega⟩
                            rfl
                  | succ n ih => intro k hk; obtain ⟨j, rfl⟩ : ∃ j, k = j + 1 := ⟨k - 1, by omega⟩
                                 rw [tm, ih (j + 1) (by omega), ih j (by omega)]; simp
                exact this n (n + 1) (by omega)
              rw [h0, bin_zero n (n + 1) (by omega)]
              simp [Int.pow_succ]; grind
            · rw [ih (k + 1) h]
              rw [show n + 1 - (k + 1) = (n - (k + 1)) + 1 from by omega, show n - k = (n - (k + 1)) + 1 from by omega, Int.pow_succ, Int.pow_succ]
              push_cast
              grind
      rcases Nat.lt_or_ge n k with h | h
      · have : ∀ n k, n < k → tm a b n k = 0 := by
          intro n
          induction n with
          | zero => intro k hk; obtain ⟨j, rfl⟩ : ∃ j, k = j + 1 := ⟨k - 1, by omega⟩
                    rfl
          | succ n ih => intro k hk; obtain ⟨j, rfl⟩ : ∃ j, k = j + 1 := ⟨k - 1, by omega⟩
                         rw [tm, ih (j + 1) (by omega), ih j (by omega)]; simp
        rw [this (n + 1) (k + 1) (by omega), bin_zero (n + 1) (k + 1) (by omega)]; simp
      · rw [key (n + 1) (k + 1) (by omega), show n + 1 - (k + 1) = n - k from by omega]⟩

/-- X to the k. -/
def xk (g : Int) (k : Nat) : Int × Int := if k % 2 = 0 then (g ^ (k / 2), 0) else (0, g ^ (k / 2))
theorem xk_succ (g : Int) (k : Nat) : (xk g (k + 1)).1 = g * (xk g k).2 ∧ (xk g (k + 1)).2 = (xk g k).1 := by
  unfold xk
  by_cases h : k % 2 = 0
  · rw [if_pos h, if_neg (by omega), show (k + 1) / 2 = k / 2 from by omega]; simp
  · rw [if_neg h, if_pos (by omega), show (k + 1) / 2 = k / 2 + 1 from by omega, Int.pow_succ]; simp [Int.mul_comm]

def sF (g a b : Int) (n : Nat) : Nat → Int
  | 0 => 0
  | m + 1 => sF g a b n m + tm a b n m * (xk g m).1
def sG (g a b : Int) (n : Nat) : Nat → Int
  | 0 => 0
  | m + 1 => sG g a b n m + tm a b n m * (xk g m).2
theorem sFG_step (g a b : Int) (n : Nat) : ∀ m, sF g a b (n + 1) (m + 1) = a * sF g a b n (m + 1) + g * (b * sG g a b n m) ∧ sG g a b (n + 1) (m + 1) = a * sG g a b n (m + 1) + b * sF g a b n m
  | 0 => by simp [sF, sG, tm]; constructor <;> grind
  | m + 1 => by
    obtain ⟨h1, h2⟩ := sFG_step g a b n m
    obtain ⟨x1, x2⟩ := xk_succ g m
    constructor
    · rw [sF, h1, tm]
      conv => rhs; rw [sF, sG]
      rw [x1]; grind
    · rw [sG, h2, tm]
      conv => rhs; rw [sG, sF]
      rw [x2]; grind
theorem tm_over (a b : Int) : ∀ n, tm a b n (n + 1) = 0
  | n => by
    obtain ⟨c, hc⟩ := tm_bin a b n (n + 1)
    rw [hc, bin_zero n (n + 1) (by omega)]; simp

/-- The power before it is reduced. -/
def rpow (g : Int) (a : Int × Int) : Nat → Int × Int
  | 0 => (1, 0)
  | n + 1 => rmul g (rpow g a n) a
theorem rpow_eq (g a b : Int) : ∀ n, rpow g (a, b) n = (sF g a b n (n + 1), sG g a b n (n + 1))
  | 0 => by simp [rpow, sF, sG, tm, xk]
  | n + 1 => by
    obtain ⟨h1, h2⟩ := sFG_step g a b n (n + 1)
    rw [rpow, rpow_eq g a b n, h1, h2]
    have e1 : sF g a b n (n + 1 + 1) = sF g a b n (n + 1) := by rw [sF, tm_over]; simp
    have e2 : sG g a b n (n + 1 + 1) = sG g a b n (n + 1) := by rw [sG, tm_over]; simp
    rw [e1, e2]
    unfold rmul
    congr 1 <;> grind
theorem ppow_rpow (p g : Int) (a : Int × Int) : ∀ n, ppow p g a n = pred p (rpow g a n)
  | 0 => rfl
  | n + 1 => by rw [ppow, ppow_rpow p g a n, pmul_red_l]; rfl

/-! ### modulo p -/
theorem bin_p {p : Int} (h : vld p = true) (k : Nat) (h0 : 0 < k) (hk : (k : Int) < p) : ((bin p.toNat k : Nat) : Int) % p = 0 := by
  have hp := vld_pos h
  obtain ⟨n, hn⟩ : ∃ n, p.toNat = n + 1 := ⟨p.toNat - 1, by omega⟩
  obtain ⟨j, rfl⟩ : ∃ j, k = j + 1 := ⟨k - 1, by omega⟩
  have e := bin_absorb n j
  rw [← hn] at e
  have e' : ((j + 1 : Nat) : Int) * (bin p.toNat (j + 1) : Int) = p * (bin n j : Int) := by
    have := congrArg (Nat.cast : Nat → Int) e
    rw [Int.natCast_mul, Int.natCast_mul, hn] at this
    rw [hn, this]
    congr 1
    omega
  have e2 : (((j + 1 : Nat) : Int) * (bin p.toNat (j + 1) : Int)) % p = 0 := by rw [e']; exact Int.mul_emod_right p _
  refine no_zero_div h _ _ e2 ?_
  rw [Int.emod_eq_of_lt (by omega) hk]
  omega
theorem tm_p {p : Int} (h : vld p = true) (a b : Int) (k : Nat) (h0 : 0 < k) (hk : (k : Int) < p) : (tm a b p.toNat k) % p = 0 := by
  obtain ⟨c, hc⟩ := tm_bin a b p.toNat k
  rw [hc, ← em_mul_l, bin_p h k h0 hk, Int.zero_mul, Int.zero_emod]
theorem tm_zero (a b : Int) : ∀ n, tm a b n 0 = a ^ n
  | 0 => by simp [tm]
  | n + 1 => by rw [tm, tm_zero a b n, Int.pow_succ, Int.mul_comm]
theorem tm_self (a b : Int) : ∀ n, tm a b n n = b ^ n
  | 0 => by simp [tm]
  | n + 1 => by rw [tm, tm_over, tm_self a b n, Int.pow_succ]; grind

theorem sF_p {p : Int} (h : vld p = true) (g a b : Int) : ∀ m : Nat, (m : Int) < p → (sF g a b p.toNat (m + 1)) % p = a ^ p.toNat % p
  | 0, _ => by simp [sF, tm_zero, xk]
  | m + 1, hm => by
    rw [sF, Int.add_emod, sF_p h g a b m (by omega), ← em_mul_l, tm_p h a b (m + 1) (by omega) hm]
    simp
theorem sG_p {p : Int} (h : vld p = true) (g a b : Int) : ∀ m : Nat, (m : Int) < p → (sG g a b p.toNat (m + 1)) % p = 0
  | 0, _ => by simp [sG, xk]
  | m + 1, hm => by
    rw [sG, Int.add_emod, sG_p h g a b m (by omega), ← em_mul_l, tm_p h a b (m + 1) (by omega) hm]
    simp

theorem fermat_p {p : Int} (h : vld p = true) (a : Int) : a ^ p.toNat % p = a % p := by
  have hp := vld_pos h
  rw [show p.toNat = (p - 1).toNat + 1 from by omega, Int.pow_succ]
  by_cases ha : a % p = 0
  · rw [← em_mul_r, ha, Int.mul_zero, Int.zero_emod]
  · rw [← em_mul_l, fermat h a ha, Int.one_mul]

/-- The power with the exponent p is the conjugate. -/
theorem frob {p : Int} (h : vld p = true) (a : Int × Int) : ppow p (gen p) a p.toNat = pconj p a := by
  have hp := vld_pos h
  obtain ⟨a, b⟩ := a
  have hodd : p % 2 = 1 := by rcases vld_cases h with h | h | h | h | h | h | h <;> subst h <;> decide
  obtain ⟨m, hm⟩ : ∃ m : Nat, p.toNat = m + 1 := ⟨p.toNat - 1, by omega⟩
  have hmp : (m : Int) < p := by omega
  rw [ppow_rpow, rpow_eq]
  have hF := sF_p h (gen p) a b m hmp
  have hG := sG_p h (gen p) a b m hmp
  have hself := tm_self a b p.toNat
  have ex : xk (gen p) p.toNat = (0, gen p ^ ((p - 1) / 2).toNat) := by
    unfold xk
    rw [if_neg (by omega)]
    congr 2
    omega
  unfold pred pconj
  congr 1
  · rw [sF, ex, Int.mul_zero, Int.add_zero]
    conv => lhs; rw [show sF (gen p) a b p.toNat p.toNat = sF (gen p) a b p.toNat (m + 1) from by rw [hm]]
    rw [hF, fermat_p h]
  · rw [sG, ex, hself, Int.add_emod]
    conv => lhs; rw [show sG (gen p) a b p.toNat p.toNat = sG (gen p) a b p.toNat (m + 1) from by rw [hm]]
    rw [hG, ← em_mul_l, fermat_p h, em_mul_l, ← em_mul_r, gen_half h, Int.zero_add, Int.emod_emod_of_dvd _ (Int.dvd_refl p)]
    rw [show b * (p - 1) = -b + p * b from by grind, Int.add_mul_emod_self_left]

/-! ### the norm of a power; the group -/
theorem pnorm_pow (p g : Int) (a : Int × Int) (hp : 1 < p) : ∀ n, pnorm p g (ppow p g a n) = (pnorm p g a) ^ n % p
  | 0 => by
    have e : (1 : Int) % p = 1 := Int.emod_eq_of_lt (by omega) hp
    simp [ppow, pone, pnorm, e]
  | n + 1 => by rw [ppow, pnorm_pmul, pnorm_pow p g a hp n, em_mul_l, Int.pow_succ]
theorem pow_ne {p : Int} (h : vld p = true) (x : Int) (hx : x % p ≠ 0) : ∀ n : Nat, x ^ n % p ≠ 0
  | 0 => by have := vld_pos h; rw [Int.pow_zero, Int.emod_eq_of_lt (by omega) (by omega)]; decide
  | n + 1 => by
    intro h0
    rw [Int.pow_succ] at h0
    rcases mul_eq_zero h _ _ h0 with h1 | h1
    · exact pow_ne h x hx n h1
    · exact hx h1
theorem ppow_ne {p : Int} (h : vld p = true) (a : Int × Int) (ha : ¬ (a.1 % p = 0 ∧ a.2 % p = 0)) (n : Nat) : ¬ ((ppow p (gen p) a n).1 = 0 ∧ (ppow p (gen p) a n).2 = 0) := by
  have hp := vld_pos h
  rintro ⟨h1, h2⟩
  have e := pnorm_pow p (gen p) a (by omega) n
  have : pnorm p (gen p) (ppow p (gen p) a n) = 0 := by unfold pnorm; rw [h1, h2]; simp
  rw [this] at e
  refine pow_ne h (pnorm p (gen p) a) (fun h0 => ?_) n e.symm
  have hz : pnorm p (gen p) a = 0 := by unfold pnorm at h0 ⊢; simpa using h0
  exact ha (pnorm_eq_zero h a hz)
/-- To the power p - 1, then to the power p + 1: 1. -/
theorem order {p : Int} (h : vld p = true) (a : Int × Int) (ha : ¬ (a.1 % p = 0 ∧ a.2 % p = 0)) : ppow p (gen p) (ppow p (gen p) a (p - 1).toNat) (p + 1).toNat = (1, 0) := by
  have hp := vld_pos h
  rw [← ppow_mul, Nat.mul_comm, ppow_mul]
  have e1 : ppow p (gen p) a (p + 1).toNat = (pnorm p (gen p) a, 0) := by
    rw [show (p + 1).toNat = p.toNat + 1 from by omega, ppow, frob h, pmul_comm, pmul_conj]
  rw [e1, ppow_base]
  have hn : pnorm p (gen p) a % p ≠ 0 := by
    intro h0
    have hz : pnorm p (gen p) a = 0 := by unfold pnorm at h0 ⊢; simpa using h0
    exact ha (pnorm_eq_zero h a hz)
  rw [fermat h _ hn]
end Go.Proofs.Ytjnlnbkdnjainaa
