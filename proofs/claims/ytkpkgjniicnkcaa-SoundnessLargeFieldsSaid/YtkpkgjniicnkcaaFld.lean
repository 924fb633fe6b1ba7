/- The field modulo a known prime, on integers: what the operations of layers 1 and 2 compute, and their laws. No program in sight. -/
import Derived.Test.YtkpkgjniicnkcaaMod
namespace Go.Proofs.Ytkpkgjniicnkcaa

theorem nat_int_pow_mod (g i p : Nat) : ((g : Int) ^ i) % (p : Int) = ((g ^ i % p : Nat) : Int) := by
  rw [Int.natCast_emod, Int.natCast_pow]

theorem fermat_of {p g n f : Nat} (hp : p = n + 1) (hp1 : 1 < p) (hf : n < 2 ^ f) (h1 : pm p f g n = 1) (hall : ∀ a, a % p ≠ 0 → ∃ i, i < n ∧ g ^ i % p = a % p) (a : Int) (ha : a % (p : Int) ≠ 0) :
    a ^ n % (p : Int) = 1 := by
  rw [pm_eq p f g n hf] at h1
  have hp0 : (0 : Int) < (p : Int) := by omega
  have hb0 := Int.emod_nonneg a (Int.ne_of_gt hp0)
  have hb1 := Int.emod_lt_of_pos a hp0
  obtain ⟨b, hb⟩ := Int.eq_ofNat_of_zero_le hb0
  have hbp : b < p := by omega
  have hbb : b % p = b := Nat.mod_eq_of_lt hbp
  obtain ⟨i, _, hi⟩ := hall b (by rw [hbb]; omega)
  rw [← em_pow, hb]
  have : (b : Int) ^ n % (p : Int) = ((b ^ n % p : Nat) : Int) := nat_int_pow_mod b n p
  rw [this]
  have e : b ^ n % p = 1 := by
    rw [Nat.pow_mod, ← hi, ← Nat.pow_mod, ← Nat.pow_mul, Nat.mul_comm, Nat.pow_mul, Nat.pow_mod, h1, Nat.one_pow, Nat.mod_eq_of_lt hp1]
  rw [e]; rfl

theorem fermat {p : Int} (h : vld p = true) (a : Int) (ha : a % p ≠ 0) : a ^ (p - 1).toNat % p = 1 := by
  rcases vld_cases h with h | h | h | h | h | h | h <;> subst h
  · exact fermat_of (p := 17) (n := 16) rfl (by decide) (by decide) pm17 all17 a ha
  · exact fermat_of (p := 97) (n := 96) rfl (by decide) (by decide) pm97 all97 a ha
  · exact fermat_of (p := 193) (n := 192) rfl (by decide) (by decide) pm193 all193 a ha
  · exact fermat_of (p := 257) (n := 256) rfl (by decide) (by decide) pm257 all257 a ha
  · exact fermat_of (p := 12289) (n := 12288) rfl (by decide) (by decide) pm12289 all12289 a ha
  · exact fermat_of (p := 65537) (n := 65536) rfl (by decide) (by decide) pm65537 all65537 a ha
  · exact fermat_of (p := 18446744069414584321) (n := 18446744069414584320) rfl (by decide) (by decide) pmBig allBig a ha

theorem gen_half {p : Int} (h : vld p = true) : gen p ^ ((p - 1) / 2).toNat % p = p - 1 := by
  have key : ∀ (p g n f r : Nat), n < 2 ^ f → pm p f g n = r → ((g : Int) ^ n) % (p : Int) = (r : Int) := fun p g n f r hf hr => by
    rw [nat_int_pow_mod, ← pm_eq p f g n hf, hr]
  rcases vld_cases h with h | h | h | h | h | h | h <;> subst h
  · exact key 17 3 8 5 16 (by decide) (by decide +kernel)
  · exact key 97 5 48 7 96 (by decide) (by decide +kernel)
  · exact key 193 5 96 8 192 (by decide) (by decide +kernel)
  · exact key 257 3 128 8 256 (by decide) (by decide +kernel)
  · exact key 12289 11 6144 14 12288 (by decide) (by decide +kernel)
  · exact key 65537 3 32768 17 65536 (by decide) (by decide +kernel)
  · exact key 18446744069414584321 7 9223372034707292160 64 18446744069414584320 (by decide) (by decide +kernel)

/-- No zero divisors. -/
theorem no_zero_div {p : Int} (h : vld p = true) (a b : Int) (hab : (a * b) % p = 0) (ha : a % p ≠ 0) : b % p = 0 := by
  have hf := fermat h a ha
  have hp := vld_pos h
  obtain ⟨n, hn⟩ : ∃ n, (p - 1).toNat = n + 1 := ⟨(p - 1).toNat - 1, by omega⟩
  rw [hn] at hf
  have e1 : (a ^ n * (a * b)) % p = 0 := by rw [← em_mul_r, hab, Int.mul_zero, Int.zero_emod]
  have e2 : a ^ n * (a * b) = a ^ (n + 1) * b := by rw [Int.pow_succ, Int.mul_assoc]
  rw [e2, ← em_mul_l, hf, Int.one_mul] at e1
  exact e1

theorem mul_eq_zero {p : Int} (h : vld p = true) (a b : Int) (hab : (a * b) % p = 0) : a % p = 0 ∨ b % p = 0 := by
  by_cases ha : a % p = 0
  · exact .inl ha
  · exact .inr (no_zero_div h a b hab ha)

/-- Cancelling. -/
theorem mul_cancel {p : Int} (h : vld p = true) (a b c : Int) (ha : a % p ≠ 0) (hab : (a * b) % p = (a * c) % p) : b % p = c % p := by
  have e : (a * (b - c)) % p = 0 := by rw [Int.mul_sub, Int.sub_emod, hab, Int.sub_self, Int.zero_emod]
  have := no_zero_div h a (b - c) e ha
  exact Int.emod_eq_emod_iff_emod_sub_eq_zero.2 this

/-! ### what the operations compute -/
def fred (p a : Int) : Int := if vld p then a % p else 0
def fadd (p a b : Int) : Int := if vld p then (a + b) % p else 0
def fneg (p a : Int) : Int := if vld p then (-a) % p else 0
def fsub (p a b : Int) : Int := if vld p then (a - b) % p else 0
def fmul (p a b : Int) : Int := if vld p then (a * b) % p else 0
def fpow (p a : Int) (e : Nat) : Int := if vld p then a ^ e % p else 0
def finv (p a : Int) : Int := fpow p a (p - 2).toNat

theorem finv_mul {p : Int} (h : vld p = true) (a : Int) (ha : a % p ≠ 0) : (a * finv p a) % p = 1 := by
  have hf := fermat h a ha
  have hp := vld_pos h
  unfold finv fpow
  rw [if_pos h, em_mul_r]
  have : a * a ^ (p - 2).toNat = a ^ (p - 1).toNat := by
    rw [show (p - 1).toNat = (p - 2).toNat + 1 from by omega, Int.pow_succ, Int.mul_comm]
  rw [this, hf]
theorem finv_zero {p : Int} (h : vld p = true) (a : Int) (ha : a % p = 0) : finv p a = 0 := by
  have hp := vld_pos h
  unfold finv fpow
  rw [if_pos h, ← em_pow, ha, show (p - 2).toNat = (p - 3).toNat + 1 from by omega, Int.pow_succ, Int.mul_zero, Int.zero_emod]
end Go.Proofs.Ytkpkgjniicnkcaa
