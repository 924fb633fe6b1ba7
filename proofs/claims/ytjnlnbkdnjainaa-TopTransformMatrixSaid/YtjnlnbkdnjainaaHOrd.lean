/- The powers of the generator below its order are all different. -/
import Derived.Test.YtjnlnbkdnjainaaQA
namespace Go.Proofs.Ytjnlnbkdnjainaa

theorem powers_inj {p n g k f : Nat} (rs : List Nat) (hp : p = n + 1) (hn : 1 < p) (hprime : ∀ r ∈ rs, ∀ d, d ∣ r → d = 1 ∨ d = r) (hdv : n ∣ rs.prod ^ k)
    (hf : n < 2 ^ f) (h1 : pm p f g n = 1) (hne : ∀ r ∈ rs, pm p f g (n / r) ≠ 1) : ∀ i j, i < n → j < n → g ^ i % p = g ^ j % p → i = j := by
  have hne : ∀ r ∈ rs, g ^ (n / r) % p ≠ 1 := fun r hr => by
    rw [← pm_eq p f g (n / r) (Nat.lt_of_le_of_lt (Nat.div_le_self n r) hf)]; exact hne r hr
  have h1 : g ^ n % p = 1 := by rw [← pm_eq p f g n hf]; exact h1
  have h1' : g ^ n % p = 1 % p := by rw [h1, Nat.mod_eq_of_lt hn]
  have ord : ∀ d, 0 < d → d < n → g ^ d % p ≠ 1 % p := by
    intro d hd0 hdn hd
    have hg := pow_gcd p g d n hd h1'
    have hD : Nat.gcd d n ∣ n := Nat.gcd_dvd_right d n
    have hDd : Nat.gcd d n ≤ d := Nat.gcd_le_left n hd0
    obtain ⟨m, hm⟩ := hD
    have hm1 : m ≠ 1 := fun h => by rw [h] at hm; omega
    have hcop : ∀ r ∈ rs, Nat.Coprime m r := by
      intro r hr
      refine coprime_of_prime (hprime r hr) (fun ⟨c, hc⟩ => ?_)
      apply hne r hr
      have hr0 : 0 < r := by
        rcases Nat.eq_zero_or_pos r with h | h
        · subst h
          rw [Nat.zero_mul] at hc; subst hc; rw [Nat.mul_zero] at hm; omega
        · exact h
      have : n / r = Nat.gcd d n * c := by
        conv => lhs; rw [hm, hc]
        rw [show Nat.gcd d n * (r * c) = r * (Nat.gcd d n * c) from by rw [Nat.mul_left_comm], Nat.mul_div_cancel_left _ hr0]
      rw [this, Nat.pow_mul, Nat.pow_mod, hg, ← Nat.pow_mod, Nat.one_pow, Nat.mod_eq_of_lt hn]
    have hc2 := Nat.Coprime.pow_right k (coprime_prod rs hcop)
    have hmd : m ∣ rs.prod ^ k := Nat.dvd_trans ⟨Nat.gcd d n, by rw [Nat.mul_comm]; exact hm⟩ hdv
    exact hm1 (Nat.Coprime.eq_one_of_dvd hc2 hmd)
  have hunit : ∀ i, i < n → g ^ i % p ≠ 0 := by
    intro i hi h
    have e : g ^ n = g ^ i * g ^ (n - i) := by rw [← Nat.pow_add]; congr 1; omega
    rw [e, Nat.mul_mod, h, Nat.zero_mul, Nat.zero_mod] at h1
    exact absurd h1 (by omega)
  have cancel : ∀ i j, i < j → j < n → g ^ i % p ≠ g ^ j % p := by
    intro i j hij hj he
    apply ord (j - i) (by omega) (by omega)
    have e1 : g ^ (n - i) * g ^ i % p = 1 % p := by rw [← Nat.pow_add, show n - i + i = n from by omega]; exact h1'
    have e2 : g ^ (n - i) * g ^ j % p = 1 % p := by rw [Nat.mul_mod, ← he, ← Nat.mul_mod]; exact e1
    rw [← Nat.pow_add, show n - i + j = (j - i) + n from by omega, Nat.pow_add, Nat.mul_mod, h1', ← Nat.mul_mod, Nat.mul_one] at e2
    exact e2
  intro i j hi hj e
  rcases Nat.lt_trichotomy i j with h | h | h
  · exact absurd e (cancel i j h hj)
  · exact h
  · exact absurd e.symm (cancel j i h hi)
theorem inj17 : ∀ i j, i < 16 → j < 16 → 3 ^ i % 17 = 3 ^ j % 17 → i = j :=
  powers_inj (k := 32) (f := 5) [2] rfl (by decide) (by simp; exact pr2) (by decide +kernel) (by decide) (by decide +kernel) (by decide +kernel)
theorem inj97 : ∀ i j, i < 96 → j < 96 → 5 ^ i % 97 = 5 ^ j % 97 → i = j :=
  powers_inj (k := 32) (f := 7) [2, 3] rfl (by decide) (by simp; exact ⟨pr2, pr3⟩) (by decide +kernel) (by decide) (by decide +kernel) (by decide +kernel)
theorem inj193 : ∀ i j, i < 192 → j < 192 → 5 ^ i % 193 = 5 ^ j % 193 → i = j :=
  powers_inj (k := 32) (f := 8) [2, 3] rfl (by decide) (by simp; exact ⟨pr2, pr3⟩) (by decide +kernel) (by decide) (by decide +kernel) (by decide +kernel)
theorem inj257 : ∀ i j, i < 256 → j < 256 → 3 ^ i % 257 = 3 ^ j % 257 → i = j :=
  powers_inj (k := 32) (f := 9) [2] rfl (by decide) (by simp; exact pr2) (by decide +kernel) (by decide) (by decide +kernel) (by decide +kernel)
theorem inj12289 : ∀ i j, i < 12288 → j < 12288 → 11 ^ i % 12289 = 11 ^ j % 12289 → i = j :=
  powers_inj (k := 32) (f := 14) [2, 3] rfl (by decide) (by simp; exact ⟨pr2, pr3⟩) (by decide +kernel) (by decide) (by decide +kernel) (by decide +kernel)
theorem inj65537 : ∀ i j, i < 65536 → j < 65536 → 3 ^ i % 65537 = 3 ^ j % 65537 → i = j :=
  powers_inj (k := 32) (f := 17) [2] rfl (by decide) (by simp; exact pr2) (by decide +kernel) (by decide) (by decide +kernel) (by decide +kernel)
theorem injBig : ∀ i j, i < 18446744069414584320 → j < 18446744069414584320 → 7 ^ i % 18446744069414584321 = 7 ^ j % 18446744069414584321 → i = j :=
  powers_inj (k := 32) (f := 64) [2, 3, 5, 17, 257, 65537] rfl (by decide) (by simp; exact ⟨pr2, pr3, pr5, pr17, pr257, pr65537⟩) (by decide +kernel) (by decide) (by decide +kernel) (by decide +kernel)
theorem gen_inj {p : Int} (h : vld p = true) (i j : Nat) (hi : (i : Int) < p - 1) (hj : (j : Int) < p - 1) (e : gen p ^ i % p = gen p ^ j % p) : i = j := by
  have key : ∀ g q : Nat, ((g : Int) ^ i) % (q : Int) = ((g : Int) ^ j) % (q : Int) → g ^ i % q = g ^ j % q := fun g q h => by
    rw [nat_int_pow_mod, nat_int_pow_mod] at h
    exact Int.ofNat.inj h
  rcases vld_cases h with h | h | h | h | h | h | h <;> subst h
  · exact inj17 i j (by omega) (by omega) (key 3 17 e)
  · exact inj97 i j (by omega) (by omega) (key 5 97 e)
  · exact inj193 i j (by omega) (by omega) (key 5 193 e)
  · exact inj257 i j (by omega) (by omega) (key 3 257 e)
  · exact inj12289 i j (by omega) (by omega) (key 11 12289 e)
  · exact inj65537 i j (by omega) (by omega) (key 3 65537 e)
  · exact injBig i j (by omega) (by omega) (key 7 18446744069414584321 e)
end Go.Proofs.Ytjnlnbkdnjainaa
