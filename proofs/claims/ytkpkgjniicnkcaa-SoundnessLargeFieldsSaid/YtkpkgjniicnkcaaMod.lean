/- Plain arithmetic modulo a known prime: remainders, the order of the generator, inverses. No program in sight. -/
namespace Go.Proofs.Ytkpkgjniicnkcaa

/-! ### remainders of sums and products -/
theorem em_add_l (a b p : Int) : (a % p + b) % p = (a + b) % p := by simp
theorem em_add_r (a b p : Int) : (a + b % p) % p = (a + b) % p := by simp
theorem em_sub_l (a b p : Int) : (a % p - b) % p = (a - b) % p := by simp
theorem em_sub_r (a b p : Int) : (a - b % p) % p = (a - b) % p := by simp
theorem em_neg (a p : Int) : (-(a % p)) % p = (-a) % p := by rw [← Int.zero_sub, em_sub_r, Int.zero_sub]
theorem em_mul_l (a b p : Int) : (a % p * b) % p = (a * b) % p := by rw [Int.mul_emod, Int.emod_emod_of_dvd _ (Int.dvd_refl p), ← Int.mul_emod]
theorem em_mul_r (a b p : Int) : (a * (b % p)) % p = (a * b) % p := by rw [Int.mul_comm, em_mul_l, Int.mul_comm]
theorem em_pow (a p : Int) (n : Nat) : ((a % p) ^ n) % p = (a ^ n) % p := by
  induction n with
  | zero => rw [Int.pow_zero, Int.pow_zero]
  | succ n ih => rw [Int.pow_succ, Int.pow_succ, em_mul_r, ← em_mul_l, ih, em_mul_l]

/-! ### a fast power, for the kernel -/
def pm (p : Nat) : Nat → Nat → Nat → Nat
  | 0, _, _ => 1 % p
  | f + 1, a, e => if e = 0 then 1 % p else if e % 2 = 1 then a * pm p f (a * a % p) (e / 2) % p else pm p f (a * a % p) (e / 2)
theorem pm_eq (p : Nat) : ∀ f a e, e < 2 ^ f → pm p f a e = a ^ e % p
  | 0, a, e, h => by
    have : e = 0 := by omega
    subst this; simp [pm]
  | f + 1, a, e, h => by
    unfold pm
    split
    · rename_i h0; subst h0; simp
    · have ih := pm_eq p f (a * a % p) (e / 2) (by rw [Nat.pow_succ] at h; omega)
      have hp : (a * a % p) ^ (e / 2) % p = (a * a) ^ (e / 2) % p := by rw [← Nat.pow_mod]
      have h2 : (a * a) ^ (e / 2) = a ^ (2 * (e / 2)) := by rw [Nat.pow_mul, Nat.pow_two]
      split
      · rename_i h1
        rw [ih, hp, h2]
        have : e = 2 * (e / 2) + 1 := by omega
        conv => rhs; rw [this, Nat.pow_succ, Nat.mul_comm]
        rw [Nat.mul_mod, Nat.mod_mod, ← Nat.mul_mod]
      · rename_i h1
        rw [ih, hp, h2]
        have : e = 2 * (e / 2) := by omega
        conv => rhs; rw [this]

/-! ### an injection of [0, n) into itself is onto -/
theorem onto_of_inj : ∀ (n : Nat) (f : Nat → Nat), (∀ i, i < n → f i < n) → (∀ i j, i < n → j < n → f i = f j → i = j) → ∀ y, y < n → ∃ i, i < n ∧ f i = y
  | 0, _, _, _, y, hy => absurd hy (by omega)
  | n + 1, f, hr, hi, y, hy => by
    let f' : Nat → Nat := fun i => if f i = n then f n else f i
    have hr' : ∀ i, i < n → f' i < n := by
      intro i hin
      show (if f i = n then f n else f i) < n
      have h1 := hr i (by omega)
      have h2 := hr n (by omega)
      split
      · rename_i h
        have : f n ≠ n := fun h3 => by have := hi i n (by omega) (by omega) (by omega); omega
        omega
      · omega
    have hi' : ∀ i j, i < n → j < n → f' i = f' j → i = j := by
      intro i j hin hjn he
      have he' : (if f i = n then f n else f i) = (if f j = n then f n else f j) := he
      split at he' <;> split at he'
      · exact hi i j (by omega) (by omega) (by omega)
      · have := hi n j (by omega) (by omega) he'; omega
      · have := hi i n (by omega) (by omega) he'; omega
      · exact hi i j (by omega) (by omega) he'
    have ih := onto_of_inj n f' hr' hi'
    by_cases hfn : f n = y
    · exact ⟨n, by omega, hfn⟩
    · by_cases hyn : y = n
      · subst hyn
        have h2 := hr y (by omega)
        obtain ⟨i, hin, he⟩ := ih (f y) (by omega)
        have he' : (if f i = y then f y else f i) = f y := he
        split at he'
        · exact ⟨i, by omega, by assumption⟩
        · have := hi i y (by omega) (by omega) he'; omega
      · obtain ⟨i, hin, he⟩ := ih y (by omega)
        have he' : (if f i = n then f n else f i) = y := he
        split at he'
        · exact absurd he' hfn
        · exact ⟨i, by omega, he'⟩

/-! ### the order of the generator -/
theorem pow_gcd (p g : Nat) : ∀ a b, g ^ a % p = 1 % p → g ^ b % p = 1 % p → g ^ (Nat.gcd a b) % p = 1 % p := by
  intro a b
  induction a, b using Nat.gcd.induction with
  | H0 n => intro _ h; simpa using h
  | H1 m n hm ih =>
    intro h1 h2
    rw [Nat.gcd_rec]
    refine ih ?_ h1
    have e : g ^ n = g ^ (m * (n / m)) * g ^ (n % m) := by rw [← Nat.pow_add, Nat.div_add_mod]
    rw [e, Nat.mul_mod, Nat.pow_mul, Nat.pow_mod, h1, ← Nat.pow_mod, Nat.one_pow, ← Nat.mul_mod, Nat.one_mul] at h2
    exact h2

theorem coprime_of_prime {r m : Nat} (hr : ∀ d, d ∣ r → d = 1 ∨ d = r) (hm : ¬ r ∣ m) : Nat.Coprime m r := by
  rcases hr (Nat.gcd m r) (Nat.gcd_dvd_right m r) with h | h
  · exact h
  · exact absurd (h ▸ Nat.gcd_dvd_left m r) hm

theorem coprime_prod {m : Nat} : ∀ (rs : List Nat), (∀ r ∈ rs, Nat.Coprime m r) → Nat.Coprime m rs.prod
  | [], _ => by simp
  | r :: rs, h => by
    rw [List.prod_cons]
    exact Nat.Coprime.mul_right (h r (by simp)) (coprime_prod rs (fun x hx => h x (by simp [hx])))

/-- If g to the n is 1 and g to the n / r is not, for each prime r that n has, then every number that is not 0 is a power of g. -/
theorem powers_all {p n g k : Nat} (rs : List Nat) (hp : p = n + 1) (hn : 1 < p) (hprime : ∀ r ∈ rs, ∀ d, d ∣ r → d = 1 ∨ d = r) (hdv : n ∣ rs.prod ^ k)
    (h1 : g ^ n % p = 1) (hne : ∀ r ∈ rs, g ^ (n / r) % p ≠ 1) : ∀ a, a % p ≠ 0 → ∃ i, i < n ∧ g ^ i % p = a % p := by
  have h1' : g ^ n % p = 1 % p := by rw [h1, Nat.mod_eq_of_lt hn]
  have ord : ∀ d, 0 < d → d < n → g ^ d % p ≠ 1 % p := by
    intro d hd0 hdn hd
    have hg := pow_gcd p g d n hd h1'
    have hD : Nat.gcd d n ∣ n := Nat.gcd_dvd_right d n
    have hDd : Nat.gcd d n ≤ d := Nat.gcd_le_left n hd0
    obtain ⟨m, hm⟩ := hD
    have hm1 : m ≠ 1 := fun h => by rw [h] at hm; omega
    have hcop : ∀ r ∈ rs, Nat.Coprime m r := by
      intro r hr
      refine coprime_of_prime (hprime r hr) (fun ⟨c, hc⟩ => ?_)
      apply hne r hr
      have hr0 : 0 < r := by
        rcases Nat.eq_zero_or_pos r with h | h
        · subst h
          rw [Nat.zero_mul] at hc; subst hc; rw [Nat.mul_zero] at hm; omega
        · exact h
      have : n / r = Nat.gcd d n * c := by
        conv => lhs; rw [hm, hc]
        rw [show Nat.gcd d n * (r * c) = r * (Nat.gcd d n * c) from by rw [Nat.mul_left_comm], Nat.mul_div_cancel_left _ hr0]
      rw [this, Nat.pow_mul, Nat.pow_mod, hg, ← Nat.pow_mod, Nat.one_pow, Nat.mod_eq_of_lt hn]
    have hc2 := Nat.Coprime.pow_right k (coprime_prod rs hcop)
    have hmd : m ∣ rs.prod ^ k := Nat.dvd_trans ⟨Nat.gcd d n, by rw [Nat.mul_comm]; exact hm⟩ hdv
    exact hm1 (Nat.Coprime.eq_one_of_dvd hc2 hmd)
  have hunit : ∀ i, i < n → g ^ i % p ≠ 0 := by
    intro i hi h
    have e : g ^ n = g ^ i * g ^ (n - i) := by rw [← Nat.pow_add]; congr 1; omega
    rw [e, Nat.mul_mod, h, Nat.zero_mul, Nat.zero_mod] at h1
    exact absurd h1 (by omega)
  have cancel : ∀ i j, i < j → j < n → g ^ i % p ≠ g ^ j % p := by
    intro i j hij hj he
    apply ord (j - i) (by omega) (by omega)
    have e1 : g ^ (n - i) * g ^ i % p = 1 % p := by rw [← Nat.pow_add, show n - i + i = n from by omega]; exact h1'
    have e2 : g ^ (n - i) * g ^ j % p = 1 % p := by rw [Nat.mul_mod, ← he, ← Nat.mul_mod]; exact e1
    rw [← Nat.pow_add, show n - i + j = (j - i) + n from by omega, Nat.pow_add, Nat.mul_mod, h1', ← Nat.mul_mod, Nat.mul_one] at e2
    exact e2
  have hlt : ∀ i, i < n → g ^ i % p - 1 < n := fun i hi => by
    have h1 := hunit i hi
    have h2 : g ^ i % p < p := Nat.mod_lt _ (by omega)
    omega
  have hinj : ∀ i j, i < n → j < n → g ^ i % p - 1 = g ^ j % p - 1 → i = j := by
    intro i j hi hj he
    have h1 := hunit i hi
    have h2 := hunit j hj
    rcases Nat.lt_trichotomy i j with h | h | h
    · exact absurd (by omega) (cancel i j h hj)
    · exact h
    · exact absurd (by omega) (cancel j i h hi)
  intro a ha
  have hap : a % p < p := Nat.mod_lt _ (by omega)
  obtain ⟨i, hi, he⟩ := onto_of_inj n (fun i => g ^ i % p - 1) hlt hinj (a % p - 1) (by omega)
  exact ⟨i, hi, by have := hunit i hi; omega⟩

theorem prime_of_small {r : Nat} (s : Nat) (hs : r < s * s) (h2 : 1 < r) (h : ∀ d, d < s → d ∣ r → d = 1 ∨ d = r) : ∀ d, d ∣ r → d = 1 ∨ d = r := by
  rintro d ⟨e, he⟩
  rcases Nat.lt_or_ge d s with hd | hd
  · exact h d hd ⟨e, he⟩
  · have hes : e < s := by
      rcases Nat.lt_or_ge e s with h' | h'
      · exact h'
      · have := Nat.mul_le_mul hd h'; omega
    rcases h e hes ⟨d, by rw [Nat.mul_comm]; exact he⟩ with h' | h'
    · right; rw [he, h', Nat.mul_one]
    · left
      subst h'
      have he0 : 0 < e := by omega
      have : 1 * e = d * e := by omega
      exact (Nat.eq_of_mul_eq_mul_right he0 this).symm

theorem pr2 : ∀ d, d ∣ 2 → d = 1 ∨ d = 2 := prime_of_small 2 (by omega) (by omega) (by decide)
theorem pr3 : ∀ d, d ∣ 3 → d = 1 ∨ d = 3 := prime_of_small 2 (by omega) (by omega) (by decide)
theorem pr5 : ∀ d, d ∣ 5 → d = 1 ∨ d = 5 := prime_of_small 3 (by omega) (by omega) (by decide)
theorem pr17 : ∀ d, d ∣ 17 → d = 1 ∨ d = 17 := prime_of_small 5 (by omega) (by omega) (by decide)
theorem pr257 : ∀ d, d ∣ 257 → d = 1 ∨ d = 257 := prime_of_small 17 (by omega) (by omega) (by decide)
theorem pr65537 : ∀ d, d ∣ 65537 → d = 1 ∨ d = 65537 := prime_of_small 257 (by omega) (by omega) (by decide +kernel)

/-! ### the known primes -/
/-- p is one of the seven known primes. -/
def vld (p : Int) : Bool := p == 17 || p == 97 || p == 193 || p == 257 || p == 12289 || p == 65537 || p == 18446744069414584321
theorem vld_cases {p : Int} (h : vld p = true) : p = 17 ∨ p = 97 ∨ p = 193 ∨ p = 257 ∨ p = 12289 ∨ p = 65537 ∨ p = 18446744069414584321 := by
  simpa [vld, or_assoc] using h
theorem vld_pos {p : Int} (h : vld p = true) : 17 ≤ p ∧ p ≤ 18446744069414584321 := by
  rcases vld_cases h with h | h | h | h | h | h | h <;> subst h <;> decide
def gen (p : Int) : Int := if p = 17 then 3 else if p = 97 then 5 else if p = 193 then 5 else if p = 257 then 3 else if p = 12289 then 11 else if p = 65537 then 3 else if p = 18446744069414584321 then 7 else 0
def adi (p : Int) : Int := if p = 17 then 4 else if p = 97 then 5 else if p = 193 then 6 else if p = 257 then 8 else if p = 12289 then 12 else if p = 65537 then 16 else if p = 18446744069414584321 then 32 else 0
def expo (p : Int) : Int := if p = 17 then 3 else if p = 97 then 5 else if p = 193 then 5 else if p = 257 then 3 else if p = 12289 then 5 else if p = 65537 then 3 else if p = 18446744069414584321 then 7 else 0

/-- The same, the powers reckoned fast. -/
theorem powers_pm {p n g k f : Nat} (rs : List Nat) (hp : p = n + 1) (hn : 1 < p) (hprime : ∀ r ∈ rs, ∀ d, d ∣ r → d = 1 ∨ d = r) (hdv : n ∣ rs.prod ^ k)
    (hf : n < 2 ^ f) (h1 : pm p f g n = 1) (hne : ∀ r ∈ rs, pm p f g (n / r) ≠ 1) : ∀ a, a % p ≠ 0 → ∃ i, i < n ∧ g ^ i % p = a % p :=
  powers_all rs hp hn hprime hdv (by rw [← pm_eq p f g n hf]; exact h1) (fun r hr => by
    rw [← pm_eq p f g (n / r) (Nat.lt_of_le_of_lt (Nat.div_le_self n r) hf)]; exact hne r hr)
theorem pm17 : pm 17 5 3 16 = 1 := by decide +kernel
theorem all17 : ∀ a, a % 17 ≠ 0 → ∃ i, i < 16 ∧ 3 ^ i % 17 = a % 17 :=
  powers_pm (k := 32) (f := 5) [2] rfl (by decide) (by simp; exact pr2) (by decide +kernel) (by decide) (by decide +kernel) (by decide +kernel)
theorem pm97 : pm 97 7 5 96 = 1 := by decide +kernel
theorem all97 : ∀ a, a % 97 ≠ 0 → ∃ i, i < 96 ∧ 5 ^ i % 97 = a % 97 :=
  powers_pm (k := 32) (f := 7) [2, 3] rfl (by decide) (by simp; exact ⟨pr2, pr3⟩) (by decide +kernel) (by decide) (by decide +kernel) (by decide +kernel)
theorem pm193 : pm 193 8 5 192 = 1 := by decide +kernel
theorem all193 : ∀ a, a % 193 ≠ 0 → ∃ i, i < 192 ∧ 5 ^ i % 193 = a % 193 :=
  powers_pm (k := 32) (f := 8) [2, 3] rfl (by decide) (by simp; exact ⟨pr2, pr3⟩) (by decide +kernel) (by decide) (by decide +kernel) (by decide +kernel)
theorem pm257 : pm 257 9 3 256 = 1 := by decide +kernel
theorem all257 : ∀ a, a % 257 ≠ 0 → ∃ i, i < 256 ∧ 3 ^ i % 257 = a % 257 :=
  powers_pm (k := 32) (f := 9) [2] rfl (by decide) (by simp; exact pr2) (by decide +kernel) (by decide) (by decide +kernel) (by decide +kernel)
theorem pm12289 : pm 12289 14 11 12288 = 1 := by decide +kernel
theorem all12289 : ∀ a, a % 12289 ≠ 0 → ∃ i, i < 12288 ∧ 11 ^ i % 12289 = a % 12289 :=
  powers_pm (k := 32) (f := 14) [2, 3] rfl (by decide) (by simp; exact ⟨pr2, pr3⟩) (by decide +kernel) (by decide) (by decide +kernel) (by decide +kernel)
theorem pm65537 : pm 65537 17 3 65536 = 1 := by decide +kernel
theorem all65537 : ∀ a, a % 65537 ≠ 0 → ∃ i, i < 65536 ∧ 3 ^ i % 65537 = a % 65537 :=
  powers_pm (k := 32) (f := 17) [2] rfl (by decide) (by simp; exact pr2) (by decide +kernel) (by decide) (by decide +kernel) (by decide +kernel)
theorem pmBig : pm 18446744069414584321 64 7 18446744069414584320 = 1 := by decide +kernel
theorem allBig : ∀ a, a % 18446744069414584321 ≠ 0 → ∃ i, i < 18446744069414584320 ∧ 7 ^ i % 18446744069414584321 = a % 18446744069414584321 :=
  powers_pm (k := 32) (f := 64) [2, 3, 5, 17, 257, 65537] rfl (by decide) (by simp; exact ⟨pr2, pr3, pr5, pr17, pr257, pr65537⟩) (by decide +kernel) (by decide) (by decide +kernel) (by decide +kernel)
end Go.Proofs.Ytkpkgjniicnkcaa
