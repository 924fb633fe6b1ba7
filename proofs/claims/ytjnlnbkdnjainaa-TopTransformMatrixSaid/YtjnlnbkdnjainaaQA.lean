/- Lemmas of several texts in one file: Mod, Fld, Knuth, Bits, Tail, Pre. -/
import Derived.Test.YtjnlnbkdnjainaaChecked
import Derived.WalkKit
import Derived.WalkSpells
import Derived.Outline
import Derived.RowKit3
import Derived.Lib.Mul64
import Derived.Lib.Strings
import Derived.Lib.Slices
import Derived.Lib.Small
import Derived.Lib.Walk
import Derived.Lib.BitFns
import Derived.Laws.Bits64b
import Derived.Laws.Externs
import Derived.Deep.QuietTactic
import Derived.Lib.Hide
import Derived.Lib.QuietBelow
import Derived.BigQuiet
import Derived.Deep.LoopGhost
import Derived.Deep.DeepCutAuto
import Derived.Deep.CutBlock
import Derived.Deep.Light
/- Plain arithmetic modulo a known prime: remainders, the order of the generator, inverses. No program in sight. -/
namespace Go.Proofs.Ytjnlnbkdnjainaa

/-! ### remainders of sums and products -/
theorem em_add_l (a b p : Int) : (a % p + b) % p = (a + b) % p := by simp
theorem em_add_r (a b p : Int) : (a + b % p) % p = (a + b) % p := by simp
theorem em_sub_l (a b p : Int) : (a % p - b) % p = (a - b) % p := by simp
theorem em_sub_r (a b p : Int) : (a - b % p) % p = (a - b) % p := by simp
theorem em_neg (a p : Int) : (-(a % p)) % p = (-a) % p := by rw [← Int.zero_sub, em_sub_r, Int.zero_sub]
theorem em_mul_l (a b p : Int) : (a % p * b) % p = (a * b) % p := by rw [Int.mul_emod, Int.emod_emod_of_dvd _ (Int.dvd_refl p), ← Int.mul_emod]
theorem em_mul_r (a b p : Int) : (a * (b % p)) % p = (a * b) % p := by rw [Int.mul_comm, em_mul_l, Int.mul_comm]
theorem em_pow (a p : Int) (n : Nat) : ((a % p) ^ n) % p = (a ^ n) % p := by
  induction n with
  | zero => rw [Int.pow_zero, Int.pow_zero]
  | succ n ih => rw [Int.pow_succ, Int.pow_succ, em_mul_r, ← em_mul_l, ih, em_mul_l]

/-! ### a fast power, for the kernel -/
def pm (p : Nat) : Nat → Nat → Nat → Nat
  | 0, _, _ => 1 % p
  | f + 1, a, e => if e = 0 then 1 % p else if e % 2 = 1 then a * pm p f (a * a % p) (e / 2) % p else pm p f (a * a % p) (e / 2)
theorem pm_eq (p : Nat) : ∀ f a e, e < 2 ^ f → pm p f a e = a ^ e % p
  | 0, a, e, h => by
    have : e = 0 := by omega
    subst this; simp [pm]
  | f + 1, a, e, h => by
    unfold pm
    split
    · rename_i h0; subst h0; simp
    · have ih := pm_eq p f (a * a % p) (e / 2) (by rw [Nat.pow_succ] at h; omega)
      have hp : (a * a % p) ^ (e / 2) % p = (a * a) ^ (e / 2) % p := by rw [← Nat.pow_mod]
      have h2 : (a * a) ^ (e / 2) = a ^ (2 * (e / 2)) := by rw [Nat.pow_mul, Nat.pow_two]
      split
      · rename_i h1
        rw [ih, hp, h2]
        have : e = 2 * (e / 2) + 1 := by omega
        conv => rhs; rw [this, Nat.pow_succ, Nat.mul_comm]
        rw [Nat.mul_mod, Nat.mod_mod, ← Nat.mul_mod]
      · rename_i h1
        rw [ih, hp, h2]
        have : e = 2 * (e / 2) := by omega
        conv => rhs; rw [this]

/-! ### an injection of [0, n) into itself is onto -/
theorem onto_of_inj : ∀ (n : Nat) (f : Nat → Nat), (∀ i, i < n → f i < n) → (∀ i j, i < n → j < n → f i = f j → i = j) → ∀ y, y < n → ∃ i, i < n ∧ f i = y
  | 0, _, _, _, y, hy => absurd hy (by omega)
  | n + 1, f, hr, hi, y, hy => by
    let f' : Nat → Nat := fun i => if f i = n then f n else f i
    have hr' : ∀ i, i < n → f' i < n := by
      intro i hin
      show (if f i = n then f n else f i) < n
      have h1 := hr i (by omega)
      have h2 := hr n (by omega)
      split
      · rename_i h
        have : f n ≠ n := fun h3 => by have := hi i n (by omega) (by omega) (by omega); omega
        omega
      · omega
    have hi' : ∀ i j, i < n → j < n → f' i = f' j → i = j := by
      intro i j hin hjn he
      have he' : (if f i = n then f n else f i) = (if f j = n then f n else f j) := he
      split at he' <;> split at he'
      · exact hi i j (by omega) (by omega) (by omega)
      · have := hi n j (by omega) (by omega) he'; omega
      · have := hi i n (by omega) (by omega) he'; omega
      · exact hi i j (by omega) (by omega) he'
    have ih := onto_of_inj n f' hr' hi'
    by_cases hfn : f n = y
    · exact ⟨n, by omega, hfn⟩
    · by_cases hyn : y = n
      · subst hyn
        have h2 := hr y (by omega)
        obtain ⟨i, hin, he⟩ := ih (f y) (by omega)
        have he' : (if f i = y then f y else f i) = f y := he
        split at he'
        · exact ⟨i, by omega, by assumption⟩
        · have := hi i y (by omega) (by omega) he'; omega
      · obtain ⟨i, hin, he⟩ := ih y (by omega)
        have he' : (if f i = n then f n else f i) = y := he
        split at he'
        · exact absurd he' hfn
        · exact ⟨i, by omega, he'⟩

/-! ### the order of the generator -/
theorem pow_gcd (p g : Nat) : ∀ a b, g ^ a % p = 1 % p → g ^ b % p = 1 % p → g ^ (Nat.gcd a b) % p = 1 % p := by
  intro a b
  induction a, b using Nat.gcd.induction with
  | H0 n => intro _ h; simpa using h
  | H1 m n hm ih =>
    intro h1 h2
    rw [Nat.gcd_rec]
    refine ih ?_ h1
    have e : g ^ n = g ^ (m * (n / m)) * g ^ (n % m) := by rw [← Nat.pow_add, Nat.div_add_mod]
    rw [e, Nat.mul_mod, Nat.pow_mul, Nat.pow_mod, h1, ← Nat.pow_mod, Nat.one_pow, ← Nat.mul_mod, Nat.one_mul] at h2
    exact h2

theorem coprime_of_prime {r m : Nat} (hr : ∀ d, d ∣ r → d = 1 ∨ d = r) (hm : ¬ r ∣ m) : Nat.Coprime m r := by
  rcases hr (Nat.gcd m r) (Nat.gcd_dvd_right m r) with h | h
  · exact h
  · exact absurd (h ▸ Nat.gcd_dvd_left m r) hm

theorem coprime_prod {m : Nat} : ∀ (rs : List Nat), (∀ r ∈ rs, Nat.Coprime m r) → Nat.Coprime m rs.prod
  | [], _ => by simp
  | r :: rs, h => by
    rw [List.prod_cons]
    exact Nat.Coprime.mul_right (h r (by simp)) (coprime_prod rs (fun x hx => h x (by simp [hx])))

/-- If g to the n is 1 and g to the n / r is not, for each prime r that n has, then every number that is not 0 is a power of g. -/
theorem powers_all {p n g k : Nat} (rs : List Nat) (hp : p = n + 1) (hn : 1 < p) (hprime : ∀ r ∈ rs, ∀ d, d ∣ r → d = 1 ∨ d = r) (hdv : n ∣ rs.prod ^ k)
    (h1 : g ^ n % p = 1) (hne : ∀ r ∈ rs, g ^ (n / r) % p ≠ 1) : ∀ a, a % p ≠ 0 → ∃ i, i < n ∧ g ^ i % p = a % p := by
  have h1' : g ^ n % p = 1 % p := by rw [h1, Nat.mod_eq_of_lt hn]
  have ord : ∀ d, 0 < d → d < n → g ^ d % p ≠ 1 % p := by
    intro d hd0 hdn hd
    have hg := pow_gcd p g d n hd h1'
    have hD : Nat.gcd d n ∣ n := Nat.gcd_dvd_right d n
    have hDd : Nat.gcd d n ≤ d := Nat.gcd_le_left n hd0
    obtain ⟨m, hm⟩ := hD
    have hm1 : m ≠ 1 := fun h => by rw [h] at hm; omega
    have hcop : ∀ r ∈ rs, Nat.Coprime m r := by
      intro r hr
      refine coprime_of_prime (hprime r hr) (fun ⟨c, hc⟩ => ?_)
      apply hne r hr
      have hr0 : 0 < r := by
        rcases Nat.eq_zero_or_pos r with h | h
        · subst h
          rw [Nat.zero_mul] at hc; subst hc; rw [Nat.mul_zero] at hm; omega
        · exact h
      have : n / r = Nat.gcd d n * c := by
        conv => lhs; rw [hm, hc]
        rw [show Nat.gcd d n * (r * c) = r * (Nat.gcd d n * c) from by rw [Nat.mul_left_comm], Nat.mul_div_cancel_left _ hr0]
      rw [this, Nat.pow_mul, Nat.pow_mod, hg, ← Nat.pow_mod, Nat.one_pow, Nat.mod_eq_of_lt hn]
    have hc2 := Nat.Coprime.pow_right k (coprime_prod rs hcop)
    have hmd : m ∣ rs.prod ^ k := Nat.dvd_trans ⟨Nat.gcd d n, by rw [Nat.mul_comm]; exact hm⟩ hdv
    exact hm1 (Nat.Coprime.eq_one_of_dvd hc2 hmd)
  have hunit : ∀ i, i < n → g ^ i % p ≠ 0 := by
    intro i hi h
    have e : g ^ n = g ^ i * g ^ (n - i) := by rw [← Nat.pow_add]; congr 1; omega
    rw [e, Nat.mul_mod, h, Nat.zero_mul, Nat.zero_mod] at h1
    exact absurd h1 (by omega)
  have cancel : ∀ i j, i < j → j < n → g ^ i % p ≠ g ^ j % p := by
    intro i j hij hj he
    apply ord (j - i) (by omega) (by omega)
    have e1 : g ^ (n - i) * g ^ i % p = 1 % p := by rw [← Nat.pow_add, show n - i + i = n from by omega]; exact h1'
    have e2 : g ^ (n - i) * g ^ j % p = 1 % p := by rw [Nat.mul_mod, ← he, ← Nat.mul_mod]; exact e1
    rw [← Nat.pow_add, show n - i + j = (j - i) + n from by omega, Nat.pow_add, Nat.mul_mod, h1', ← Nat.mul_mod, Nat.mul_one] at e2
    exact e2
  have hlt : ∀ i, i < n → g ^ i % p - 1 < n := fun i hi => by
    have h1 := hunit i hi
    have h2 : g ^ i % p < p := Nat.mod_lt _ (by omega)
    omega
  have hinj : ∀ i j, i < n → j < n → g ^ i % p - 1 = g ^ j % p - 1 → i = j := by
    intro i j hi hj he
    have h1 := hunit i hi
    have h2 := hunit j hj
    rcases Nat.lt_trichotomy i j with h | h | h
    · exact absurd (by omega) (cancel i j h hj)
    · exact h
    · exact absurd (by omega) (cancel j i h hi)
  intro a ha
  have hap : a % p < p := Nat.mod_lt _ (by omega)
  obtain ⟨i, hi, he⟩ := onto_of_inj n (fun i => g ^ i % p - 1) hlt hinj (a % p - 1) (by omega)
  exact ⟨i, hi, by have := hunit i hi; omega⟩

theorem prime_of_small {r : Nat} (s : Nat) (hs : r < s * s) (h2 : 1 < r) (h : ∀ d, d < s → d ∣ r → d = 1 ∨ d = r) : ∀ d, d ∣ r → d = 1 ∨ d = r := by
  rintro d ⟨e, he⟩
  rcases Nat.lt_or_ge d s with hd | hd
  · exact h d hd ⟨e, he⟩
  · have hes : e < s := by
      rcases Nat.lt_or_ge e s with h' | h'
      · exact h'
      · have := Nat.mul_le_mul hd h'; omega
    rcases h e hes ⟨d, by rw [Nat.mul_comm]; exact he⟩ with h' | h'
    · right; rw [he, h', Nat.mul_one]
    · left
      subst h'
      have he0 : 0 < e := by omega
      have : 1 * e = d * e := by omega
      exact (Nat.eq_of_mul_eq_mul_right he0 this).symm

theorem pr2 : ∀ d, d ∣ 2 → d = 1 ∨ d = 2 := prime_of_small 2 (by omega) (by omega) (by decide)
theorem pr3 : ∀ d, d ∣ 3 → d = 1 ∨ d = 3 := prime_of_small 2 (by omega) (by omega) (by decide)
theorem pr5 : ∀ d, d ∣ 5 → d = 1 ∨ d = 5 := prime_of_small 3 (by omega) (by omega) (by decide)
theorem pr17 : ∀ d, d ∣ 17 → d = 1 ∨ d = 17 := prime_of_small 5 (by omega) (by omega) (by decide)
theorem pr257 : ∀ d, d ∣ 257 → d = 1 ∨ d = 257 := prime_of_small 17 (by omega) (by omega) (by decide)
theorem pr65537 : ∀ d, d ∣ 65537 → d = 1 ∨ d = 65537 := prime_of_small 257 (by omega) (by omega) (by decide +kernel)

/-! ### the known primes -/
/-- p is one of the seven known primes. -/
def vld (p : Int) : Bool := p == 17 || p == 97 || p == 193 || p == 257 || p == 12289 || p == 65537 || p == 18446744069414584321
theorem vld_cases {p : Int} (h : vld p = true) : p = 17 ∨ p = 97 ∨ p = 193 ∨ p = 257 ∨ p = 12289 ∨ p = 65537 ∨ p = 18446744069414584321 := by
  simpa [vld, or_assoc] using h
theorem vld_pos {p : Int} (h : vld p = true) : 17 ≤ p ∧ p ≤ 18446744069414584321 := by
  rcases vld_cases h with h | h | h | h | h | h | h <;> subst h <;> decide
def gen (p : Int) : Int := if p = 17 then 3 else if p = 97 then 5 else if p = 193 then 5 else if p = 257 then 3 else if p = 12289 then 11 else if p = 65537 then 3 else if p = 18446744069414584321 then 7 else 0
def adi (p : Int) : Int := if p = 17 then 4 else if p = 97 then 5 else if p = 193 then 6 else if p = 257 then 8 else if p = 12289 then 12 else if p = 65537 then 16 else if p = 18446744069414584321 then 32 else 0
def expo (p : Int) : Int := if p = 17 then 3 else if p = 97 then 5 else if p = 193 then 5 else if p = 257 then 3 else if p = 12289 then 5 else if p = 65537 then 3 else if p = 18446744069414584321 then 7 else 0

/-- The same, the powers reckoned fast. -/
theorem powers_pm {p n g k f : Nat} (rs : List Nat) (hp : p = n + 1) (hn : 1 < p) (hprime : ∀ r ∈ rs, ∀ d, d ∣ r → d = 1 ∨ d = r) (hdv : n ∣ rs.prod ^ k)
    (hf : n < 2 ^ f) (h1 : pm p f g n = 1) (hne : ∀ r ∈ rs, pm p f g (n / r) ≠ 1) : ∀ a, a % p ≠ 0 → ∃ i, i < n ∧ g ^ i % p = a % p :=
  powers_all rs hp hn hprime hdv (by rw [← pm_eq p f g n hf]; exact h1) (fun r hr => by
    rw [← pm_eq p f g (n / r) (Nat.lt_of_le_of_lt (Nat.div_le_self n r) hf)]; exact hne r hr)
theorem pm17 : pm 17 5 3 16 = 1 := by decide +kernel
theorem all17 : ∀ a, a % 17 ≠ 0 → ∃ i, i < 16 ∧ 3 ^ i % 17 = a % 17 :=
  powers_pm (k := 32) (f := 5) [2] rfl (by decide) (by simp; exact pr2) (by decide +kernel) (by decide) (by decide +kernel) (by decide +kernel)
theorem pm97 : pm 97 7 5 96 = 1 := by decide +kernel
theorem all97 : ∀ a, a % 97 ≠ 0 → ∃ i, i < 96 ∧ 5 ^ i % 97 = a % 97 :=
  powers_pm (k := 32) (f := 7) [2, 3] rfl (by decide) (by simp; exact ⟨pr2, pr3⟩) (by decide +kernel) (by decide) (by decide +kernel) (by decide +kernel)
theorem pm193 : pm 193 8 5 192 = 1 := by decide +kernel
theorem all193 : ∀ a, a % 193 ≠ 0 → ∃ i, i < 192 ∧ 5 ^ i % 193 = a % 193 :=
  powers_pm (k := 32) (f := 8) [2, 3] rfl (by decide) (by simp; exact ⟨pr2, pr3⟩) (by decide +kernel) (by decide) (by decide +kernel) (by decide +kernel)
theorem pm257 : pm 257 9 3 256 = 1 := by decide +kernel
theorem all257 : ∀ a, a % 257 ≠ 0 → ∃ i, i < 256 ∧ 3 ^ i % 257 = a % 257 :=
  powers_pm (k := 32) (f := 9) [2] rfl (by decide) (by simp; exact pr2) (by decide +kernel) (by decide) (by decide +kernel) (by decide +kernel)
theorem pm12289 : pm 12289 14 11 12288 = 1 := by decide +kernel
theorem all12289 : ∀ a, a % 12289 ≠ 0 → ∃ i, i < 12288 ∧ 11 ^ i % 12289 = a % 12289 :=
  powers_pm (k := 32) (f := 14) [2, 3] rfl (by decide) (by simp; exact ⟨pr2, pr3⟩) (by decide +kernel) (by decide) (by decide +kernel) (by decide +kernel)
theorem pm65537 : pm 65537 17 3 65536 = 1 := by decide +kernel
theorem all65537 : ∀ a, a % 65537 ≠ 0 → ∃ i, i < 65536 ∧ 3 ^ i % 65537 = a % 65537 :=
  powers_pm (k := 32) (f := 17) [2] rfl (by decide) (by simp; exact pr2) (by decide +kernel) (by decide) (by decide +kernel) (by decide +kernel)
theorem pmBig : pm 18446744069414584321 64 7 18446744069414584320 = 1 := by decide +kernel
theorem allBig : ∀ a, a % 18446744069414584321 ≠ 0 → ∃ i, i < 18446744069414584320 ∧ 7 ^ i % 18446744069414584321 = a % 18446744069414584321 :=
  powers_pm (k := 32) (f := 64) [2, 3, 5, 17, 257, 65537] rfl (by decide) (by simp; exact ⟨pr2, pr3, pr5, pr17, pr257, pr65537⟩) (by decide +kernel) (by decide) (by decide +kernel) (by decide +kernel)
end Go.Proofs.Ytjnlnbkdnjainaa

/- The field modulo a known prime, on integers: what the operations of layers 1 and 2 compute, and their laws. No program in sight. -/
namespace Go.Proofs.Ytjnlnbkdnjainaa

theorem nat_int_pow_mod (g i p : Nat) : ((g : Int) ^ i) % (p : Int) = ((g ^ i % p : Nat) : Int) := by
  rw [Int.natCast_emod, Int.natCast_pow]

theorem fermat_of {p g n f : Nat} (hp : p = n + 1) (hp1 : 1 < p) (hf : n < 2 ^ f) (h1 : pm p f g n = 1) (hall : ∀ a, a % p ≠ 0 → ∃ i, i < n ∧ g ^ i % p = a % p) (a : Int) (ha : a % (p : Int) ≠ 0) :
    a ^ n % (p : Int) = 1 := by
  rw [pm_eq p f g n hf] at h1
  have hp0 : (0 : Int) < (p : Int) := by omega
  have hb0 := Int.emod_nonneg a (Int.ne_of_gt hp0)
  have hb1 := Int.emod_lt_of_pos a hp0
  obtain ⟨b, hb⟩ := Int.eq_ofNat_of_zero_le hb0
  have hbp : b < p := by omega
  have hbb : b % p = b := Nat.mod_eq_of_lt hbp
  obtain ⟨i, _, hi⟩ := hall b (by rw [hbb]; omega)
  rw [← em_pow, hb]
  have : (b : Int) ^ n % (p : Int) = ((b ^ n % p : Nat) : Int) := nat_int_pow_mod b n p
  rw [this]
  have e : b ^ n % p = 1 := by
    rw [Nat.pow_mod, ← hi, ← Nat.pow_mod, ← Nat.pow_mul, Nat.mul_comm, Nat.pow_mul, Nat.pow_mod, h1, Nat.one_pow, Nat.mod_eq_of_lt hp1]
  rw [e]; rfl

theorem fermat {p : Int} (h : vld p = true) (a : Int) (ha : a % p ≠ 0) : a ^ (p - 1).toNat % p = 1 := by
  rcases vld_cases h with h | h | h | h | h | h | h <;> subst h
  · exact fermat_of (p := 17) (n := 16) rfl (by decide) (by decide) pm17 all17 a ha
  · exact fermat_of (p := 97) (n := 96) rfl (by decide) (by decide) pm97 all97 a ha
  · exact fermat_of (p := 193) (n := 192) rfl (by decide) (by decide) pm193 all193 a ha
  · exact fermat_of (p := 257) (n := 256) rfl (by decide) (by decide) pm257 all257 a ha
  · exact fermat_of (p := 12289) (n := 12288) rfl (by decide) (by decide) pm12289 all12289 a ha
  · exact fermat_of (p := 65537) (n := 65536) rfl (by decide) (by decide) pm65537 all65537 a ha
  · exact fermat_of (p := 18446744069414584321) (n := 18446744069414584320) rfl (by decide) (by decide) pmBig allBig a ha

theorem gen_half {p : Int} (h : vld p = true) : gen p ^ ((p - 1) / 2).toNat % p = p - 1 := by
  have key : ∀ (p g n f r : Nat), n < 2 ^ f → pm p f g n = r → ((g : Int) ^ n) % (p : Int) = (r : Int) := fun p g n f r hf hr => by
    rw [nat_int_pow_mod, ← pm_eq p f g n hf, hr]
  rcases vld_cases h with h | h | h | h | h | h | h <;> subst h
  · exact key 17 3 8 5 16 (by decide) (by decide +kernel)
  · exact key 97 5 48 7 96 (by decide) (by decide +kernel)
  · exact key 193 5 96 8 192 (by decide) (by decide +kernel)
  · exact key 257 3 128 8 256 (by decide) (by decide +kernel)
  · exact key 12289 11 6144 14 12288 (by decide) (by decide +kernel)
  · exact key 65537 3 32768 17 65536 (by decide) (by decide +kernel)
  · exact key 18446744069414584321 7 9223372034707292160 64 18446744069414584320 (by decide) (by decide +kernel)

/-- No zero divisors. -/
theorem no_zero_div {p : Int} (h : vld p = true) (a b : Int) (hab : (a * b) % p = 0) (ha : a % p ≠ 0) : b % p = 0 := by
  have hf := fermat h a ha
  have hp := vld_pos h
  obtain ⟨n, hn⟩ : ∃ n, (p - 1).toNat = n + 1 := ⟨(p - 1).toNat - 1, by omega⟩
  rw [hn] at hf
  have e1 : (a ^ n * (a * b)) % p = 0 := by rw [← em_mul_r, hab, Int.mul_zero, Int.zero_emod]
  have e2 : a ^ n * (a * b) = a ^ (n + 1) * b := by rw [Int.pow_succ, Int.mul_assoc]
  rw [e2, ← em_mul_l, hf, Int.one_mul] at e1
  exact e1

theorem mul_eq_zero {p : Int} (h : vld p = true) (a b : Int) (hab : (a * b) % p = 0) : a % p = 0 ∨ b % p = 0 := by
  by_cases ha : a % p = 0
  · exact .inl ha
  · exact .inr (no_zero_div h a b hab ha)

/-- Cancelling. -/
theorem mul_cancel {p : Int} (h : vld p = true) (a b c : Int) (ha : a % p ≠ 0) (hab : (a * b) % p = (a * c) % p) : b % p = c % p := by
  have e : (a * (b - c)) % p = 0 := by rw [Int.mul_sub, Int.sub_emod, hab, Int.sub_self, Int.zero_emod]
  have := no_zero_div h a (b - c) e ha
  exact Int.emod_eq_emod_iff_emod_sub_eq_zero.2 this

/-! ### what the operations compute -/
def fred (p a : Int) : Int := if vld p then a % p else 0
def fadd (p a b : Int) : Int := if vld p then (a + b) % p else 0
def fneg (p a : Int) : Int := if vld p then (-a) % p else 0
def fsub (p a b : Int) : Int := if vld p then (a - b) % p else 0
def fmul (p a b : Int) : Int := if vld p then (a * b) % p else 0
def fpow (p a : Int) (e : Nat) : Int := if vld p then a ^ e % p else 0
def finv (p a : Int) : Int := fpow p a (p - 2).toNat

theorem finv_mul {p : Int} (h : vld p = true) (a : Int) (ha : a % p ≠ 0) : (a * finv p a) % p = 1 := by
  have hf := fermat h a ha
  have hp := vld_pos h
  unfold finv fpow
  rw [if_pos h, em_mul_r]
  have : a * a ^ (p - 2).toNat = a ^ (p - 1).toNat := by
    rw [show (p - 1).toNat = (p - 2).toNat + 1 from by omega, Int.pow_succ, Int.mul_comm]
  rw [this, hf]
theorem finv_zero {p : Int} (h : vld p = true) (a : Int) (ha : a % p = 0) : finv p a = 0 := by
  have hp := vld_pos h
  unfold finv fpow
  rw [if_pos h, ← em_pow, ha, show (p - 2).toNat = (p - 3).toNat + 1 from by omega, Int.pow_succ, Int.mul_zero, Int.zero_emod]
end Go.Proofs.Ytjnlnbkdnjainaa

/- The arithmetic of the division of 128 bits by 64 bits, two digits of 32 bits at a time. No program in sight. -/
namespace Go.Proofs.Ytjnlnbkdnjainaa

/-- One digit: q is at least the digit, r belongs to it. -/
structure Knuth (U u1 Y y1 q r : Int) : Prop where
  sum : q * y1 + r = U
  r0 : 0 ≤ r
  q0 : 0 ≤ q
  q2 : q ≤ 4294967297
  over : U * 4294967296 + u1 < (q + 1) * Y

theorem div_unique {a b q : Int} (hb : 0 < b) (h1 : q * b ≤ a) (h2 : a < (q + 1) * b) : a / b = q := by
  have e1 : q ≤ a / b := (Int.le_ediv_iff_mul_le hb).2 h1
  have e2 : a / b < q + 1 := (Int.ediv_lt_iff_lt_mul hb).2 h2
  omega

theorem knuth_parts {Y y1 y0 : Int} (hY : Y = y1 * 4294967296 + y0) (q : Int) : q * Y = q * y1 * 4294967296 + q * y0 := by
  rw [hY, Int.mul_add, Int.mul_assoc]

theorem knuth_start {U u1 Y y1 y0 : Int} (hY : Y = y1 * 4294967296 + y0) (h0 : 0 ≤ y0) (h0' : y0 < 4294967296) (h1 : 2147483648 ≤ y1) (_h1' : y1 < 4294967296)
    (hU0 : 0 ≤ U) (hU : U < Y) (_hu0 : 0 ≤ u1) (hu : u1 < 4294967296) : Knuth U u1 Y y1 (U / y1) (U % y1) := by
  have hpos : 0 < y1 := by omega
  have hd : y1 * (U / y1) + U % y1 = U := Int.mul_ediv_add_emod U y1
  have hr0 := Int.emod_nonneg U (Int.ne_of_gt hpos)
  have hr1 := Int.emod_lt_of_pos U hpos
  have hq0 : 0 ≤ U / y1 := Int.ediv_nonneg hU0 (by omega)
  have hq2 : U / y1 < 4294967298 := (Int.ediv_lt_iff_lt_mul hpos).2 (by omega)
  refine ⟨by rw [Int.mul_comm]; exact hd, hr0, hq0, by omega, ?_⟩
  rw [Int.add_mul, Int.one_mul, knuth_parts hY]
  rw [Int.mul_comm] at hd
  have hb : 0 ≤ U / y1 * y0 := Int.mul_nonneg hq0 h0
  generalize U / y1 * y1 = A at *
  generalize U / y1 * y0 = B at *
  omega

theorem knuth_next {U u1 Y y1 y0 q r : Int} (hY : Y = y1 * 4294967296 + y0) (_h0 : 0 ≤ y0) (_h0' : y0 < 4294967296) (h1 : 2147483648 ≤ y1) (_h1' : y1 < 4294967296)
    (hU0 : 0 ≤ U) (hU : U < Y) (hu0 : 0 ≤ u1) (hu : u1 < 4294967296) (h : Knuth U u1 Y y1 q r) (ht : 4294967296 ≤ q ∨ 4294967296 * r + u1 < q * y0) : Knuth U u1 Y y1 (q - 1) (r + y1) := by
  obtain ⟨hs, hr, hq0, hq2, hov⟩ := h
  have hq1 : 1 ≤ q := by
    rcases ht with ht | ht
    · omega
    · rcases Int.lt_or_le q 1 with h | h
      · have : q = 0 := by omega
        subst this; rw [Int.zero_mul] at ht; omega
      · exact h
  refine ⟨by rw [Int.sub_mul]; omega, by omega, by omega, by omega, ?_⟩
  rw [show q - 1 + 1 = q from by omega, knuth_parts hY]
  rcases ht with ht | ht
  · have : U + 1 ≤ Y := by omega
    have e : 4294967296 * Y ≤ q * Y := Int.mul_le_mul_of_nonneg_right ht (by omega)
    rw [knuth_parts hY q] at e
    omega
  · have e : q * y1 * 4294967296 = (U - r) * 4294967296 := by rw [show q * y1 = U - r from by omega]
    rw [e]; omega

theorem knuth_stop1 {U u1 Y y1 y0 q r : Int} (hY : Y = y1 * 4294967296 + y0) (hYp : 0 < Y) (h : Knuth U u1 Y y1 q r) (ht : q * y0 ≤ 4294967296 * r + u1) : (U * 4294967296 + u1) / Y = q := by
  obtain ⟨hs, hr, hq0, hq2, hov⟩ := h
  refine div_unique hYp ?_ hov
  rw [knuth_parts hY q]
  have e : q * y1 * 4294967296 = (U - r) * 4294967296 := by rw [show q * y1 = U - r from by omega]
  rw [e]; omega

theorem knuth_stop2 {U u1 Y y1 y0 q r : Int} (hY : Y = y1 * 4294967296 + y0) (h0 : 0 ≤ y0) (h0' : y0 < 4294967296) (hYp : 0 < Y) (hu0 : 0 ≤ u1) (h : Knuth U u1 Y y1 q r) (hq : q ≤ 4294967296) (hr : 4294967296 ≤ r) : (U * 4294967296 + u1) / Y = q := by
  refine knuth_stop1 hY hYp h ?_
  have e : q * y0 ≤ 4294967296 * y0 := Int.mul_le_mul_of_nonneg_right hq h0
  omega

theorem digit_lt {U u1 Y : Int} (hYp : 0 < Y) (hU : U < Y) (hu : u1 < 4294967296) : (U * 4294967296 + u1) / Y < 4294967296 :=
  (Int.ediv_lt_iff_lt_mul hYp).2 (by omega)
theorem digit_nonneg {U u1 Y : Int} (hYp : 0 < Y) (hU0 : 0 ≤ U) (hu0 : 0 ≤ u1) : 0 ≤ (U * 4294967296 + u1) / Y :=
  Int.ediv_nonneg (by omega) (by omega)

/-- The two digits together. -/
theorem two_digits {U u1 u0 Y : Int} (hYp : 0 < Y) :
    (U * 18446744073709551616 + u1 * 4294967296 + u0) / Y = (U * 4294967296 + u1) / Y * 4294967296 + ((U * 4294967296 + u1) % Y * 4294967296 + u0) / Y ∧
    (U * 18446744073709551616 + u1 * 4294967296 + u0) % Y = ((U * 4294967296 + u1) % Y * 4294967296 + u0) % Y := by
  have hd : Y * ((U * 4294967296 + u1) / Y) + (U * 4294967296 + u1) % Y = U * 4294967296 + u1 := Int.mul_ediv_add_emod _ Y
  have e : U * 18446744073709551616 + u1 * 4294967296 + u0 = ((U * 4294967296 + u1) % Y * 4294967296 + u0) + Y * ((U * 4294967296 + u1) / Y * 4294967296) := by
    rw [← Int.mul_assoc]; omega
  rw [e]
  refine ⟨?_, ?_⟩
  · rw [Int.add_mul_ediv_left _ _ (by omega)]; omega
  · rw [Int.add_mul_emod_self_left]

/-- Both sides shifted by s bits. -/
theorem shifted {N y k : Int} (hk : 0 < k) : (N * k) / (y * k) = N / y ∧ (N * k) % (y * k) / k = N % y := by
  refine ⟨Int.mul_ediv_mul_of_pos_left N y hk, ?_⟩
  rw [Int.mul_comm N k, Int.mul_comm y k, Int.mul_emod_mul_of_pos N y hk]
  exact Int.mul_ediv_cancel_left _ (Int.ne_of_gt hk)
end Go.Proofs.Ytjnlnbkdnjainaa

/- The contracts of the functions of math/bits that the program reaches: Add64, Mul64, Len64, LeadingZeros64. The library's own text is walked. -/
namespace Go.Proofs.Ytjnlnbkdnjainaa
open Go.RowKit Go.Lib

/-- Add64 with the carry 0, as the walk meets it. -/
theorem add64 (x y : Int) (hx : 0 ≤ x) (hy : 0 ≤ y) (w : World) : (callFunc 84 #[.int .u64 x, .int .u64 y, .int .u64 0]).run Try.prog w =
    .ok (.value (.tuple #[.int .u64 ((x + y) % 18446744073709551616), .int .u64 ((x + y) / 18446744073709551616)])) w := by
  obtain ⟨x, rfl⟩ := Int.eq_ofNat_of_zero_le hx
  obtain ⟨y, rfl⟩ := Int.eq_ofNat_of_zero_le hy
  rw [run_callFunc_extern Try.func84 (by kernel_rfl) (by kernel_rfl) (by kernel_rfl) (e := add64Entry) (by kernel_rfl), run_add64 (x : Int) (y : Int) 0 (by omega) (by omega) (by omega) (by omega)]
  simp only [Result.andThen]
  congr 5 <;> omega

theorem maskN (a : Nat) (ha : a < 18446744073709551616) : bits .and .u64 (a : Int) 4294967295 = ((a % 4294967296 : Nat) : Int) := by
  have h := bits_and_u64_nat a 4294967295 ha (by omega)
  have e : a &&& 4294967295 = a % 4294967296 := Nat.and_two_pow_sub_one_eq_mod a 32
  rw [e] at h
  exact h
theorem divN (a : Nat) : (a : Int) / 4294967296 = ((a / 4294967296 : Nat) : Int) := by omega
theorem mulN (a b : Nat) : (a : Int) * (b : Int) = ((a * b : Nat) : Int) := (Int.natCast_mul a b).symm
theorem addN (a b : Nat) : (a : Int) + (b : Int) = ((a + b : Nat) : Int) := (Int.natCast_add a b).symm
theorem wrapN (a : Nat) (ha : a < 18446744073709551616) : IntKind.u64.wrap (a : Int) = (a : Int) := by rw [IntKind.wrap_u64]; omega
theorem wrapM (a : Nat) : IntKind.u64.wrap (a : Int) = ((a % 18446744073709551616 : Nat) : Int) := by rw [IntKind.wrap_u64]; omega

set_option maxHeartbeats 1000000 in
theorem mul64_n (x y : Nat) (hx : x < 18446744073709551616) (hy : y < 18446744073709551616) (w : World) :
    Calls Try.prog 75 #[.int .u64 x, .int .u64 y] w fun e w' => e = .returned (.tuple #[.int .u64 ((x * y / 18446744073709551616 : Nat) : Int), .int .u64 ((x * y % 18446744073709551616 : Nat) : Int)]) ∧ w = w' := by
  obtain ⟨bd, bt, bw, hhi⟩ := Lib.mul64_hi x y hx hy
  have ba := Lib.half_mul_le (a := x / 4294967296) (b := y / 4294967296) (by omega) (by omega)
  have bb := Lib.half_mul_le (a := x / 4294967296) (b := y % 4294967296) (by omega) (by omega)
  have bc := Lib.half_mul_le (a := x % 4294967296) (b := y / 4294967296) (by omega) (by omega)
  have ba' : x / 4294967296 * (y / 4294967296) < 18446744073709551616 := by omega
  have bb' : x / 4294967296 * (y % 4294967296) < 18446744073709551616 := by omega
  have bc' : x % 4294967296 * (y / 4294967296) < 18446744073709551616 := by omega
  have bh1 : x / 4294967296 * (y / 4294967296) + (x / 4294967296 * (y % 4294967296) + x % 4294967296 * (y % 4294967296) / 4294967296) / 4294967296 < 18446744073709551616 := by omega
  have bh : x / 4294967296 * (y / 4294967296) + (x / 4294967296 * (y % 4294967296) + x % 4294967296 * (y % 4294967296) / 4294967296) / 4294967296 + ((x / 4294967296 * (y % 4294967296) + x % 4294967296 * (y % 4294967296) / 4294967296) % 4294967296 + x % 4294967296 * (y / 4294967296)) / 4294967296 < 18446744073709551616 := by omega
  go_enter Try.func75, Try.ntmps75
  go_wp2
  simp only [maskN x hx, maskN y hy, divN, mulN, addN, wrapN _ bd, wrapN _ bb', wrapN _ bt, maskN _ bt, wrapN _ bc', wrapN _ bw, wrapN _ ba', wrapN _ bh1, wrapN _ bh, wrapM (x * y)]
  rw [hhi]
  go_ret2
  exact ⟨rfl, rfl⟩

/-- Mul64: the 128-bit product. -/
theorem mul64_c (x y : Int) (hx0 : 0 ≤ x) (hx : x < 18446744073709551616) (hy0 : 0 ≤ y) (hy : y < 18446744073709551616) (w : World) :
    Calls Try.prog 75 #[.int .u64 x, .int .u64 y] w fun e w' => e = .returned (.tuple #[.int .u64 (x * y / 18446744073709551616), .int .u64 (x * y % 18446744073709551616)]) ∧ w = w' := by
  obtain ⟨x, rfl⟩ := Int.eq_ofNat_of_zero_le hx0
  obtain ⟨y, rfl⟩ := Int.eq_ofNat_of_zero_le hy0
  have h := mul64_n x y (by omega) (by omega) w
  rw [show ((x * y / 18446744073709551616 : Nat) : Int) = (x : Int) * (y : Int) / 18446744073709551616 from by rw [Int.natCast_ediv, Int.natCast_mul]; rfl,
    show ((x * y % 18446744073709551616 : Nat) : Int) = (x : Int) * (y : Int) % 18446744073709551616 from by rw [Int.natCast_emod, Int.natCast_mul]; rfl] at h
  exact h

end Go.Proofs.Ytjnlnbkdnjainaa

/- A region that draws its order, whose operations but the last are quiet in a class of worlds and whose last waits for all others (a store of what they made): one walk. -/
namespace Go.Proofs.Ytjnlnbkdnjainaa

section
variable {P : Program} {C : World → Prop}

/-- The last operation waits for all others; each operation waits for earlier ones only; guards lie among the others. -/
def tailB (pre : List Oper) (last : Oper) : Bool :=
  ((List.range pre.length).all fun j => last.after.any fun e => e.on == j && Region.binds .any e) &&
  (last.after.all fun e => decide (e.on < pre.length)) &&
  ((List.range pre.length).all fun i => ((pre[i]?).map fun o => (o.after.all fun e => decide (e.on < i)) && (match o.guard with | some (j, _) => decide (j < pre.length) | none => true)).getD true)

structure TailOk (pre : List Oper) (last : Oper) : Prop where
  waits : ∀ j, j < pre.length → ∃ e ∈ last.after, e.on = j ∧ Region.binds .any e = true
  back : ∀ e ∈ last.after, e.on < pre.length
  early : ∀ (i : Nat) (o : Oper), pre[i]? = some o → ∀ e ∈ o.after, e.on < i
  guards : ∀ (i : Nat) (o : Oper) (j : Nat) (b : Bool), pre[i]? = some o → o.guard = some (j, b) → j < pre.length

theorem tailB_ok {pre : List Oper} {last : Oper} (h : tailB pre last = true) : TailOk pre last := by
  simp only [tailB, Bool.and_eq_true, List.all_eq_true, List.mem_range] at h
  obtain ⟨⟨h1, h2⟩, h3⟩ := h
  refine ⟨fun j hj => ?_, fun e he => ?_, fun i o ho e he => ?_, fun i o j b ho hg => ?_⟩
  · have := h1 j hj
    obtain ⟨e, he, hb⟩ := (Array.any_eq_true'.1 this)
    simp only [Bool.and_eq_true, beq_iff_eq] at hb
    exact ⟨e, he, hb.1, hb.2⟩
  · have := (Array.all_eq_true'.1 h2) e he
    simpa using this
  · have hi : i < pre.length := (List.getElem?_eq_some_iff.1 ho).1
    have := h3 i hi
    rw [ho] at this
    simp only [Option.map_some, Option.getD_some, Bool.and_eq_true] at this
    simpa using (Array.all_eq_true'.1 this.1) e he
  · have hi : i < pre.length := (List.getElem?_eq_some_iff.1 ho).1
    have := h3 i hi
    rw [ho] at this
    simp only [Option.map_some, Option.getD_some, Bool.and_eq_true, hg] at this
    simpa using this.2

theorem getD_push_lt {l : Array Bool} {j : Nat} (h : j < l.size) (d b : Bool) : (l.push b).getD j d = l.getD j d := by
  simp only [Array.getD_eq_getD_getElem?, Array.getElem?_push]
  rw [if_neg (by omega)]

theorem ready_all {pre : List Oper} {last : Oper} (ok : TailOk pre last) {listed : Array Bool} (hs : listed.size = pre.length) (hall : ∀ j, j < pre.length → listed.getD j false = true) :
    ∀ i, i ∈ Region.ready .any (pre ++ [last]).toArray (listed.push false) ↔ i = pre.length := by
  intro i
  rw [mem_ready]
  constructor
  · rintro ⟨h1, o, ho, _⟩
    have hi : i < (pre ++ [last]).length := by
      have := (Array.getElem?_eq_some_iff.1 ho).1
      simpa using this
    simp at hi
    rcases Nat.lt_or_ge i pre.length with h | h
    · rw [getD_push_lt (by omega)] at h1
      have h2 := hall i h
      simp only [Array.getD_eq_getD_getElem?] at h1 h2
      rw [Array.getElem?_eq_getElem (by omega)] at h1 h2
      simp at h1 h2
      rw [h1] at h2; cases h2
    · omega
  · rintro rfl
    refine ⟨?_, last, by simp, fun e he _ => ?_⟩
    · simp only [Array.getD_eq_getD_getElem?, Array.getElem?_push, hs, if_true, Option.getD_some]
    · rw [getD_push_lt (by rw [hs]; exact ok.back e he)]
      exact hall _ (ok.back e he)

theorem ready_some {pre : List Oper} {last : Oper} (ok : TailOk pre last) {listed : Array Bool} (hs : listed.size = pre.length) (hnot : ∃ j, j < pre.length ∧ listed.getD j false = false) :
    (∀ i, i ∈ Region.ready .any (pre ++ [last]).toArray (listed.push false) ↔ i ∈ Region.ready .any pre.toArray listed) ∧ Region.ready .any pre.toArray listed ≠ [] := by
  constructor
  · intro i
    rw [mem_ready, mem_ready]
    constructor
    · rintro ⟨h1, o, ho, h2⟩
      have hi : i < (pre ++ [last]).length := by
        have := (Array.getElem?_eq_some_iff.1 ho).1
        simpa using this
      simp at hi
      rcases Nat.lt_or_ge i pre.length with h | h
      · have ho' : pre[i]? = some o := by simpa [List.getElem?_append_left h] using ho
        refine ⟨by rw [getD_push_lt (by omega)] at h1; exact h1, o, by simpa using ho', fun e he hb => ?_⟩
        have := h2 e he hb
        rw [getD_push_lt (by have := ok.early i o ho' e he; omega)] at this
        exact this
      · exfalso
        have hin : i = pre.length := by omega
        subst hin
        have ho' : last = o := by simpa using ho
        subst ho'
        obtain ⟨j, hj, hf⟩ := hnot
        obtain ⟨e, he, hej, hb⟩ := ok.waits j hj
        have := h2 e he hb
        rw [hej, getD_push_lt (by omega), hf] at this
        cases this
    · rintro ⟨h1, o, ho, h2⟩
      have hi : i < pre.length := by
        have := (Array.getElem?_eq_some_iff.1 ho).1
        simpa using this
      have ho' : pre[i]? = some o := by simpa using ho
      refine ⟨by rw [getD_push_lt (by omega)]; exact h1, o, by simpa [List.getElem?_append_left hi] using ho', fun e he hb => ?_⟩
      rw [getD_push_lt (by have := ok.early i o ho' e he; omega)]
      exact h2 e he hb
  · -- the first that is not listed is ready
    obtain ⟨j, hj, hf⟩ := hnot
    have least : ∀ n, (∃ j, j < n ∧ j < pre.length ∧ listed.getD j false = false) → ∃ j, j < pre.length ∧ listed.getD j false = false ∧ ∀ k, k < j → listed.getD k false = true := by
      intro n
      induction n with
      | zero => rintro ⟨j, h, _⟩; omega
      | succ n ih =>
        rintro ⟨j, h1, h2, h3⟩
        by_cases h : ∃ j, j < n ∧ j < pre.length ∧ listed.getD j false = false
        · exact ih h
        · refine ⟨j, h2, h3, fun k hk => ?_⟩
          cases hk' : listed.getD k false with
          | true => rfl
          | false => exact absurd ⟨k, by omega, by omega, hk'⟩ h
    obtain ⟨i, hi, hif, hmin⟩ := least (j + 1) ⟨j, by omega, hj, hf⟩
    intro h0
    have : i ∈ Region.ready .any pre.toArray listed := by
      rw [mem_ready]
      refine ⟨?_, pre[i], by simp [hi], fun e he _ => hmin _ (ok.early i pre[i] (by simp [hi]) e he)⟩
      simp only [Array.getD_eq_getD_getElem?] at hif ⊢
      rw [Array.getElem?_eq_getElem (by omega)] at hif ⊢
      exact hif
    rw [h0] at this
    cases this

theorem yielded_append {pre : List Oper} {last : Oper} (tmps : Array Value) {j : Nat} (h : j < pre.length) : yielded (pre ++ [last]).toArray tmps j = yielded pre.toArray tmps j := by
  simp [yielded, List.getElem?_append_left h]

theorem wpOp_append {pre : List Oper} {last : Oper} (ok : TailOk pre last) {Q : Exit → Act → World → Prop} {K : Act → World → Prop} {i : Nat} (hi : i < pre.length) {a : Act} {w : World}
    (h : wpOp P pre.toArray Q i K a w) : wpOp P (pre ++ [last]).toArray Q i K a w := by
  unfold wpOp at *
  have e1 : (pre ++ [last]).toArray[i]? = pre.toArray[i]? := by simp [List.getElem?_append_left hi]
  rw [e1]
  have e2 : pre.toArray[i]? = some pre[i] := by simp [hi]
  rw [e2] at h ⊢
  have e3 : Region.wanted pre[i] (yielded (pre ++ [last]).toArray a.tmps) = Region.wanted pre[i] (yielded pre.toArray a.tmps) := by
    unfold Region.wanted
    cases hg : pre[i].guard with
    | none => rfl
    | some g =>
      obtain ⟨j, b⟩ := g
      simp only []
      rw [yielded_append _ (ok.guards i pre[i] j b (by simp [hi]) hg)]
  dsimp only at h ⊢
  rw [e3]
  exact h

theorem set_push {l : Array Bool} {i : Nat} (h : i < l.size) (b c : Bool) : (l.push b).setIfInBounds i c = (l.setIfInBounds i c).push b := by
  apply Array.ext_getElem?
  intro k
  rw [Array.getElem?_setIfInBounds]
  simp only [Array.getElem?_push, Array.size_setIfInBounds, Array.size_push]
  by_cases hk : i = k
  · subst hk
    rw [if_pos rfl, if_pos (by omega), if_neg (by omega)]
    simp [h]
  · rw [if_neg hk]
    by_cases hk2 : k = l.size
    · simp [hk2]
    · rw [if_neg hk2, if_neg hk2, Array.getElem?_setIfInBounds, if_neg hk]

/-- The tail: nothing is left but the last operation. -/
theorem wpAny_last {pre : List Oper} {last : Oper} (ok : TailOk pre last) {Q : Exit → Act → World → Prop} {listed : Array Bool} (hs : listed.size = pre.length) (hall : ∀ j, j < pre.length → listed.getD j false = true)
    {a : Act} {w : World} (h : wpOp P (pre ++ [last]).toArray Q pre.length (fun a w => Q .normal a w) a w) : ∀ fuel, wpAny P .any (pre ++ [last]).toArray Q (fuel + 1) (listed.push false) a w := by
  intro fuel
  have hr := ready_all ok hs hall
  have hdone : Region.ready .any (pre ++ [last]).toArray ((listed.push false).setIfInBounds pre.length true) = [] := by
    rw [List.eq_nil_iff_forall_not_mem]
    intro i hi
    rw [mem_ready] at hi
    obtain ⟨h1, o, ho, _⟩ := hi
    have hil : i < (pre ++ [last]).length := by
      have := (Array.getElem?_eq_some_iff.1 ho).1
      simpa using this
    simp at hil
    simp only [Array.getD_eq_getD_getElem?, Array.getElem?_setIfInBounds, Array.size_push] at h1
    by_cases hk : pre.length = i
    · rw [if_pos hk, if_pos (by omega)] at h1
      simp at h1
    · rw [if_neg hk, Array.getElem?_push, if_neg (by omega)] at h1
      have h2 := hall i (by omega)
      simp only [Array.getD_eq_getD_getElem?] at h2
      rw [Array.getElem?_eq_getElem (by omega)] at h1 h2
      simp at h1 h2
      rw [h1] at h2; cases h2
  refine ⟨fun h0 => ?_, fun i hi => ?_⟩
  · have : pre.length ∈ Region.ready .any (pre ++ [last]).toArray (listed.push false) := (hr _).2 rfl
    rw [h0] at this; cases this
  · rw [(hr i).1 hi]
    refine wpOp_mono (fun a' w' hq => ?_) h
    cases fuel with
    | zero => exact ⟨hdone, hq⟩
    | succ f => exact ⟨fun _ => hq, by rw [hdone]; simp⟩

theorem wpAny_tail {pre : List Oper} {last : Oper} (ok : TailOk pre last) {Q : Exit → Act → World → Prop} :
    ∀ (fuel : Nat) (listed : Array Bool) (a : Act) (w : World), listed.size = pre.length → C w →
      wpAnyQ P .any pre.toArray C (fun a' => ∀ w', C w' → wpOp P (pre ++ [last]).toArray Q pre.length (fun a w => Q .normal a w) a' w') fuel listed a → wpAny P .any (pre ++ [last]).toArray Q (fuel + 1) (listed.push false) a w := by
  intro fuel
  induction fuel with
  | zero =>
    intro listed a w hs hC h
    refine wpAny_last ok hs (fun j hj => ?_) (h.2 w hC) 0
    cases hf : listed.getD j false with
    | true => rfl
    | false => exact absurd h.1 (ready_some ok hs ⟨j, hj, hf⟩).2
  | succ fuel ih =>
    intro listed a w hs hC h
    by_cases hnot : ∃ j, j < pre.length ∧ listed.getD j false = false
    · obtain ⟨hr, hne⟩ := ready_some ok hs hnot
      refine ⟨fun h0 => ?_, fun i hi => ?_⟩
      · exfalso
        cases hx : Region.ready .any pre.toArray listed with
        | nil => exact hne hx
        | cons x xs =>
          have : x ∈ Region.ready .any (pre ++ [last]).toArray (listed.push false) := (hr x).2 (by rw [hx]; simp)
          rw [h0] at this; cases this
      · have hi' := (hr i).1 hi
        have hil : i < pre.length := by
          obtain ⟨_, o, ho, _⟩ := mem_ready.1 hi'
          have := (Array.getElem?_eq_some_iff.1 ho).1
          simpa using this
        have hq := h.2 i hi'
        rw [set_push (by omega)]
        exact wpOp_append ok hil (wpOp_of_qOp hC (fun a' w' hw' hk => ih _ a' w' (by simp [hs]) hw' hk) hq)
    · have hall : ∀ j, j < pre.length → listed.getD j false = true := fun j hj => by
        cases hf : listed.getD j false with
        | true => rfl
        | false => exact absurd ⟨j, hj, hf⟩ hnot
      have hnil : Region.ready .any pre.toArray listed = [] := by
        rw [List.eq_nil_iff_forall_not_mem]
        intro i hi
        obtain ⟨h1, o, ho, _⟩ := mem_ready.1 hi
        have hil : i < pre.length := by
          have := (Array.getElem?_eq_some_iff.1 ho).1
          simpa using this
        have h2 := hall i hil
        simp only [Array.getD_eq_getD_getElem?] at h1 h2
        rw [Array.getElem?_eq_getElem (by omega)] at h1 h2
        simp at h1 h2
        rw [h1] at h2; cases h2
      exact wpAny_last ok hs hall (h.1 hnil w hC) (fuel + 1)

/-- **One walk**: the operations but the last in the text's order, quiet in the class; then the last. -/
theorem wp_region_tail {id : Nat} {Q : Exit → Act → World → Prop} {a : Act} {w : World} {l : List Oper} (pre : List Oper) (last : Oper) (hl : l = pre ++ [last]) (hm : P.follows .mixedOrders = true)
    (hB : Region.lexB .any pre.toArray = true) (hT : tailB pre last = true) (hC : C { w with drawn := w.drawn + 1 })
    (h : wpQuiet P pre.toArray C (fun a' => ∀ w', C w' → wpList P l.toArray Q [last] a' w') pre a) : (Code.region id l.toArray true).wp P Q a w := by
  subst hl
  have ok := tailB_ok hT
  have hB' := hB
  simp only [Region.lexB, Bool.and_eq_true] at hB'
  refine wp_region_any hm ?_
  have key := wpAnyQ_lex (P := P) (C := C) (md := .any) (ops := pre.toArray) (Q := fun a' => ∀ w', C w' → wpOp P (pre ++ [last]).toArray Q pre.length (fun a w => Q .normal a w) a' w') hB'.1 pre 0 (Array.replicate pre.length false) a (by simp) (by simpa using hB'.2) (by
    have hm2 : ∀ (l : List Oper) (a : Act), wpQuiet P pre.toArray C (fun a' => ∀ w', C w' → wpList P (pre ++ [last]).toArray Q [last] a' w') l a → wpQuiet P pre.toArray C (fun a' => ∀ w', C w' → wpOp P (pre ++ [last]).toArray Q pre.length (fun a w => Q .normal a w) a' w') l a := by
      intro l
      induction l with
      | nil =>
        intro a h w' hw'
        have := h w' hw'
        unfold wpOp
        simp only [List.getElem?_toArray, List.getElem?_append_right (Nat.le_refl _), Nat.sub_self, List.getElem?_cons_zero]
        exact this
      | cons o l ih =>
        intro a h
        unfold wpQuiet at h ⊢
        split
        · rename_i hw; rw [if_pos hw] at h; exact Oper.quiet_mono (ih) h
        · rename_i hw; rw [if_neg hw] at h; exact ih _ h
    exact hm2 pre a h)
  have := wpAny_tail (P := P) (C := C) ok (Q := Q) pre.length (Array.replicate pre.length false) a { w with drawn := w.drawn + 1 } (by simp) hC (by simpa using key)
  have e : (Array.replicate pre.length false).push false = Array.replicate (pre ++ [last]).length false := by simp [Array.replicate_succ]
  rw [e] at this
  simpa using this
end
end Go.Proofs.Ytjnlnbkdnjainaa

/- What every contract of these proofs says, and how a walk meets it: the call returns v; of what was there nothing has turned. -/
namespace Go.Proofs.Ytjnlnbkdnjainaa
open Go.RowKit Go.Sort

/-- A fact kept from the walk, which takes every hypothesis for a rewrite rule. -/
structure Kept (p : Prop) : Prop where
  out : p

/-- A call comes to this: it returns v; of what was there nothing has turned. -/
def Gives (v : Value) (w : World) (e : Ending) (w' : World) : Prop := e = .returned v ∧ Below w.heap.size w w'

/-- A world after draws, with some blocks more. -/
def after (w : World) (p : Regrown) : World := grow (redrawn w p.d) p.os
theorem after_eq (w : World) (p : Regrown) : after w p = grow (redrawn w p.d) p.os := rfl
theorem after_after (w : World) (p q : Regrown) : after (after w p) q = after w ⟨q.d, p.os ++ q.os⟩ := by
  simp [after_eq, grow, redrawn, Array.append_assoc]
theorem after_start (w : World) : after w ⟨w.drawn + 1, #[]⟩ = { w with drawn := w.drawn + 1 } := by
  simp [after_eq, grow_empty]; rfl
theorem after_below (w : World) (p : Regrown) : Below w.heap.size w (after w p) := below_regrown w p.d p.os
theorem after_of {w w' : World} (h : Below w.heap.size w w') : ∃ p, w' = after w p := regrown_of_below h
theorem after_size0 (w : World) (p : Regrown) : (after w p).heap.size = w.heap.size + p.os.size := by simp [after_eq, grow, redrawn]
attribute [irreducible] after

theorem Below.next {w w1 w2 : World} (h : Below w.heap.size w w1) (h2 : Below w1.heap.size w1 w2) : Below w.heap.size w w2 := h.trans (h2.mono h.size)
theorem Below.box {w w1 : World} (h : Below w.heap.size w w1) (o : Obj) : Below w.heap.size w (w1.alloc o) := h.alloc h.size o
theorem Below.put {w w1 : World} (h : Below w.heap.size w w1) {a : Addr} (ha : w.heap.size ≤ a.block) (v : Value) : Below w.heap.size w (w1.setCell a v) := h.setCell ha v
theorem Below.later {w w1 : World} (h : Below w.heap.size w w1) (p : Regrown) : Below w.heap.size w (after w1 p) := Below.next h (after_below w1 p)

/-- A contract met in a walk. -/
theorem use {P : Program} {f : FuncId} {args : Array Value} {w : World} {v : Value} {R : Ending → World → Prop} (h : Calls P f args w (Gives v w)) (k : ∀ p, R (.returned v) (after w p)) : Calls P f args w R :=
  h.mono fun e w' ⟨he, hb⟩ => by
    obtain ⟨p, rfl⟩ := after_of hb
    subst he
    exact k p
/-- A contract whose call leaves the world alone. -/
theorem use0 {P : Program} {f : FuncId} {args : Array Value} {w : World} {v : Value} {R : Ending → World → Prop} (h : Calls P f args w fun e w' => e = .returned v ∧ w = w') (k : R (.returned v) w) : Calls P f args w R :=
  h.mono fun e w' ⟨he, hb⟩ => by subst he; subst hb; exact k

@[simp, go_sem] theorem after_size (w : World) (p : Regrown) : (after w p).heap.size = w.heap.size + p.os.size := after_size0 w p
@[simp, go_sem] theorem after_cell (w : World) (p : Regrown) (b o : Nat) (h : b < w.heap.size) : (after w p).cell? ⟨b, o, none⟩ = w.cell? ⟨b, o, none⟩ := (after_below w p).cell (p := ⟨b, o, none⟩) h
@[simp, go_sem] theorem after_frozen (w : World) (p : Regrown) (b o : Nat) (h : b < w.heap.size) : (after w p).frozen? ⟨b, o, none⟩ = w.frozen? ⟨b, o, none⟩ := (after_below w p).frozen (p := ⟨b, o, none⟩) h
@[simp, go_sem] theorem lt_grow {a b : Nat} (k : Nat) (h : a < b) : a < b + k := by omega
@[simp, go_sem] theorem lt_0_1 (a k : Nat) : a < a + 1 + k := by omega
@[simp, go_sem] theorem lt_0_1' (a k : Nat) : a < a + 1 + k + 1 := by omega
@[simp, go_sem] theorem lt_0_2 (a k : Nat) : a < a + 2 + k := by omega
@[simp, go_sem] theorem lt_0_2' (a k : Nat) : a < a + 2 + k + 1 := by omega
@[simp, go_sem] theorem lt_1_2 (a k : Nat) : a + 1 < a + 2 + k := by omega
@[simp, go_sem] theorem lt_1_2' (a k : Nat) : a + 1 < a + 2 + k + 1 := by omega
@[simp, go_sem] theorem lt_0_3 (a k : Nat) : a < a + 3 + k := by omega
@[simp, go_sem] theorem lt_0_3' (a k : Nat) : a < a + 3 + k + 1 := by omega
@[simp, go_sem] theorem lt_1_3 (a k : Nat) : a + 1 < a + 3 + k := by omega
@[simp, go_sem] theorem lt_1_3' (a k : Nat) : a + 1 < a + 3 + k + 1 := by omega
@[simp, go_sem] theorem lt_2_3 (a k : Nat) : a + 2 < a + 3 + k := by omega
@[simp, go_sem] theorem lt_2_3' (a k : Nat) : a + 2 < a + 3 + k + 1 := by omega
@[simp, go_sem] theorem lt_0_4 (a k : Nat) : a < a + 4 + k := by omega
@[simp, go_sem] theorem lt_0_4' (a k : Nat) : a < a + 4 + k + 1 := by omega
@[simp, go_sem] theorem lt_1_4 (a k : Nat) : a + 1 < a + 4 + k := by omega
@[simp, go_sem] theorem lt_1_4' (a k : Nat) : a + 1 < a + 4 + k + 1 := by omega
@[simp, go_sem] theorem lt_2_4 (a k : Nat) : a + 2 < a + 4 + k := by omega
@[simp, go_sem] theorem lt_2_4' (a k : Nat) : a + 2 < a + 4 + k + 1 := by omega
@[simp, go_sem] theorem lt_3_4 (a k : Nat) : a + 3 < a + 4 + k := by omega
@[simp, go_sem] theorem lt_3_4' (a k : Nat) : a + 3 < a + 4 + k + 1 := by omega
@[simp, go_sem] theorem lt_0_5 (a k : Nat) : a < a + 5 + k := by omega
@[simp, go_sem] theorem lt_0_5' (a k : Nat) : a < a + 5 + k + 1 := by omega
@[simp, go_sem] theorem lt_1_5 (a k : Nat) : a + 1 < a + 5 + k := by omega
@[simp, go_sem] theorem lt_1_5' (a k : Nat) : a + 1 < a + 5 + k + 1 := by omega
@[simp, go_sem] theorem lt_2_5 (a k : Nat) : a + 2 < a + 5 + k := by omega
@[simp, go_sem] theorem lt_2_5' (a k : Nat) : a + 2 < a + 5 + k + 1 := by omega
@[simp, go_sem] theorem lt_3_5 (a k : Nat) : a + 3 < a + 5 + k := by omega
@[simp, go_sem] theorem lt_3_5' (a k : Nat) : a + 3 < a + 5 + k + 1 := by omega
@[simp, go_sem] theorem lt_4_5 (a k : Nat) : a + 4 < a + 5 + k := by omega
@[simp, go_sem] theorem lt_4_5' (a k : Nat) : a + 4 < a + 5 + k + 1 := by omega
@[simp, go_sem] theorem lt_0_6 (a k : Nat) : a < a + 6 + k := by omega
@[simp, go_sem] theorem lt_0_6' (a k : Nat) : a < a + 6 + k + 1 := by omega
@[simp, go_sem] theorem lt_1_6 (a k : Nat) : a + 1 < a + 6 + k := by omega
@[simp, go_sem] theorem lt_1_6' (a k : Nat) : a + 1 < a + 6 + k + 1 := by omega
@[simp, go_sem] theorem lt_2_6 (a k : Nat) : a + 2 < a + 6 + k := by omega
@[simp, go_sem] theorem lt_2_6' (a k : Nat) : a + 2 < a + 6 + k + 1 := by omega
@[simp, go_sem] theorem lt_3_6 (a k : Nat) : a + 3 < a + 6 + k := by omega
@[simp, go_sem] theorem lt_3_6' (a k : Nat) : a + 3 < a + 6 + k + 1 := by omega
@[simp, go_sem] theorem lt_4_6 (a k : Nat) : a + 4 < a + 6 + k := by omega
@[simp, go_sem] theorem lt_4_6' (a k : Nat) : a + 4 < a + 6 + k + 1 := by omega
@[simp, go_sem] theorem lt_5_6 (a k : Nat) : a + 5 < a + 6 + k := by omega
@[simp, go_sem] theorem lt_5_6' (a k : Nat) : a + 5 < a + 6 + k + 1 := by omega
/-- A contract met in a walk whose world has come out of another call. -/
theorem use1 {P : Program} {f : FuncId} {args : Array Value} {w : World} {p : Regrown} {v : Value} {R : Ending → World → Prop} (h : Calls P f args (after w p) (Gives v (after w p))) (k : ∀ q, R (.returned v) (after w q)) :
    Calls P f args (after w p) R := use h (fun q => by rw [after_after]; exact k _)

/-- A block of one number, of two numbers, not frozen. -/
structure Cell1 (w : World) (b : Nat) (x : Int) : Prop where
  c0 : w.cell? ⟨b, 0, none⟩ = some (.int .u64 x)
  f0 : w.frozen? ⟨b, 0, none⟩ = false
  lt : b < w.heap.size
structure Cell2 (w : World) (b : Nat) (x y : Int) : Prop where
  c0 : w.cell? ⟨b, 0, none⟩ = some (.int .u64 x)
  c1 : w.cell? ⟨b, 1, none⟩ = some (.int .u64 y)
  f0 : w.frozen? ⟨b, 0, none⟩ = false
  f1 : w.frozen? ⟨b, 1, none⟩ = false
  lt : b < w.heap.size
theorem Cell1.later {w : World} {b : Nat} {x : Int} (h : Cell1 w b x) (p : Regrown) : Cell1 (after w p) b x :=
  ⟨by rw [after_cell _ _ _ _ h.lt]; exact h.c0, by rw [after_frozen _ _ _ _ h.lt]; exact h.f0, by rw [after_size]; have := h.lt; omega⟩
theorem Cell2.later {w : World} {b : Nat} {x y : Int} (h : Cell2 w b x y) (p : Regrown) : Cell2 (after w p) b x y :=
  ⟨by rw [after_cell _ _ _ _ h.lt]; exact h.c0, by rw [after_cell _ _ _ _ h.lt]; exact h.c1, by rw [after_frozen _ _ _ _ h.lt]; exact h.f0, by rw [after_frozen _ _ _ _ h.lt]; exact h.f1, by rw [after_size]; have := h.lt; omega⟩
theorem Cell1.other {w : World} {b : Nat} {x : Int} (h : Cell1 w b x) {a : Addr} (hne : a.block ≠ b) (v : Value) : Cell1 (w.setCell a v) b x :=
  ⟨by rw [World.cell?_setCell_other _ _ _ _ (fun e => hne (by rw [e]))]; exact h.c0, by rw [World.frozen?_setCell]; exact h.f0, by rw [World.size_setCell]; exact h.lt⟩
theorem Cell2.other {w : World} {b : Nat} {x y : Int} (h : Cell2 w b x y) {a : Addr} (hne : a.block ≠ b) (v : Value) : Cell2 (w.setCell a v) b x y :=
  ⟨by rw [World.cell?_setCell_other _ _ _ _ (fun e => hne (by rw [e]))]; exact h.c0, by rw [World.cell?_setCell_other _ _ _ _ (fun e => hne (by rw [e]))]; exact h.c1,
    by rw [World.frozen?_setCell]; exact h.f0, by rw [World.frozen?_setCell]; exact h.f1, by rw [World.size_setCell]; exact h.lt⟩
theorem Cell2.put {w : World} {b : Nat} {x y : Int} (h : Cell2 w b x y) (u v : Int) : Cell2 ((w.setCell ⟨b, 0, none⟩ (.int .u64 u)).setCell ⟨b, 1, none⟩ (.int .u64 v)) b u v := by
  have e : (⟨b, 1, none⟩ : Addr) ≠ ⟨b, 0, none⟩ := by intro h; injection h with _ h2 _; exact absurd h2 (by decide)
  refine ⟨?_, ?_, by rw [World.frozen?_setCell, World.frozen?_setCell]; exact h.f0, by rw [World.frozen?_setCell, World.frozen?_setCell]; exact h.f1, by rw [World.size_setCell, World.size_setCell]; exact h.lt⟩
  · rw [World.cell?_setCell_other _ _ _ _ e]; exact World.cell?_setCell_same _ _ _ h.c0
  · refine World.cell?_setCell_same _ _ _ (u := .int .u64 y) ?_
    rw [World.cell?_setCell_other _ _ _ _ (Ne.symm e)]; exact h.c1
theorem Cell1.new (w : World) (x : Int) (t : TypeId) : Cell1 (w.alloc (.cells #[.int .u64 x] t)) w.heap.size x :=
  ⟨by rw [World.cell?_alloc_new]; rfl, World.frozen?_alloc_new .., by rw [World.size_alloc]; omega⟩
theorem Cell2.new (w : World) (x y : Int) (t : TypeId) : Cell2 (w.alloc (.cells #[.int .u64 x, .int .u64 y] t)) w.heap.size x y :=
  ⟨by rw [World.cell?_alloc_new]; rfl, by rw [World.cell?_alloc_new]; rfl, World.frozen?_alloc_new .., World.frozen?_alloc_new .., by rw [World.size_alloc]; omega⟩
theorem Cell1.boxed {w : World} {b : Nat} {x : Int} (h : Cell1 w b x) (o : Obj) : Cell1 (w.alloc o) b x :=
  ⟨by rw [World.cell?_alloc_lt _ _ _ h.lt]; exact h.c0, by rw [World.frozen?_alloc_old _ _ _ (Nat.ne_of_lt h.lt)]; exact h.f0, by rw [World.size_alloc]; have := h.lt; omega⟩
theorem Cell2.boxed {w : World} {b : Nat} {x y : Int} (h : Cell2 w b x y) (o : Obj) : Cell2 (w.alloc o) b x y :=
  ⟨by rw [World.cell?_alloc_lt _ _ _ h.lt]; exact h.c0, by rw [World.cell?_alloc_lt _ _ _ h.lt]; exact h.c1, by rw [World.frozen?_alloc_old _ _ _ (Nat.ne_of_lt h.lt)]; exact h.f0,
    by rw [World.frozen?_alloc_old _ _ _ (Nat.ne_of_lt h.lt)]; exact h.f1, by rw [World.size_alloc]; have := h.lt; omega⟩

/-- A region that draws its order: one walk. -/
theorem region_quiet {id : Nat} {Q : Exit → Act → World → Prop} {a : Act} {w : World} {l : List Oper} (hB : Region.lexB .any l.toArray = true)
    (h : wpQuiet Try.prog l.toArray (fun w' => ∃ p : Regrown, w' = after w p) (fun a' => ∀ p : Regrown, Q .normal a' (after w p)) l a) : (Code.region id l.toArray true).wp Try.prog Q a w := by
  refine wp_region_quiet (C := fun w' => ∃ p : Regrown, w' = after w p) (by kernel_rfl) hB ⟨⟨w.drawn + 1, #[]⟩, (after_start w).symm⟩ ?_
  have hq : (fun a' => ∀ p : Regrown, Q .normal a' (after w p)) = (fun a' => ∀ w', (∃ p : Regrown, w' = after w p) → Q .normal a' w') := by
    funext a'; simp
  rw [hq] at h
  simpa using h
theorem region_quiet1 {id : Nat} {Q : Exit → Act → World → Prop} {a : Act} {w : World} {p : Regrown} {l : List Oper} (hB : Region.lexB .any l.toArray = true)
    (h : wpQuiet Try.prog l.toArray (fun w' => ∃ p : Regrown, w' = after w p) (fun a' => ∀ p : Regrown, Q .normal a' (after w p)) l a) : (Code.region id l.toArray true).wp Try.prog Q a (after w p) := by
  refine wp_region_quiet (C := fun w' => ∃ p : Regrown, w' = after w p) (by kernel_rfl) hB ⟨⟨(after w p).drawn + 1, p.os⟩, ?_⟩ ?_
  · rw [← after_start, after_after]; simp
  have hq : (fun a' => ∀ p : Regrown, Q .normal a' (after w p)) = (fun a' => ∀ w', (∃ p : Regrown, w' = after w p) → Q .normal a' w') := by
    funext a'; simp
  rw [hq] at h
  simpa using h
/-- All but the last; the last. -/
def initOf : List Oper → List Oper
  | [] => []
  | [_] => []
  | a :: b :: l => a :: initOf (b :: l)
def lastOf : List Oper → Oper
  | [] => default
  | [a] => a
  | _ :: b :: l => lastOf (b :: l)
theorem init_last : ∀ (l : List Oper), l ≠ [] → l = initOf l ++ [lastOf l]
  | [], h => absurd rfl h
  | [a], _ => rfl
  | a :: b :: l, _ => by
    have := init_last (b :: l) (by simp)
    simp only [initOf, lastOf, List.cons_append]
    rw [← this]

/-- A region that draws its order, and ends in a store. -/
theorem region_tail {id : Nat} {Q : Exit → Act → World → Prop} {a : Act} {w : World} {l : List Oper} (hl : l.isEmpty = false) (hB : Region.lexB .any (initOf l).toArray = true) (hT : tailB (initOf l) (lastOf l) = true)
    (h : wpQuiet Try.prog (initOf l).toArray (fun w' => ∃ p : Regrown, w' = after w p) (fun a' => ∀ p : Regrown, wpList Try.prog l.toArray Q [lastOf l] a' (after w p)) (initOf l) a) : (Code.region id l.toArray true).wp Try.prog Q a w := by
  refine wp_region_tail (C := fun w' => ∃ p : Regrown, w' = after w p) (initOf l) (lastOf l) (init_last l (by intro h; simp [h] at hl)) (by kernel_rfl) hB hT ⟨⟨w.drawn + 1, #[]⟩, (after_start w).symm⟩ ?_
  have hq : (fun a' => ∀ p : Regrown, wpList Try.prog l.toArray Q [lastOf l] a' (after w p)) = (fun a' => ∀ w', (∃ p : Regrown, w' = after w p) → wpList Try.prog l.toArray Q [lastOf l] a' w') := by
    funext a'; simp
  rw [hq] at h
  exact h
theorem region_tail1 {id : Nat} {Q : Exit → Act → World → Prop} {a : Act} {w : World} {p : Regrown} {l : List Oper} (hl : l.isEmpty = false) (hB : Region.lexB .any (initOf l).toArray = true) (hT : tailB (initOf l) (lastOf l) = true)
    (h : wpQuiet Try.prog (initOf l).toArray (fun w' => ∃ p : Regrown, w' = after w p) (fun a' => ∀ p : Regrown, wpList Try.prog l.toArray Q [lastOf l] a' (after w p)) (initOf l) a) : (Code.region id l.toArray true).wp Try.prog Q a (after w p) := by
  refine wp_region_tail (C := fun w' => ∃ p : Regrown, w' = after w p) (initOf l) (lastOf l) (init_last l (by intro h; simp [h] at hl)) (by kernel_rfl) hB hT ⟨⟨(after w p).drawn + 1, p.os⟩, ?_⟩ ?_
  · rw [← after_start, after_after]; simp
  have hq : (fun a' => ∀ p : Regrown, wpList Try.prog l.toArray Q [lastOf l] a' (after w p)) = (fun a' => ∀ w', (∃ p : Regrown, w' = after w p) → wpList Try.prog l.toArray Q [lastOf l] a' w') := by
    funext a'; simp
  rw [hq] at h
  exact h
/-- A contract met inside such a region. -/
theorem quiet {P : Program} {f : FuncId} {args : Array Value} {w : World} {p : Regrown} {v : Value} (h : Calls P f args (after w p) (Gives v (after w p))) :
    Calls P f args (after w p) fun e w'' => e = .returned v ∧ ∃ q : Regrown, w'' = after w q :=
  h.mono fun _ _ ⟨he, hb⟩ => by
    obtain ⟨q, hq⟩ := after_of hb
    exact ⟨he, ⟨q.d, p.os ++ q.os⟩, by rw [hq, after_after]⟩
theorem quiet0 {P : Program} {f : FuncId} {args : Array Value} {w : World} {p : Regrown} {v : Value} (h : Calls P f args (after w p) fun e w' => e = .returned v ∧ after w p = w') :
    Calls P f args (after w p) fun e w'' => e = .returned v ∧ ∃ q : Regrown, w'' = after w q :=
  h.mono fun _ _ ⟨he, hb⟩ => ⟨he, p, hb.symm⟩
end Go.Proofs.Ytjnlnbkdnjainaa
