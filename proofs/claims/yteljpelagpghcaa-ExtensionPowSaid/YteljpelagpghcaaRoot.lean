/- The contracts of the roots of unity, and of the primes' list. -/
import Derived.Test.YteljpelagpghcaaConE
namespace Go.Proofs.Yteljpelagpghcaa
open Go.RowKit

/-! ### powers of two -/
def pow2B (n : Nat) : Bool := (n &&& (n - 1)) == 0
theorem and_pred_even (m : Nat) (h : 1 ≤ m) : (2 * m) &&& (2 * m - 1) = 2 * (m &&& (m - 1)) := by
  have h1 : ((2 * m) &&& (2 * m - 1)) / 2 = m &&& (m - 1) := by
    rw [Nat.and_div_two, show 2 * m / 2 = m from by omega, show (2 * m - 1) / 2 = m - 1 from by omega]
  have h2 : ((2 * m) &&& (2 * m - 1)) % 2 ≠ 1 := by
    rw [ne_eq, Nat.and_mod_two_eq_one]; omega
  omega
theorem and_pred_odd (m : Nat) : (2 * m + 1) &&& (2 * m + 1 - 1) = 2 * m := by
  have h1 : ((2 * m + 1) &&& (2 * m + 1 - 1)) / 2 = m := by
    rw [Nat.and_div_two, show (2 * m + 1) / 2 = m from by omega, show (2 * m + 1 - 1) / 2 = m from by omega, Nat.and_self]
  have h2 : ((2 * m + 1) &&& (2 * m + 1 - 1)) % 2 ≠ 1 := by
    rw [ne_eq, Nat.and_mod_two_eq_one]; omega
  omega
theorem pow2B_even (m : Nat) (h : 1 ≤ m) : pow2B (2 * m) = pow2B m := by
  unfold pow2B; rw [and_pred_even m h]
  rw [Bool.eq_iff_iff]; simp; omega
theorem pow2B_odd (m : Nat) : pow2B (2 * m + 1) = (m == 0) := by
  unfold pow2B; rw [and_pred_odd m]
  rw [Bool.eq_iff_iff]; simp; omega
theorem pow2B_even_of (n : Nat) (h : 1 < n) (hp : pow2B n = true) : n % 2 = 0 := by
  rcases Nat.mod_two_eq_zero_or_one n with h0 | h0
  · exact h0
  · have : n = 2 * (n / 2) + 1 := by omega
    rw [this, pow2B_odd] at hp
    simp at hp; omega
theorem i64_and_nat (a b : Nat) (ha : a < 9223372036854775808) (hb : b < 9223372036854775808) : bits .and .i64 (a : Int) (b : Int) = ((a &&& b : Nat) : Int) := by
  have e : ∀ a : Nat, a < 9223372036854775808 → (BitVec.ofInt 64 (a : Int)).toNat = a := fun a ha => by
    rw [BitVec.toNat_ofInt]; omega
  have hle : a &&& b ≤ a := Nat.and_le_left
  show IntKind.i64.wrap ((BitVec.ofInt 64 (a : Int) &&& BitVec.ofInt 64 (b : Int)).toNat : Int) = _
  rw [BitVec.toNat_and, e a ha, e b hb, IntKind.wrap_i64]
  omega
theorem and_pred_i64 (n : Int) (h1 : 1 ≤ n) (h2 : n ≤ 9223372036854775807) : (bits .and .i64 n (n - 1) != 0) = !pow2B n.toNat := by
  obtain ⟨n, rfl⟩ := Int.eq_ofNat_of_zero_le (a := n) (by omega)
  rw [show ((n : Int) - 1) = ((n - 1 : Nat) : Int) from by omega, i64_and_nat n (n - 1) (by omega) (by omega), Int.toNat_natCast]
  unfold pow2B
  rw [Bool.eq_iff_iff]
  simp [bne_iff_ne]

/-- There is a root of unity of order n. -/
def rootOk (p n : Int) : Bool := vld p && decide (1 ≤ n) && pow2B n.toNat && decide ((p - 1) % n = 0)
def rootV (p n : Int) : Int := if rootOk p n then fpow p (gen p) ((p - 1) / n).toNat else 0
theorem rootV_U {p n : Int} : U (rootV p n) := by
  unfold rootV; split
  · exact fpow_U
  · exact ⟨by omega, by omega⟩
theorem root_not {p n : Int} (h : rootOk p n = false) : rootV p n = 0 := by unfold rootV; rw [h]; rfl

theorem gen_lt {p : Int} (h : vld p = true) : 0 ≤ gen p ∧ gen p < p := by
  rcases vld_cases h with h | h | h | h | h | h | h <;> subst h <;> decide

/-! ### the known primes -/
theorem rknown_c (w : World) : Calls Try.prog 41 #[] w fun e w' => e = .returned (.slice (some ⟨w.heap.size, 0, none⟩) 7 7) ∧
    w' = w.alloc (.cells #[.int .u64 17, .int .u64 97, .int .u64 193, .int .u64 257, .int .u64 12289, .int .u64 65537, .int .u64 18446744069414584321] 22) := by
  go_enter Try.func41, Try.ntmps41
  go_wp2
  go_ret
  exact ⟨rfl, rfl⟩
/-- The prime with a number. -/
def primeOf (n : Int) : Int := if n % 7 = 0 then 17 else if n % 7 = 1 then 97 else if n % 7 = 2 then 193 else if n % 7 = 3 then 257 else if n % 7 = 4 then 12289 else if n % 7 = 5 then 65537 else 18446744069414584321
theorem prime_valid (n : Int) : vld (primeOf n) = true := by
  unfold primeOf
  (repeat' split) <;> decide
theorem prime_U (n : Int) : U (primeOf n) := by
  have := vld_pos (prime_valid n)
  exact ⟨by omega, by omega⟩
theorem prime_c (n : Int) (w : World) (h0 : 0 ≤ n) (h1 : n ≤ 255) : Calls Try.prog 21 #[.int .u8 n] w (Gives (.int .u64 (primeOf n)) w) := by
  have key : ∀ i p, n % 7 = i → primeOf n = p → Calls Try.prog 21 #[.int .u8 n] w (Gives (.int .u64 p) w) → Calls Try.prog 21 #[.int .u8 n] w (Gives (.int .u64 (primeOf n)) w) := fun i p _ h2 h => by rw [h2]; exact h
  have hm : n % 7 = 0 ∨ n % 7 = 1 ∨ n % 7 = 2 ∨ n % 7 = 3 ∨ n % 7 = 4 ∨ n % 7 = 5 ∨ n % 7 = 6 := by omega
  rcases hm with h | h | h | h | h | h | h
  all_goals refine key _ _ h (by simp only [primeOf, h]; rfl) ?_
  all_goals clear key
  all_goals go_enter Try.func21, Try.ntmps21
  all_goals go_wp2_with (go_at_call 41; refine (rknown_c _).mono ?_; rintro e w' ⟨rfl, rfl⟩)
  all_goals (go_ret; exact ⟨rfl, (by repeat (first | exact Below.refl _ _ | refine Below.later ?_ _ | refine Below.box ?_ _ | refine Below.drew ?_ | refine Below.put ?_ (by dsimp only; omega) _))⟩)
end Go.Proofs.Yteljpelagpghcaa
