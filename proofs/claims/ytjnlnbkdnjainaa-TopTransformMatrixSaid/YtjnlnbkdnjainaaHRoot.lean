/- The contracts of the roots of unity, and of the primes' list. -/
import Derived.Test.YtjnlnbkdnjainaaQB
namespace Go.Proofs.Ytjnlnbkdnjainaa
open Go.RowKit

/-! ### powers of two -/
def pow2B (n : Nat) : Bool := (n &&& (n - 1)) == 0
theorem and_pred_even (m : Nat) (h : 1 ≤ m) : (2 * m) &&& (2 * m - 1) = 2 * (m &&& (m - 1)) := by
  have h1 : ((2 * m) &&& (2 * m - 1)) / 2 = m &&& (m - 1) := by
    rw [Nat.and_div_two, show 2 * m / 2 = m from by omega, show (2 * m - 1) / 2 = m - 1 from by omega]
  have h2 : ((2 * m) &&& (2 * m - 1)) % 2 ≠ 1 := by
    rw [ne_eq, Nat.and_mod_two_eq_one]; omega
  omega
theorem and_pred_odd (m : Nat) : (2 * m + 1) &&& (2 * m + 1 - 1) = 2 * m := by
  have h1 : ((2 * m + 1) &&& (2 * m + 1 - 1)) / 2 = m := by
    rw [Nat.and_div_two, show (2 * m + 1) / 2 = m from by omega, show (2 * m + 1 - 1) / 2 = m from by omega, Nat.and_self]
  have h2 : ((2 * m + 1) &&& (2 * m + 1 - 1)) % 2 ≠ 1 := by
    rw [ne_eq, Nat.and_mod_two_eq_one]; omega
  omega
theorem pow2B_even (m : Nat) (h : 1 ≤ m) : pow2B (2 * m) = pow2B m := by
  unfold pow2B; rw [and_pred_even m h]
  rw [Bool.eq_iff_iff]; simp; omega
theorem pow2B_odd (m : Nat) : pow2B (2 * m + 1) = (m == 0) := by
  unfold pow2B; rw [and_pred_odd m]
  rw [Bool.eq_iff_iff]; simp; omega
theorem pow2B_even_of (n : Nat) (h : 1 < n) (hp : pow2B n = true) : n % 2 = 0 := by
  rcases Nat.mod_two_eq_zero_or_one n with h0 | h0
  · exact h0
  · have : n = 2 * (n / 2) + 1 := by omega
    rw [this, pow2B_odd] at hp
    simp at hp; omega
theorem i64_and_nat (a b : Nat) (ha : a < 9223372036854775808) (hb : b < 9223372036854775808) : bits .and .i64 (a : Int) (b : Int) = ((a &&& b : Nat) : Int) := by
  have e : ∀ a : Nat, a < 9223372036854775808 → (BitVec.ofInt 64 (a : Int)).toNat = a := fun a ha => by
    rw [BitVec.toNat_ofInt]; omega
  have hle : a &&& b ≤ a := Nat.and_le_left
  show IntKind.i64.wrap ((BitVec.ofInt 64 (a : Int) &&& BitVec.ofInt 64 (b : Int)).toNat : Int) = _
  rw [BitVec.toNat_and, e a ha, e b hb, IntKind.wrap_i64]
  omega
theorem and_pred_i64 (n : Int) (h1 : 1 ≤ n) (h2 : n ≤ 9223372036854775807) : (bits .and .i64 n (n - 1) != 0) = !pow2B n.toNat := by
  obtain ⟨n, rfl⟩ := Int.eq_ofNat_of_zero_le (a := n) (by omega)
  rw [show ((n : Int) - 1) = ((n - 1 : Nat) : Int) from by omega, i64_and_nat n (n - 1) (by omega) (by omega), Int.toNat_natCast]
  unfold pow2B
  rw [Bool.eq_iff_iff]
  simp [bne_iff_ne]

/-- There is a root of unity of order n. -/
def rootOk (p n : Int) : Bool := vld p && decide (1 ≤ n) && pow2B n.toNat && decide ((p - 1) % n = 0)
def rootV (p n : Int) : Int := if rootOk p n then fpow p (gen p) ((p - 1) / n).toNat else 0
theorem rootV_U {p n : Int} : U (rootV p n) := by
  unfold rootV; split
  · exact fpow_U
  · exact ⟨by omega, by omega⟩
theorem root_not {p n : Int} (h : rootOk p n = false) : rootV p n = 0 := by unfold rootV; rw [h]; rfl

theorem gen_lt {p : Int} (h : vld p = true) : 0 ≤ gen p ∧ gen p < p := by
  rcases vld_cases h with h | h | h | h | h | h | h <;> subst h <;> decide

theorem root_c (p n : Int) (w : World) (hn0 : -9223372036854775808 ≤ n) (hn1 : n ≤ 9223372036854775807) :
    Calls Try.prog 79 #[.agg #[.int .u64 p], .int .i64 n] w (Gives (.tuple #[.int .u64 (rootV p n), .bool (rootOk p n)]) w) := by
  have key : ∀ ok v, rootOk p n = ok → rootV p n = v → Calls Try.prog 79 #[.agg #[.int .u64 p], .int .i64 n] w (Gives (.tuple #[.int .u64 v, .bool ok]) w) →
      Calls Try.prog 79 #[.agg #[.int .u64 p], .int .i64 n] w (Gives (.tuple #[.int .u64 (rootV p n), .bool (rootOk p n)]) w) := fun ok v h1 h2 h => by rw [h1, h2]; exact h
  cases hv : vld p
  · have hno : rootOk p n = false := by simp [rootOk, hv]
    refine key false 0 hno (root_not hno) ?_
    clear hno key
    go_enter Try.func79, Try.ntmps79
    go_wp2_with (first | (go_at_call 50; (first | with_reducible refine use1 (valid_c _ _) ?_ | with_reducible refine use (valid_c _ _) ?_); intro pw))
    go_ret2
    exact ⟨rfl, (by repeat (first | exact Below.refl _ _ | refine Below.later ?_ _ | refine Below.box ?_ _ | refine Below.drew ?_ | refine Below.put ?_ (by dsimp only; omega) _))⟩
  · have hp := vld_pos hv
    by_cases h1 : n < 1
    · have hno : rootOk p n = false := by have : ¬ 1 ≤ n := by omega
                                          simp [rootOk, this]
      refine key false 0 hno (root_not hno) ?_
      clear hno key
      go_enter Try.func79, Try.ntmps79
      go_wp2_with (first | (go_at_call 50; (first | with_reducible refine use1 (valid_c _ _) ?_ | with_reducible refine use (valid_c _ _) ?_); intro pw))
      go_ret2
      exact ⟨rfl, (by repeat (first | exact Below.refl _ _ | refine Below.later ?_ _ | refine Below.box ?_ _ | refine Below.drew ?_ | refine Below.put ?_ (by dsimp only; omega) _))⟩
    · have hand := and_pred_i64 n (by omega) hn1
      cases h2 : pow2B n.toNat
      · have hno : rootOk p n = false := by simp [rootOk, h2]
        refine key false 0 hno (root_not hno) ?_
        rw [h2] at hand
        clear hno key h2
        go_enter Try.func79, Try.ntmps79
        go_wp2_with (first | (go_at_call 50; (first | with_reducible refine use1 (valid_c _ _) ?_ | with_reducible refine use (valid_c _ _) ?_); intro pw))
        go_ret2
        exact ⟨rfl, (by repeat (first | exact Below.refl _ _ | refine Below.later ?_ _ | refine Below.box ?_ _ | refine Below.drew ?_ | refine Below.put ?_ (by dsimp only; omega) _))⟩
      · rw [h2] at hand
        by_cases h3 : (p - 1) % n = 0
        · have hok : rootOk p n = true := by have : 1 ≤ n := by omega
                                             simp [rootOk, hv, h2, h3, this]
          refine key true (fpow p (gen p) ((p - 1) / n).toNat) hok (by unfold rootV; rw [hok]; rfl) ?_
          have hb : ((p - 1) % n != 0) = false := by simp [h3]
          obtain ⟨q, hq⟩ : ∃ q, (p - 1) / n = q := ⟨_, rfl⟩
          have q0 : 0 ≤ q := by rw [← hq]; exact Int.ediv_nonneg (by omega) (by omega)
          have q1 : q ≤ p - 1 := by rw [← hq]; exact Int.ediv_le_self _ (by omega)
          have hq2 : IntKind.u64.wrap ((p - 1).tdiv n) = q := by rw [Int.tdiv_eq_ediv_of_nonneg (by omega), hq, IntKind.wrap_u64]; omega
          have hnz : ¬ n = 0 := by omega
          have g := gen_lt hv
          have c : Kept (∀ w, Calls Try.prog 78 #[.agg #[.int .u64 p], .int .u64 (gen p), .int .u64 q] w (Gives (.int .u64 (fpow p (gen p) q.toNat)) w)) := ⟨fun w => by
            have := pow_c0 p (gen p) q.toNat w (by omega) (by omega) g.1 g.2 (by omega)
            rw [Int.toNat_of_nonneg q0] at this
            rw [fpow, if_pos hv]; exact this⟩
          rw [hq]
          clear hok key h2 h3 g
          go_enter Try.func79, Try.ntmps79
          go_wp2_with (first | (go_at_call 50; (first | with_reducible refine use1 (valid_c _ _) ?_ | with_reducible refine use (valid_c _ _) ?_); intro pw))
          first | refine region_quiet1 (by kernel_rfl) ?_ | refine region_quiet (by kernel_rfl) ?_
          repeat (go_big_quiet_step (first | (go_at_call 16; with_reducible exact quiet (gen_c p _)) | (go_at_call 78; with_reducible exact quiet (c.out _))))
          refine wpQuiet_nil ?_
          intro _
          go_wp2
          go_ret2
          exact ⟨rfl, (by repeat (first | exact Below.refl _ _ | refine Below.later ?_ _ | refine Below.box ?_ _ | refine Below.drew ?_ | refine Below.put ?_ (by dsimp only; omega) _))⟩
        · have hno : rootOk p n = false := by simp [rootOk, h3]
          refine key false 0 hno (root_not hno) ?_
          have hb : ((p - 1) % n != 0) = true := by simp [h3]
          clear hno key h2 h3
          have hnz : ¬ n = 0 := by omega
          go_enter Try.func79, Try.ntmps79
          go_wp2_with (first | (go_at_call 50; (first | with_reducible refine use1 (valid_c _ _) ?_ | with_reducible refine use (valid_c _ _) ?_); intro pw))
          go_ret2
          exact ⟨rfl, (by repeat (first | exact Below.refl _ _ | refine Below.later ?_ _ | refine Below.box ?_ _ | refine Below.drew ?_ | refine Below.put ?_ (by dsimp only; omega) _))⟩

/-! ### the known primes -/
theorem rknown_c (w : World) : Calls Try.prog 49 #[] w fun e w' => e = .returned (.slice (some ⟨w.heap.size, 0, none⟩) 7 7) ∧
    w' = w.alloc (.cells #[.int .u64 17, .int .u64 97, .int .u64 193, .int .u64 257, .int .u64 12289, .int .u64 65537, .int .u64 18446744069414584321] 22) := by
  go_enter Try.func49, Try.ntmps49
  go_wp2
  go_ret
  exact ⟨rfl, rfl⟩
/-- The prime with a number. -/
def primeOf (n : Int) : Int := if n % 7 = 0 then 17 else if n % 7 = 1 then 97 else if n % 7 = 2 then 193 else if n % 7 = 3 then 257 else if n % 7 = 4 then 12289 else if n % 7 = 5 then 65537 else 18446744069414584321
theorem prime_valid (n : Int) : vld (primeOf n) = true := by
  unfold primeOf
  (repeat' split) <;> decide
theorem prime_U (n : Int) : U (primeOf n) := by
  have := vld_pos (prime_valid n)
  exact ⟨by omega, by omega⟩
theorem prime_c (n : Int) (w : World) (h0 : 0 ≤ n) (h1 : n ≤ 255) : Calls Try.prog 12 #[.int .u8 n] w (Gives (.int .u64 (primeOf n)) w) := by
  have key : ∀ i p, n % 7 = i → primeOf n = p → Calls Try.prog 12 #[.int .u8 n] w (Gives (.int .u64 p) w) → Calls Try.prog 12 #[.int .u8 n] w (Gives (.int .u64 (primeOf n)) w) := fun i p _ h2 h => by rw [h2]; exact h
  have hm : n % 7 = 0 ∨ n % 7 = 1 ∨ n % 7 = 2 ∨ n % 7 = 3 ∨ n % 7 = 4 ∨ n % 7 = 5 ∨ n % 7 = 6 := by omega
  rcases hm with h | h | h | h | h | h | h
  all_goals refine key _ _ h (by simp only [primeOf, h]; rfl) ?_
  all_goals clear key
  all_goals go_enter Try.func12, Try.ntmps12
  all_goals go_wp2_with (go_at_call 49; refine (rknown_c _).mono ?_; rintro e w' ⟨rfl, rfl⟩)
  all_goals (go_ret; exact ⟨rfl, (by repeat (first | exact Below.refl _ _ | refine Below.later ?_ _ | refine Below.box ?_ _ | refine Below.drew ?_ | refine Below.put ?_ (by dsimp only; omega) _))⟩)
end Go.Proofs.Ytjnlnbkdnjainaa
