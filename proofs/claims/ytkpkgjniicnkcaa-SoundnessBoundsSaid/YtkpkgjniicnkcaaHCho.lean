/- Binomial coefficients; Survivors and Choices of package soundness. -/
import Derived.Test.YtkpkgjniicnkcaaQB
namespace Go.Proofs.Ytkpkgjniicnkcaa
open Go.RowKit

def ch : Nat → Nat → Nat
  | _, 0 => 1
  | 0, _ + 1 => 0
  | n + 1, k + 1 => ch n k + ch n (k + 1)
theorem ch_zero (n : Nat) : ch n 0 = 1 := by cases n <;> rfl
theorem ch_over : ∀ (n k : Nat), n < k → ch n k = 0
  | 0, 0, h => by omega
  | 0, k + 1, _ => rfl
  | n + 1, 0, h => by omega
  | n + 1, k + 1, h => by rw [ch, ch_over n k (by omega), ch_over n (k + 1) (by omega)]
theorem ch_one : ∀ n, ch n 1 = n
  | 0 => rfl
  | n + 1 => by rw [ch, ch_zero, ch_one n]; omega
theorem ch_mul : ∀ (n k : Nat), ch (n + 1) (k + 1) * (k + 1) = (n + 1) * ch n k
  | 0, 0 => rfl
  | 0, k + 1 => by rw [ch_over 1 (k + 1 + 1) (by omega), ch_over 0 (k + 1) (by omega)]; simp
  | n + 1, 0 => by rw [ch_one, ch_zero]
  | n + 1, k + 1 => by
    have h1 := ch_mul n k
    have h2 := ch_mul n (k + 1)
    have e1 : ch (n + 1 + 1) (k + 1 + 1) = ch (n + 1) (k + 1) + ch (n + 1) (k + 1 + 1) := rfl
    have e2 : ch (n + 1) (k + 1) = ch n k + ch n (k + 1) := rfl
    rw [e1, Nat.add_mul, h2]
    have h3 : ch (n + 1) (k + 1) * (k + 1 + 1) = (n + 1) * ch n k + ch (n + 1) (k + 1) := by rw [Nat.mul_add, h1]; omega
    rw [h3, Nat.add_mul (n + 1) 1 (ch (n + 1) (k + 1)), Nat.one_mul]
    have h4 : (n + 1) * ch (n + 1) (k + 1) = (n + 1) * ch n k + (n + 1) * ch n (k + 1) := by rw [e2, Nat.mul_add]
    omega
theorem ch_sym : ∀ (a b : Nat), ch (a + b) a = ch (a + b) b
  | 0, 0 => rfl
  | 0, b + 1 => by
    have : ∀ n, ch n n = 1 := fun n => by
      induction n with
      | zero => rfl
      | succ n ih => rw [ch, ih, ch_over n (n + 1) (by omega)]
    rw [ch_zero, Nat.zero_add, this]
  | a + 1, 0 => by
    have : ∀ n, ch n n = 1 := fun n => by
      induction n with
      | zero => rfl
      | succ n ih => rw [ch, ih, ch_over n (n + 1) (by omega)]
    rw [ch_zero, Nat.add_zero, this]
  | a + 1, b + 1 => by
    have h1 := ch_sym a (b + 1)
    have h2 := ch_sym (a + 1) b
    have e : a + 1 + (b + 1) = (a + (b + 1)) + 1 := by omega
    have e' : a + 1 + b = a + (b + 1) := by omega
    rw [e, ch, ch]
    rw [e'] at h2
    omega
theorem ch_step (d i : Nat) : ch (d + i) i ≤ ch (d + (i + 1)) (i + 1) := by
  show _ ≤ ch (d + i + 1) (i + 1)
  rw [ch]; omega
theorem ch_mono (d i : Nat) : ∀ k, ch (d + i) i ≤ ch (d + (i + k)) (i + k)
  | 0 => Nat.le_refl _
  | k + 1 => Nat.le_trans (ch_mono d i k) (ch_step d (i + k))
theorem ch_pos (d : Nat) (i : Nat) : 1 ≤ ch (d + i) i := by
  have := ch_mono d 0 i
  rw [ch_zero] at this; simpa using this

theorem after_none0 (w : World) : after w ⟨w.drawn, #[]⟩ = w := by simp [after_eq, Go.Sort.grow_empty]; rfl
/-- What Survivors gives. -/
def survV (n bad c : Int) : Value :=
  if n < 0 ∨ n > 1024 ∨ c < 0 ∨ c > 1024 ∨ bad < 0 ∨ bad > n then .tuple #[.int .u64 0, .int .i64 1]
  else if 9223372036854775808 ≤ ch (n - bad).toNat c.toNat then .tuple #[.int .u64 0, .int .i64 3]
  else .tuple #[.int .u64 (ch (n - bad).toNat c.toNat : Nat), .int .i64 0]

set_option maxHeartbeats 4000000 in
theorem surv_c (n bad c : Int) (w : World) : Calls Try.prog 15 #[.int .i64 n, .int .i64 bad, .int .i64 c] w (Gives (survV n bad c) w) := by
  by_cases b1 : n < 0
  · rw [survV, if_pos (by omega)]
    go_enter Try.func15, Try.ntmps15
    go_wp2
    go_ret2
    exact ⟨rfl, (by repeat (first | exact Below.refl _ _ | refine Below.later ?_ _ | refine Below.box ?_ _ | refine Below.drew ?_ | refine Below.put ?_ (by dsimp only; omega) _))⟩
  by_cases b2 : n > 1024
  · rw [survV, if_pos (by omega)]
    go_enter Try.func15, Try.ntmps15
    go_wp2
    go_ret2
    exact ⟨rfl, (by repeat (first | exact Below.refl _ _ | refine Below.later ?_ _ | refine Below.box ?_ _ | refine Below.drew ?_ | refine Below.put ?_ (by dsimp only; omega) _))⟩
  by_cases b3 : c < 0
  · rw [survV, if_pos (by omega)]
    go_enter Try.func15, Try.ntmps15
    go_wp2
    go_ret2
    exact ⟨rfl, (by repeat (first | exact Below.refl _ _ | refine Below.later ?_ _ | refine Below.box ?_ _ | refine Below.drew ?_ | refine Below.put ?_ (by dsimp only; omega) _))⟩
  by_cases b4 : c > 1024
  · rw [survV, if_pos (by omega)]
    go_enter Try.func15, Try.ntmps15
    go_wp2
    go_ret2
    exact ⟨rfl, (by repeat (first | exact Below.refl _ _ | refine Below.later ?_ _ | refine Below.box ?_ _ | refine Below.drew ?_ | refine Below.put ?_ (by dsimp only; omega) _))⟩
  by_cases b5 : bad < 0
  · rw [survV, if_pos (by omega)]
    go_enter Try.func15, Try.ntmps15
    go_wp2
    go_ret2
    exact ⟨rfl, (by repeat (first | exact Below.refl _ _ | refine Below.later ?_ _ | refine Below.box ?_ _ | refine Below.drew ?_ | refine Below.put ?_ (by dsimp only; omega) _))⟩
  by_cases b6 : bad > n
  · rw [survV, if_pos (by omega)]
    go_enter Try.func15, Try.ntmps15
    go_wp2
    go_ret2
    exact ⟨rfl, (by repeat (first | exact Below.refl _ _ | refine Below.later ?_ _ | refine Below.box ?_ _ | refine Below.drew ?_ | refine Below.put ?_ (by dsimp only; omega) _))⟩
  rw [survV, if_neg (by omega)]
  obtain ⟨N, hN⟩ : ∃ N : Nat, n - bad = N := ⟨(n - bad).toNat, by omega⟩
  obtain ⟨C, hC⟩ : ∃ C : Nat, c = C := ⟨c.toNat, by omega⟩
  subst hC
  rw [hN, Int.toNat_natCast, Int.toNat_natCast]
  by_cases b7 : C > N
  · rw [ch_over N C b7, if_neg (by decide)]
    go_enter Try.func15, Try.ntmps15
    go_wp2
    go_ret2
    exact ⟨rfl, (by repeat (first | exact Below.refl _ _ | refine Below.later ?_ _ | refine Below.box ?_ _ | refine Below.drew ?_ | refine Below.put ?_ (by dsimp only; omega) _))⟩
  obtain ⟨K, D, hK, hND, hCh⟩ : ∃ K D : Nat, min (C : Int) ((N : Int) - C) = K ∧ N = D + K ∧ ch N C = ch (D + K) K := by
    by_cases h : 2 * C ≤ N
    · exact ⟨C, N - C, by omega, by omega, by rw [show N - C + C = N from by omega]⟩
    · refine ⟨N - C, C, by omega, by omega, ?_⟩
      have := ch_sym C (N - C)
      rw [show C + (N - C) = N from by omega] at this ⊢
      exact this
  rw [hCh]
  have hb7 : decide ((C : Int) > (N : Int)) = false := by simp; omega
  have hif1 : (if (C : Int) ≤ (N : Int) - C then (C : Int) else (N : Int) - C) = (K : Int) := by split <;> omega
  have hif2 : (if (C : Int) < (N : Int) - C then (C : Int) else (N : Int) - C) = (K : Int) := by split <;> omega
  have hif3 : (if (N : Int) - C < (C : Int) then (N : Int) - C else (C : Int)) = (K : Int) := by split <;> omega
  have hNC : (N : Int) - K = D := by omega
  have hDK : Kept (D + K ≤ 1024) := ⟨by omega⟩
  have hD : D ≤ 1024 := by omega
  have hK2 : K ≤ 1024 := by omega
  clear hND hCh
  obtain ⟨V, hV⟩ : ∃ V, (if 9223372036854775808 ≤ ch (D + K) K then Value.tuple #[.int .u64 0, .int .i64 3] else .tuple #[.int .u64 (ch (D + K) K : Nat), .int .i64 0]) = V := ⟨_, rfl⟩
  have hV3 : Kept (9223372036854775808 ≤ ch (D + K) K → V = .tuple #[.int .u64 0, .int .i64 3]) := ⟨fun h => by rw [← hV, if_pos h]⟩
  have hV0 : Kept (ch (D + K) K < 9223372036854775808 → V = .tuple #[.int .u64 (ch (D + K) K : Nat), .int .i64 0]) := ⟨fun h => by rw [← hV, if_neg (by omega)]⟩
  rw [hV]
  clear hV
  go_enter Try.func15, Try.ntmps15
  go_wp2
  go_loopw [8, 9] (fun vr vi wr => ∃ (r i : Nat) (q : Regrown), vr = .int .u64 (r : Int) ∧ vi = .int .i64 ((i : Int) + 1) ∧ wr = after w q ∧ i ≤ K ∧ r < 9223372036854775808 ∧ Kept (r = ch (D + i) i)) (fun _ vi _ => ((K : Int) + 1 - intOf vi).toNat)
  case atStart => exact ⟨1, 0, ⟨_, #[]⟩, rfl, rfl, by rw [after_none0], by omega, by omega, ⟨(ch_zero _).symm⟩⟩
  case round =>
    obtain ⟨r, i, q, rfl, rfl, rfl, hi, hr, hI⟩ := hrel
    by_cases h : i < K
    · obtain ⟨s, hs⟩ : ∃ s : Nat, D + (i + 1) = s := ⟨_, rfl⟩
      have hs1 : (D : Int) + ((i : Int) + 1) = (s : Int) := by omega
      have hs2 : (D : Int) + (i : Int) + 1 = (s : Int) := by omega
      obtain ⟨R, hR⟩ : ∃ R, ch (D + (i + 1)) (i + 1) = R := ⟨_, rfl⟩
      have hmul : R * (i + 1) = s * r := by
        have := ch_mul (D + i) i
        rw [← hI.out] at this
        rw [← hR, ← hs]; exact this
      have hle : Kept (R ≤ ch (D + K) K) := ⟨by
        have := ch_mono D (i + 1) (K - (i + 1))
        rw [show i + 1 + (K - (i + 1)) = K from by omega, hR] at this; exact this⟩
      obtain ⟨H, hH⟩ : ∃ H, s * r / 18446744073709551616 = H := ⟨_, rfl⟩
      obtain ⟨L, hL⟩ : ∃ L, s * r % 18446744073709551616 = L := ⟨_, rfl⟩
      have hHL : H * 18446744073709551616 + L = s * r := by omega
      have hL1 : L < 18446744073709551616 := by omega
      have hs3 : s ≤ 1024 := by have := hDK.out; omega
      have cm : Kept (∀ w, Calls Try.prog 31 #[.int .u64 (r : Int), .int .u64 (s : Int)] w (fun e w' => e = .returned (.tuple #[.int .u64 (H : Int), .int .u64 (L : Int)]) ∧ w = w')) := ⟨fun w => by
        have := mul64_n r s (by omega) (by omega) w
        rw [Nat.mul_comm r s, hH, hL] at this; exact this⟩
      have hR' : Kept (ch (D + (i + 1)) (i + 1) = R) := ⟨hR⟩
      by_cases g : H ≥ i + 1
      · have hbig : 9223372036854775808 ≤ ch (D + K) K := by
          have h1 := hle.out
          have h2 : (i + 1) * 18446744073709551616 ≤ R * (i + 1) := by rw [hmul, ← hHL]; omega
          rw [Nat.mul_comm (i + 1)] at h2
          have h3 := Nat.le_of_mul_le_mul_right h2 (by omega)
          omega
        have hVV : Kept (V = .tuple #[.int .u64 0, .int .i64 3]) := ⟨hV3.out hbig⟩
        have g2 : (H : Int) ≥ (i : Int) + 1 := by omega
        clear hI hmul hle hR hH hL hHL hR' hV3 hV0 hbig hs
        go_wp2_with (first | (go_at_call 31; with_reducible refine use0 (cm.out _) ?_))
        go_ret2
        exact ⟨by rw [hVV.out]; rfl, (by repeat (first | exact Below.refl _ _ | refine Below.later ?_ _ | refine Below.box ?_ _ | refine Below.drew ?_ | refine Below.put ?_ (by dsimp only; omega) _))⟩
      · obtain ⟨rm, hrm⟩ : ∃ rm, ((H : Int) * 18446744073709551616 + L) % ((i : Int) + 1) = rm := ⟨_, rfl⟩
        have cd : Kept (∀ w, Calls Try.prog 32 #[.int .u64 (H : Int), .int .u64 (L : Int), .int .u64 ((i : Int) + 1)] w (Gives (.tuple #[.int .u64 (R : Int), .int .u64 rm]) w)) := ⟨fun w => by
          have := div64_c (H : Int) (L : Int) ((i : Int) + 1) w (by omega) (by omega) (by omega) (by omega) (by omega)
          rw [hrm, show ((H : Int) * 18446744073709551616 + L) / ((i : Int) + 1) = (R : Int) from by
            rw [show ((H : Int) * 18446744073709551616 + L) = ((H * 18446744073709551616 + L : Nat) : Int) from by omega, hHL, ← hmul, show ((i : Int) + 1) = ((i + 1 : Nat) : Int) from by omega, ← Int.natCast_ediv, Nat.mul_div_cancel _ (by omega)]] at this
          exact this⟩
        have g2 : (H : Int) < (i : Int) + 1 := by omega
        have hRu : R < 18446744073709551616 := by
          apply Nat.lt_of_not_le
          intro hc
          have h1 : 18446744073709551616 * (i + 1) ≤ R * (i + 1) := Nat.mul_le_mul_right _ hc
          rw [hmul, ← hHL] at h1
          have h2 : H ≤ i := by omega
          omega
        by_cases t : R > 9223372036854775807
        · have hVV : Kept (V = .tuple #[.int .u64 0, .int .i64 3]) := ⟨hV3.out (by have := hle.out; omega)⟩
          have t2 : (R : Int) > 9223372036854775807 := by omega
          clear hI hmul hle hR hH hL hHL hR' hV3 hV0 hs hrm
          go_wp2_with (first | (go_at_call 31; with_reducible refine use0 (cm.out _) ?_) | (go_at_call 32; (first | with_reducible refine use1 (cd.out _) ?_ | with_reducible refine use (cd.out _) ?_); intro pw))
          go_ret2
          exact ⟨by rw [hVV.out]; rfl, (by repeat (first | exact Below.refl _ _ | refine Below.later ?_ _ | refine Below.box ?_ _ | refine Below.drew ?_ | refine Below.put ?_ (by dsimp only; omega) _))⟩
        · have t2 : (R : Int) ≤ 9223372036854775807 := by omega
          clear hI hmul hle hR hH hL hHL hs hrm
          go_wp2_with (first | (go_at_call 31; with_reducible refine use0 (cm.out _) ?_) | (go_at_call 32; (first | with_reducible refine use1 (cd.out _) ?_ | with_reducible refine use (cd.out _) ?_); intro pw))
          go_roundw
          case rel => exact ⟨R, i + 1, _, rfl, by simp, rfl, by omega, by omega, ⟨hR'.out.symm⟩⟩
          case measure => first | (simp [intOf]; omega) | (simp [intOf]; done)
    · have hVV : Kept (V = .tuple #[.int .u64 (r : Int), .int .i64 0]) := ⟨by
        have : i = K := by omega
        subst this
        rw [← hI.out] at hV0
        exact hV0.out hr⟩
      clear hI hV0 hV3
      go_wp2
      go_ret2
      exact ⟨by rw [hVV.out]; rfl, (by repeat (first | exact Below.refl _ _ | refine Below.later ?_ _ | refine Below.box ?_ _ | refine Below.drew ?_ | refine Below.put ?_ (by dsimp only; omega) _))⟩
end Go.Proofs.Ytkpkgjniicnkcaa
