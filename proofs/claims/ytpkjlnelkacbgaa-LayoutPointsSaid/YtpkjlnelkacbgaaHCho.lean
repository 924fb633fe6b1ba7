/- Binomial coefficients; Survivors and Choices of package soundness. -/
import Derived.Test.YtpkjlnelkacbgaaQB
namespace Go.Proofs.Ytpkjlnelkacbgaa
open Go.RowKit

def ch : Nat → Nat → Nat
  | _, 0 => 1
  | 0, _ + 1 => 0
  | n + 1, k + 1 => ch n k + ch n (k + 1)
theorem ch_zero (n : Nat) : ch n 0 = 1 := by cases n <;> rfl
theorem ch_over : ∀ (n k : Nat), n < k → ch n k = 0
  | 0, 0, h => by omega
  | 0, k + 1, _ => rfl
  | n + 1, 0, h => by omega
  | n + 1, k + 1, h => by rw [ch, ch_over n k (by omega), ch_over n (k + 1) (by omega)]
theorem ch_one : ∀ n, ch n 1 = n
  | 0 => rfl
  | n + 1 => by rw [ch, ch_zero, ch_one n]; omega
theorem ch_mul : ∀ (n k : Nat), ch (n + 1) (k + 1) * (k + 1) = (n + 1) * ch n k
  | 0, 0 => rfl
  | 0, k + 1 => by rw [ch_over 1 (k + 1 + 1) (by omega), ch_over 0 (k + 1) (by omega)]; simp
  | n + 1, 0 => by rw [ch_one, ch_zero]
  | n + 1, k + 1 => by
    have h1 := ch_mul n k
    have h2 := ch_mul n (k + 1)
    have e1 : ch (n + 1 + 1) (k + 1 + 1) = ch (n + 1) (k + 1) + ch (n + 1) (k + 1 + 1) := rfl
    have e2 : ch (n + 1) (k + 1) = ch n k + ch n (k + 1) := rfl
    rw [e1, Nat.add_mul, h2]
    have h3 : ch (n + 1) (k + 1) * (k + 1 + 1) = (n + 1) * ch n k + ch (n + 1) (k + 1) := by rw [Nat.mul_add, h1]; omega
    rw [h3, Nat.add_mul (n + 1) 1 (ch (n + 1) (k + 1)), Nat.one_mul]
    have h4 : (n + 1) * ch (n + 1) (k + 1) = (n + 1) * ch n k + (n + 1) * ch n (k + 1) := by rw [e2, Nat.mul_add]
    omega
theorem ch_sym : ∀ (a b : Nat), ch (a + b) a = ch (a + b) b
  | 0, 0 => rfl
  | 0, b + 1 => by
    have : ∀ n, ch n n = 1 := fun n => by
      induction n with
      | zero => rfl
      | succ n ih => rw [ch, ih, ch_over n (n + 1) (by omega)]
    rw [ch_zero, Nat.zero_add, this]
  | a + 1, 0 => by
    have : ∀ n, ch n n = 1 := fun n => by
      induction n with
      | zero => rfl
      | succ n ih => rw [ch, ih, ch_over n (n + 1) (by omega)]
    rw [ch_zero, Nat.add_zero, this]
  | a + 1, b + 1 => by
    have h1 := ch_sym a (b + 1)
    have h2 := ch_sym (a + 1) b
    have e : a + 1 + (b + 1) = (a + (b + 1)) + 1 := by omega
    have e' : a + 1 + b = a + (b + 1) := by omega
    rw [e, ch, ch]
    rw [e'] at h2
    omega
theorem ch_step (d i : Nat) : ch (d + i) i ≤ ch (d + (i + 1)) (i + 1) := by
  show _ ≤ ch (d + i + 1) (i + 1)
  rw [ch]; omega
theorem ch_mono (d i : Nat) : ∀ k, ch (d + i) i ≤ ch (d + (i + k)) (i + k)
  | 0 => Nat.le_refl _
  | k + 1 => Nat.le_trans (ch_mono d i k) (ch_step d (i + k))
theorem ch_pos (d : Nat) (i : Nat) : 1 ≤ ch (d + i) i := by
  have := ch_mono d 0 i
  rw [ch_zero] at this; simpa using this

theorem after_none0 (w : World) : after w ⟨w.drawn, #[]⟩ = w := by simp [after_eq, Go.Sort.grow_empty]; rfl
/-- What Survivors gives. -/
def survV (n bad c : Int) : Value :=
  if n < 0 ∨ n > 1024 ∨ c < 0 ∨ c > 1024 ∨ bad < 0 ∨ bad > n then .tuple #[.int .u64 0, .int .i64 1]
  else if 9223372036854775808 ≤ ch (n - bad).toNat c.toNat then .tuple #[.int .u64 0, .int .i64 3]
  else .tuple #[.int .u64 (ch (n - bad).toNat c.toNat : Nat), .int .i64 0]

end Go.Proofs.Ytpkjlnelkacbgaa
