/- The contracts of package moidoreref02. -/
import Derived.Test.YtjnlnbkdnjainaaHConY
namespace Go.Proofs.Ytjnlnbkdnjainaa
open Go.RowKit

@[go_sem] theorem index2_0 (x y : Value) (w : World) : (Instr.index 23 (.agg #[x, y]) (.int .i64 0)).run Try.prog w = .ok x w := by kernel_rfl
@[go_sem] theorem index2_1 (x y : Value) (w : World) : (Instr.index 23 (.agg #[x, y]) (.int .i64 1)).run Try.prog w = .ok y w := by kernel_rfl

theorem norm_ref (p : Int) (a : Int × Int) : (xmul p a (xconj p a)).1 = xnorm p a := by
  cases h : vld p
  · simp [xmul, xnorm, fadd, fsub, h]
  · have e : (fmul p (gen p) (fmul p a.2 (fneg p a.2))) = (-(gen p * (a.2 * a.2))) % p := by
      simp only [fmul, fneg, h, if_true]
      rw [em_mul_r, ← Int.mul_assoc, em_mul_r]
      congr 1; grind
    show fadd p (fmul p a.1 (fred p a.1)) (fmul p (gen p) (fmul p a.2 (fneg p a.2))) = _
    rw [e]
    simp only [xnorm, fadd, fsub, fmul, fred, h, if_true]
    rw [em_mul_r, em_add_l, em_add_r, em_sub_l, em_sub_r, ← em_sub_r _ (gen p * (a.2 * a.2 % p)), em_mul_r, em_sub_r, Int.sub_eq_add_neg]

/-! ### the power, bit by bit from above -/
theorem xpow_zero (p : Int) (a : Int × Int) : xpow p a 0 = (fred p 1, 0) := by
  unfold xpow ppow pone fred
  split <;> rfl
theorem xpow_two (p : Int) (a : Int × Int) (n : Nat) : xpow p a (2 * n) = xmul p (xpow p a n) (xpow p a n) := by
  cases h : vld p
  · rw [xmul_not h]; simp [xpow, h]
  · rw [xmul_valid h]; simp only [xpow, h, if_true]; rw [Nat.mul_comm, ppow_mul, ppow_two]
theorem xpow_succ (p : Int) (a : Int × Int) (n : Nat) : xpow p a (n + 1) = xmul p (xpow p a n) a := by
  cases h : vld p
  · rw [xmul_not h]; simp [xpow, h]
  · rw [xmul_valid h]; simp only [xpow, h, if_true]; rw [ppow]
theorem bit_step (e k : Nat) : e / 2 ^ k = 2 * (e / 2 ^ (k + 1)) + e / 2 ^ k % 2 := by
  rw [Nat.pow_succ, ← Nat.div_div_eq_div_mul]; omega

structure RPowRel (p : Int) (a : Int × Int) (e : Nat) (w : World) (b1 b2 b3 : Nat) (k : Nat) (wr : World) : Prop where
  le : k ≤ 64
  below : Below w.heap.size w wr
  ca : Cell2 wr b1 a.1 a.2
  c2 : Cell2 wr b2 0 0
  cr : Cell2 wr b3 (xpow p a (e / 2 ^ k)).1 (xpow p a (e / 2 ^ k)).2

end Go.Proofs.Ytjnlnbkdnjainaa
