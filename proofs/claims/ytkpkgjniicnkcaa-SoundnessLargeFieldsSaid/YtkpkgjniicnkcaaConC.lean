/- The contracts of powers, inverses, quotients and roots in package field. -/
import Derived.Test.YtkpkgjniicnkcaaConB
namespace Go.Proofs.Ytkpkgjniicnkcaa
open Go.RowKit

/-- The power that is still to come: R * A ^ E stays what it is. -/
theorem pow_odd {p R A a : Int} {E e : Nat} (h : (R * A ^ E) % p = a ^ e % p) (ho : E % 2 = 1) : (((R * A) % p) * ((A * A) % p) ^ (E / 2)) % p = a ^ e % p := by
  rw [← h, ← em_mul_r, em_pow, em_mul_l, em_mul_r]
  congr 1
  conv => rhs; rw [show E = 2 * (E / 2) + 1 from by omega, Int.pow_succ, Int.pow_mul]
  rw [show A ^ 2 = A * A from by rw [Int.pow_succ, Int.pow_succ, Int.pow_zero, Int.one_mul], Int.mul_assoc R, Int.mul_comm A]
theorem pow_even {p R A a : Int} {E e : Nat} (h : (R * A ^ E) % p = a ^ e % p) (ho : E % 2 = 0) : (R * ((A * A) % p) ^ (E / 2)) % p = a ^ e % p := by
  rw [← h, ← em_mul_r, em_pow, em_mul_r]
  congr 1
  conv => rhs; rw [show E = 2 * (E / 2) from by omega, Int.pow_mul]
  rw [show A ^ 2 = A * A from by rw [Int.pow_succ, Int.pow_succ, Int.pow_zero, Int.one_mul]]

/-- A number below 2 to the 64, behind a name. -/
structure BigB (n : Nat) : Prop where
  out : (n : Int) < 18446744073709551616

theorem fpow_U {p a : Int} {e : Nat} : U (fpow p a e) := by
  unfold fpow; split
  · rename_i h
    have := vld_pos h
    obtain ⟨h0, h1⟩ := emod_U (a := a ^ e) h
    exact ⟨h0, by omega⟩
  · exact ⟨by omega, by omega⟩
theorem finv_U {p a : Int} : U (finv p a) := fpow_U
theorem fmul_U {p a b : Int} : U (fmul p a b) := by
  unfold fmul; split
  · rename_i h
    have := vld_pos h
    obtain ⟨h0, h1⟩ := emod_U (a := a * b) h
    exact ⟨h0, by omega⟩
  · exact ⟨by omega, by omega⟩
theorem fadd_U {p a b : Int} : U (fadd p a b) := by
  unfold fadd; split
  · rename_i h
    have := vld_pos h
    obtain ⟨h0, h1⟩ := emod_U (a := a + b) h
    exact ⟨h0, by omega⟩
  · exact ⟨by omega, by omega⟩
theorem fsub_U {p a b : Int} : U (fsub p a b) := by rw [fsub_eq]; exact fadd_U
theorem fred_U {p a : Int} : U (fred p a) := by
  unfold fred; split
  · rename_i h
    have := vld_pos h
    obtain ⟨h0, h1⟩ := emod_U (a := a) h
    exact ⟨h0, by omega⟩
  · exact ⟨by omega, by omega⟩
theorem gen_U {p : Int} : U (gen p) := by
  unfold gen
  (repeat' split) <;> exact ⟨by omega, by omega⟩

end Go.Proofs.Ytkpkgjniicnkcaa
