/- The reference's QuadPasses. -/
import Derived.Test.YtpkjlnelkacbgaaQE
import Derived.Test.YtpkjlnelkacbgaaQB
namespace Go.Proofs.Ytpkjlnelkacbgaa
open Go.RowKit Go.Sort

theorem ele_at (ls : List (List Int)) (b p0 P v j k : Nat) (hb : 1 ≤ b) (hk : k < b) : eleV ls b p0 P P v (j * b + k) = (ls.getD (ahead p0 P P v + j) []).getD k 0 := by
  have h1 : (j * b + k) / b = j := by rw [Nat.mul_comm, Nat.mul_add_div (by omega), Nat.div_eq_of_lt hk, Nat.add_zero]
  have h2 : (j * b + k) % b = k := by rw [Nat.mul_comm, Nat.mul_add_mod, Nat.mod_eq_of_lt hk]
  rw [eleV, h1, h2]
theorem ele_U {ls : List (List Int)} {b p0 P v i : Nat} (h : ∀ l ∈ ls, ∀ x ∈ l, U x) : U (eleV ls b p0 P P v i) := by
  unfold eleV
  simp only [List.getD]
  cases h1 : ls[ahead p0 P P v + i / b]? with
  | none => simp; exact ⟨by decide, by decide⟩
  | some l =>
    simp only [Option.getD_some]
    cases h2 : l[i % b]? with
    | none => exact ⟨by decide, by decide⟩
    | some x => exact h l (List.mem_of_getElem? h1) x (List.mem_of_getElem? h2)

end Go.Proofs.Ytpkjlnelkacbgaa
