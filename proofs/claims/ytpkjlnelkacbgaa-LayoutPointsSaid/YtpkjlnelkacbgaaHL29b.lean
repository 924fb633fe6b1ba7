/- law29: more of the small functions; what a right case says. -/
import Derived.Test.YtpkjlnelkacbgaaHL29a
import Derived.Test.YtpkjlnelkacbgaaHTabW
namespace Go.Proofs.Ytpkjlnelkacbgaa
open Go.RowKit Go.Sort

def foldV (n k e : Int) : Value := if e < 0 ∨ (n - k) / 3 < e then .tuple #[.int .i64 0, .int .i64 1] else .tuple #[.int .i64 (e + 1), .int .i64 0]
theorem fitF_ge : ∀ (f : Nat) (n m : Int), m ≤ n * 2 ^ f → m ≤ fitF f n m
  | 0, n, m, h => by simp [fitF]; omega
  | f + 1, n, m, h => by
    unfold fitF
    have e : n * 2 ^ (f + 1) = 2 * n * 2 ^ f := by rw [Int.pow_succ]; rw [Int.mul_comm 2 n, Int.mul_assoc, Int.mul_comm 2]
    split
    · exact fitF_ge f (2 * n) m (by rw [← e]; exact h)
    · omega

/-- What a right case says of its numbers. -/
theorem right_facts {p pub vs b bl q : Int} {rs : List Rw} {l : List Int} {rows : Int} (h : rightB p pub vs b bl q rs l rows = true) :
    (rs.length : Int) ≤ rows ∧ 2 ≤ b ∧ b ≤ 256 ∧ 1 ≤ q ∧ q ≤ 64 ∧ b + q ≤ newN b bl q ∧ newN b bl q ≤ 1024 ∧ 0 ≤ pub ∧ pub < vs ∧ vs ≤ 65536 ∧ vld p = true ∧ (l.length : Int) = vs ∧ rs.length ≤ 16384 ∧ (p - 1) % b = 0 ∧ (p - 1) % newN b bl q = 0 ∧ newN b bl q < p - 1 := by
  simp only [rightB, Bool.and_eq_true, decide_eq_true_eq] at h
  obtain ⟨⟨⟨⟨⟨h1, _⟩, h2⟩, h3⟩, h4⟩, h5⟩ := h
  rw [h2, h4] at h5
  have hb1 : 2 ≤ b ∧ b ≤ 256 ∧ 1 ≤ q ∧ q ≤ 64 ∧ (bl = 1 ∨ bl = 2 ∨ bl = 4 ∨ bl = 8) := by
    simp only [okX, Bool.and_eq_true, Bool.or_eq_true, decide_eq_true_eq, beq_iff_eq] at h4
    omega
  have ht1 : 0 ≤ pub ∧ pub < vs ∧ vs ≤ 65536 ∧ rs.length ≤ 16384 ∧ vld p = true := by
    simp only [tabB, szB, Bool.and_eq_true, decide_eq_true_eq] at h2
    exact ⟨h2.1.1.1.1.2, h2.1.1.1.2, h2.1.1.2, h2.1.2, h2.1.1.1.1.1⟩
  have hf := fitF_ge 11 1 (2 * (b + q)) (by omega)
  have hN : b + q ≤ newN b bl q := by
    have : 2 * (b + q) ≤ fits (2 * (b + q)) := hf
    unfold newN
    rcases hb1.2.2.2.2 with e | e | e | e <;> subst e <;> omega
  have hl : (l.length : Int) = vs := by
    simp only [asgB, Bool.and_eq_true, decide_eq_true_eq] at h3
    exact h3.1.1
  unfold newE at h5
  rw [if_neg (by decide)] at h5
  split at h5
  · omega
  · split at h5
    · omega
    · rename_i g1 g2
      have g3 : (p - 1) % b = 0 := Classical.byContradiction fun e => g1 (.inl e)
      have g4 : (p - 1) % newN b bl q = 0 := Classical.byContradiction fun e => g1 (.inr (.inl e))
      have g5 : ¬ p - 1 ≤ newN b bl q := fun e => g1 (.inr (.inr e))
      exact ⟨h1, hb1.1, hb1.2.1, hb1.2.2.1, hb1.2.2.2.1, hN, by omega, ht1.1, ht1.2.1, ht1.2.2.1, ht1.2.2.2.2, hl, ht1.2.2.2.1, g3, g4, by omega⟩
end Go.Proofs.Ytpkjlnelkacbgaa
