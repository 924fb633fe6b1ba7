/- The variables of a valid table's terms. -/
import Derived.Test.YtpkjlnelkacbgaaHL29b
import Derived.Test.YtpkjlnelkacbgaaHMsh
namespace Go.Proofs.Ytpkjlnelkacbgaa
open Go.RowKit Go.Sort

theorem linB_var {p n : Int} : ∀ (l : List (Int × Int)) (last : Int), -1 ≤ last → linB p n last l = true → ∀ t ∈ l, 0 ≤ t.1 ∧ t.1 < n
  | [], _, _, _, t, ht => by cases ht
  | x :: xs, last, hl, h, t, ht => by
    simp only [linB, Bool.and_eq_true, Bool.not_eq_true', decide_eq_false_iff_not, decide_eq_true_eq] at h
    obtain ⟨⟨⟨⟨h1, h2⟩, _⟩, _⟩, h5⟩ := h
    rcases List.mem_cons.1 ht with rfl | ht
    · exact ⟨by omega, h2⟩
    · exact linB_var xs x.1 (by omega) h5 t ht
theorem tab_vars {p q n : Int} {rs : List Rw} (h : tabB p q n rs = true) : ∀ r ∈ rs, ∀ k, k < 3 → ∀ t ∈ (side k r).l, 0 ≤ t.1 ∧ t.1 < n := by
  simp only [tabB, Bool.and_eq_true, List.all_eq_true] at h
  intro r hr k hk t ht
  have hrow := h.2 r hr
  simp only [rowB, Bool.and_eq_true] at hrow
  match k, hk, ht with
  | 0, _, ht => exact linB_var _ _ (by omega) hrow.1.1 t ht
  | 1, _, ht => exact linB_var _ _ (by omega) hrow.1.2 t ht
  | 2, _, ht => exact linB_var _ _ (by omega) hrow.2 t ht
theorem right_vars {p pub vs b bl q : Int} {rs : List Rw} {l : List Int} {rows : Int} (h : rightB p pub vs b bl q rs l rows = true) : ∀ r ∈ rs, ∀ k, k < 3 → ∀ t ∈ (side k r).l, 0 ≤ t.1 ∧ t.1 < vs := by
  simp only [rightB, Bool.and_eq_true] at h
  exact tab_vars h.1.1.1.2
end Go.Proofs.Ytpkjlnelkacbgaa
