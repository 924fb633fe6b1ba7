/- soundness.Consistent. -/
import Derived.Test.YtpkjlnelkacbgaaHLin
import Derived.Test.YtpkjlnelkacbgaaQE
namespace Go.Proofs.Ytpkjlnelkacbgaa
open Go.RowKit Go.Sort

set_option maxRecDepth 100000
def zeroR (l : List Int) : Bool := l.all fun x => x == 0
def quadC (gs : List (List Int)) : Bool := gs.all zeroR
theorem fullB_yes {B : Nat} {ls : List (List Int)} (h : ∀ l ∈ ls, l.length = B) : fullB (B : Int) ls = true := by
  simp only [fullB, List.all_eq_true, decide_eq_true_eq]
  intro l hl; rw [h l hl]

end Go.Proofs.Ytpkjlnelkacbgaa
