/- The reference's Consistent. -/
import Derived.Test.YtpkjlnelkacbgaaHLin
import Derived.Test.YtpkjlnelkacbgaaHRqp
namespace Go.Proofs.Ytpkjlnelkacbgaa
open Go.RowKit Go.Sort

set_option maxRecDepth 100000
def quadR (p : Int) (ev : Nat → Nat → Int) (i : Nat) : Bool := fmul p (ev 1 i) (ev 2 i) == ev 3 i
def quadE (p : Int) (ev : Nat → Nat → Int) (N : Nat) : Bool := (List.range N).all (quadR p ev)
theorem all_take_next {f : Nat → Bool} {N i : Nat} (h : i < N) : ((List.range N).take (i + 1)).all f = (((List.range N).take i).all f && f i) := by
  rw [List.take_add_one, List.getElem?_range h, List.all_append]; simp

end Go.Proofs.Ytpkjlnelkacbgaa
