/- The reference's First, Satisfied. -/
import Derived.Test.YtpkjlnelkacbgaaHSat
import Derived.Test.YtpkjlnelkacbgaaQG
namespace Go.Proofs.Ytpkjlnelkacbgaa
open Go.RowKit Go.Sort

def firstZ (p : Int) (ws : List Int) : List Rw → Int → Int
  | [], _ => -1
  | r :: rs, k => if holdB p ws r = true then firstZ p ws rs (k + 1) else k
theorem firstZ_neg (p : Int) (ws : List Int) : ∀ (rs : List Rw) (k : Int), 0 ≤ k → decide (firstZ p ws rs k < 0) = rs.all (holdB p ws)
  | [], k, _ => rfl
  | r :: rs, k, h => by
    unfold firstZ
    rw [List.all_cons]
    cases hr : holdB p ws r with
    | true => rw [if_pos rfl, Bool.true_and]; exact firstZ_neg p ws rs (k + 1) (by omega)
    | false => rw [if_neg (by simp), Bool.false_and]; simp; omega
def firstV (p pub vs : Int) (ws : List Int) (rs : List Rw) : Int := if tabB p pub vs rs && asgB p vs ws then firstZ p ws rs 0 else -1
def satB (p pub vs : Int) (ws : List Int) (rs : List Rw) : Bool := tabB p pub vs rs && asgB p vs ws && rs.all (holdB p ws)

end Go.Proofs.Ytpkjlnelkacbgaa
