/-
  No cell of these rows narrows 'for every input' (looked for: loops, veiled, ifaces, maps, wideKeys, modest, calm, conditions, laid).
  DERIVED. THE GIVEN ROWS OF THIS SEAT. 7 by the template 'for every input the law returns true; each argument reads behind the call as it read before'; 0 by the template 'total and deterministic' (their statements: YtpkjlnelkacbgaaTotals.lean).
  GIVEN WITH THE SEED: the statements are not yours to turn. If you find one false, say at which input.
  Laid BY PROGRAM, IN A SANDBOX (cutbox-rows.mjs): the forced cells as the released guide's own fill.sh prints them over the translation bf6b377e9eea2db7… (all of the seat's roots in one cut). By AI agents, Wed Nov 11 2026. No macro, syntax, notation, axiom, sorry.
-/
import Derived.Test.YtpkjlnelkacbgaaChecked
import GoSem.Claim
import GoSem.ClaimJoined
import GoSem.ClaimMapViews
import Derived.JoinedTies
import Derived.KernelRfl
namespace Go.Proofs.Ytpkjlnelkacbgaa
/- THE CELL 'sum', in the pinned program and in every row, IS THE sha256 OF THE DUMP (.gsa) THAT YtpkjlnelkacbgaaProg.lean LOADS. Nothing in Lean hashes anything: it is a label: what it is worth is what the hold of that sum in a sandbox is worth. -/
noncomputable def Try.pinned : Pinned := { name := "ytpkjlnelkacbgaa", sum := "bf6b377e9eea2db7528b8a1770db89104e56cc736702e54c2a375c9030705cec", checked := Try.checked }
namespace Rows
def none {H : Type} : Left H := { results := [], args := [] }

/-- 'moidorelaw24.LayoutNew': WHATEVER THE INPUT: true; the input reads as it did. -/
def layoutNewSpec : ChangeSpec := { name := "layoutNew", fn := fun _ => fun
  | [d1, d2] => { results := [.lit (.bool true)], args := [d1, d2] }
  | _ => none }
def layoutNewRow : OpenClaim := { program := "ytpkjlnelkacbgaa", sum := "bf6b377e9eea2db7528b8a1770db89104e56cc736702e54c2a375c9030705cec", func := "moidore/moidorelaw24.LayoutNew", spec := "layoutNew", inPlace := ["math/bits.Add64"], unfollowed := true, recurses := true, named := ["math/bits.divideError", "math/bits.overflowError"], apart := false }
def LayoutNewSaid : Prop := layoutNewRow.holds Try.pinned (OpenSpec.ofChange layoutNewSpec)

/-- ITS FALSE NEIGHBOUR: 'it returns false'. Refute it at one input. -/
def layoutNewWrong : ChangeSpec := { name := "layoutNew", fn := fun _ => fun
  | [d1, d2] => { results := [.lit (.bool false)], args := [d1, d2] }
  | _ => none }
def LayoutNewWrongFalsely : Prop := layoutNewRow.holds Try.pinned (OpenSpec.ofChange layoutNewWrong)

/-- 'moidorelaw24.LayoutCoefs': WHATEVER THE INPUT: true; the input reads as it did. -/
def layoutCoefsSpec : ChangeSpec := { name := "layoutCoefs", fn := fun _ => fun
  | [d1, d2] => { results := [.lit (.bool true)], args := [d1, d2] }
  | _ => none }
def layoutCoefsRow : OpenClaim := { program := "ytpkjlnelkacbgaa", sum := "bf6b377e9eea2db7528b8a1770db89104e56cc736702e54c2a375c9030705cec", func := "moidore/moidorelaw24.LayoutCoefs", spec := "layoutCoefs", inPlace := ["math/bits.Add64"], unfollowed := true, recurses := true, named := ["math/bits.divideError", "math/bits.overflowError"], apart := false }
def LayoutCoefsSaid : Prop := layoutCoefsRow.holds Try.pinned (OpenSpec.ofChange layoutCoefsSpec)

/-- ITS FALSE NEIGHBOUR: 'it returns false'. Refute it at one input. -/
def layoutCoefsWrong : ChangeSpec := { name := "layoutCoefs", fn := fun _ => fun
  | [d1, d2] => { results := [.lit (.bool false)], args := [d1, d2] }
  | _ => none }
def LayoutCoefsWrongFalsely : Prop := layoutCoefsRow.holds Try.pinned (OpenSpec.ofChange layoutCoefsWrong)

/-- 'moidorelaw24.LayoutTarget': WHATEVER THE INPUT: true; the input reads as it did. -/
def layoutTargetSpec : ChangeSpec := { name := "layoutTarget", fn := fun _ => fun
  | [d1, d2] => { results := [.lit (.bool true)], args := [d1, d2] }
  | _ => none }
def layoutTargetRow : OpenClaim := { program := "ytpkjlnelkacbgaa", sum := "bf6b377e9eea2db7528b8a1770db89104e56cc736702e54c2a375c9030705cec", func := "moidore/moidorelaw24.LayoutTarget", spec := "layoutTarget", inPlace := ["math/bits.Add64"], unfollowed := true, recurses := true, named := ["math/bits.divideError", "math/bits.overflowError"], apart := false }
def LayoutTargetSaid : Prop := layoutTargetRow.holds Try.pinned (OpenSpec.ofChange layoutTargetSpec)

/-- ITS FALSE NEIGHBOUR: 'it returns false'. Refute it at one input. -/
def layoutTargetWrong : ChangeSpec := { name := "layoutTarget", fn := fun _ => fun
  | [d1, d2] => { results := [.lit (.bool false)], args := [d1, d2] }
  | _ => none }
def LayoutTargetWrongFalsely : Prop := layoutTargetRow.holds Try.pinned (OpenSpec.ofChange layoutTargetWrong)

/-- 'moidorelaw24.LayoutMessages': WHATEVER THE INPUT: true; the input reads as it did. -/
def layoutMessagesSpec : ChangeSpec := { name := "layoutMessages", fn := fun _ => fun
  | [d] => { results := [.lit (.bool true)], args := [d] }
  | _ => none }
def layoutMessagesRow : OpenClaim := { program := "ytpkjlnelkacbgaa", sum := "bf6b377e9eea2db7528b8a1770db89104e56cc736702e54c2a375c9030705cec", func := "moidore/moidorelaw24.LayoutMessages", spec := "layoutMessages", inPlace := ["math/bits.Add64"], unfollowed := true, recurses := true, named := ["math/bits.divideError", "math/bits.overflowError"], apart := false }
def LayoutMessagesSaid : Prop := layoutMessagesRow.holds Try.pinned (OpenSpec.ofChange layoutMessagesSpec)

/-- ITS FALSE NEIGHBOUR: 'it returns false'. Refute it at one input. -/
def layoutMessagesWrong : ChangeSpec := { name := "layoutMessages", fn := fun _ => fun
  | [d] => { results := [.lit (.bool false)], args := [d] }
  | _ => none }
def LayoutMessagesWrongFalsely : Prop := layoutMessagesRow.holds Try.pinned (OpenSpec.ofChange layoutMessagesWrong)

/-- 'moidorelaw24.LayoutConsistent': WHATEVER THE INPUT: true; the input reads as it did. -/
def layoutConsistentSpec : ChangeSpec := { name := "layoutConsistent", fn := fun _ => fun
  | [d1, d2] => { results := [.lit (.bool true)], args := [d1, d2] }
  | _ => none }
def layoutConsistentRow : OpenClaim := { program := "ytpkjlnelkacbgaa", sum := "bf6b377e9eea2db7528b8a1770db89104e56cc736702e54c2a375c9030705cec", func := "moidore/moidorelaw24.LayoutConsistent", spec := "layoutConsistent", inPlace := ["math/bits.Add64"], unfollowed := true, recurses := true, named := ["math/bits.divideError", "math/bits.overflowError"], apart := false }
def LayoutConsistentSaid : Prop := layoutConsistentRow.holds Try.pinned (OpenSpec.ofChange layoutConsistentSpec)

/-- ITS FALSE NEIGHBOUR: 'it returns false'. Refute it at one input. -/
def layoutConsistentWrong : ChangeSpec := { name := "layoutConsistent", fn := fun _ => fun
  | [d1, d2] => { results := [.lit (.bool false)], args := [d1, d2] }
  | _ => none }
def LayoutConsistentWrongFalsely : Prop := layoutConsistentRow.holds Try.pinned (OpenSpec.ofChange layoutConsistentWrong)

/-- 'moidorelaw24.LayoutChange': WHATEVER THE INPUT: true; the input reads as it did. -/
def layoutChangeSpec : ChangeSpec := { name := "layoutChange", fn := fun _ => fun
  | [d1, d2, d3] => { results := [.lit (.bool true)], args := [d1, d2, d3] }
  | _ => none }
def layoutChangeRow : OpenClaim := { program := "ytpkjlnelkacbgaa", sum := "bf6b377e9eea2db7528b8a1770db89104e56cc736702e54c2a375c9030705cec", func := "moidore/moidorelaw24.LayoutChange", spec := "layoutChange", inPlace := ["math/bits.Add64"], unfollowed := true, recurses := true, named := ["math/bits.divideError", "math/bits.overflowError"], apart := false }
def LayoutChangeSaid : Prop := layoutChangeRow.holds Try.pinned (OpenSpec.ofChange layoutChangeSpec)

/-- ITS FALSE NEIGHBOUR: 'it returns false'. Refute it at one input. -/
def layoutChangeWrong : ChangeSpec := { name := "layoutChange", fn := fun _ => fun
  | [d1, d2, d3] => { results := [.lit (.bool false)], args := [d1, d2, d3] }
  | _ => none }
def LayoutChangeWrongFalsely : Prop := layoutChangeRow.holds Try.pinned (OpenSpec.ofChange layoutChangeWrong)

/-- 'moidorelaw24.LayoutPoints': WHATEVER THE INPUT: true; the input reads as it did. -/
def layoutPointsSpec : ChangeSpec := { name := "layoutPoints", fn := fun _ => fun
  | [d1, d2] => { results := [.lit (.bool true)], args := [d1, d2] }
  | _ => none }
def layoutPointsRow : OpenClaim := { program := "ytpkjlnelkacbgaa", sum := "bf6b377e9eea2db7528b8a1770db89104e56cc736702e54c2a375c9030705cec", func := "moidore/moidorelaw24.LayoutPoints", spec := "layoutPoints", inPlace := ["math/bits.Add64"], unfollowed := true, recurses := true, named := ["math/bits.divideError", "math/bits.overflowError"], apart := false }
def LayoutPointsSaid : Prop := layoutPointsRow.holds Try.pinned (OpenSpec.ofChange layoutPointsSpec)

/-- ITS FALSE NEIGHBOUR: 'it returns false'. Refute it at one input. -/
def layoutPointsWrong : ChangeSpec := { name := "layoutPoints", fn := fun _ => fun
  | [d1, d2] => { results := [.lit (.bool false)], args := [d1, d2] }
  | _ => none }
def LayoutPointsWrongFalsely : Prop := layoutPointsRow.holds Try.pinned (OpenSpec.ofChange layoutPointsWrong)

/- THE SECOND FORM. 'bulk': how many values and letters a reading holds, each counted each time it is reached (what is shared counts as often as it is met; a slice's spare places count too). A statement '..UptoSaid' is the law's where the arguments, and the package variables that the reading takes, are together of bulk at most 1048576: NARROWER than '..Said'. Prove '..Said' where nothing that the law and all that it calls make is longer than what came in: it says more and counts as full. Else prove '..UptoSaid'. A law counts once. -/
mutual
def uptoBulk {H : Type} : DataW H → Nat
  | .lit (.string bytes) => bytes.length + 1
  | .lit _ => 1
  | .nil => 1
  | .ptr d => uptoBulk d + 1
  | .slice elems spare => uptoBulkAll elems + uptoBulkAll spare + 1
  | .agg parts => uptoBulkAll parts + 1
  | .iface _ d => uptoBulk d + 1
  | .map entries => uptoBulkEntries entries + 1
  | .held _ => 1
def uptoBulkAll {H : Type} : List (DataW H) → Nat
  | [] => 0
  | d :: r => uptoBulk d + uptoBulkAll r
def uptoBulkEntries {H : Type} : List (Lit × DataW H) → Nat
  | [] => 0
  | x :: r => uptoBulkEntry x + uptoBulkEntries r
def uptoBulkEntry {H : Type} : Lit × DataW H → Nat
  | (.string bytes, d) => bytes.length + uptoBulk d + 1
  | (_, d) => uptoBulk d + 1
 end
def uptoSmall : (H : Type) → List (DataW H) → Bool := fun _ ds => decide (uptoBulkAll ds ≤ 1048576)
def OpenSpec.upto (s : _root_.Go.ChangeSpec) : _root_.Go.OpenSpec := { _root_.Go.OpenSpec.ofChange s with cond := some uptoSmall }

/-- 'moidorelaw24.LayoutNew', WHERE WHAT IT READS IS OF BULK AT MOST 1048576: true; the input reads as it did. -/
def layoutNewUptoRow : OpenClaim := { program := "ytpkjlnelkacbgaa", sum := "bf6b377e9eea2db7528b8a1770db89104e56cc736702e54c2a375c9030705cec", func := "moidore/moidorelaw24.LayoutNew", spec := "layoutNew", inPlace := ["math/bits.Add64"], unfollowed := true, recurses := true, named := ["math/bits.divideError", "math/bits.overflowError"], apart := false, narrowed := true }
def LayoutNewUptoSaid : Prop := layoutNewUptoRow.holds Try.pinned (OpenSpec.upto layoutNewSpec)

/-- 'moidorelaw24.LayoutCoefs', WHERE WHAT IT READS IS OF BULK AT MOST 1048576: true; the input reads as it did. -/
def layoutCoefsUptoRow : OpenClaim := { program := "ytpkjlnelkacbgaa", sum := "bf6b377e9eea2db7528b8a1770db89104e56cc736702e54c2a375c9030705cec", func := "moidore/moidorelaw24.LayoutCoefs", spec := "layoutCoefs", inPlace := ["math/bits.Add64"], unfollowed := true, recurses := true, named := ["math/bits.divideError", "math/bits.overflowError"], apart := false, narrowed := true }
def LayoutCoefsUptoSaid : Prop := layoutCoefsUptoRow.holds Try.pinned (OpenSpec.upto layoutCoefsSpec)

/-- 'moidorelaw24.LayoutTarget', WHERE WHAT IT READS IS OF BULK AT MOST 1048576: true; the input reads as it did. -/
def layoutTargetUptoRow : OpenClaim := { program := "ytpkjlnelkacbgaa", sum := "bf6b377e9eea2db7528b8a1770db89104e56cc736702e54c2a375c9030705cec", func := "moidore/moidorelaw24.LayoutTarget", spec := "layoutTarget", inPlace := ["math/bits.Add64"], unfollowed := true, recurses := true, named := ["math/bits.divideError", "math/bits.overflowError"], apart := false, narrowed := true }
def LayoutTargetUptoSaid : Prop := layoutTargetUptoRow.holds Try.pinned (OpenSpec.upto layoutTargetSpec)

/-- 'moidorelaw24.LayoutMessages', WHERE WHAT IT READS IS OF BULK AT MOST 1048576: true; the input reads as it did. -/
def layoutMessagesUptoRow : OpenClaim := { program := "ytpkjlnelkacbgaa", sum := "bf6b377e9eea2db7528b8a1770db89104e56cc736702e54c2a375c9030705cec", func := "moidore/moidorelaw24.LayoutMessages", spec := "layoutMessages", inPlace := ["math/bits.Add64"], unfollowed := true, recurses := true, named := ["math/bits.divideError", "math/bits.overflowError"], apart := false, narrowed := true }
def LayoutMessagesUptoSaid : Prop := layoutMessagesUptoRow.holds Try.pinned (OpenSpec.upto layoutMessagesSpec)

/-- 'moidorelaw24.LayoutConsistent', WHERE WHAT IT READS IS OF BULK AT MOST 1048576: true; the input reads as it did. -/
def layoutConsistentUptoRow : OpenClaim := { program := "ytpkjlnelkacbgaa", sum := "bf6b377e9eea2db7528b8a1770db89104e56cc736702e54c2a375c9030705cec", func := "moidore/moidorelaw24.LayoutConsistent", spec := "layoutConsistent", inPlace := ["math/bits.Add64"], unfollowed := true, recurses := true, named := ["math/bits.divideError", "math/bits.overflowError"], apart := false, narrowed := true }
def LayoutConsistentUptoSaid : Prop := layoutConsistentUptoRow.holds Try.pinned (OpenSpec.upto layoutConsistentSpec)

/-- 'moidorelaw24.LayoutChange', WHERE WHAT IT READS IS OF BULK AT MOST 1048576: true; the input reads as it did. -/
def layoutChangeUptoRow : OpenClaim := { program := "ytpkjlnelkacbgaa", sum := "bf6b377e9eea2db7528b8a1770db89104e56cc736702e54c2a375c9030705cec", func := "moidore/moidorelaw24.LayoutChange", spec := "layoutChange", inPlace := ["math/bits.Add64"], unfollowed := true, recurses := true, named := ["math/bits.divideError", "math/bits.overflowError"], apart := false, narrowed := true }
def LayoutChangeUptoSaid : Prop := layoutChangeUptoRow.holds Try.pinned (OpenSpec.upto layoutChangeSpec)

/-- 'moidorelaw24.LayoutPoints', WHERE WHAT IT READS IS OF BULK AT MOST 1048576: true; the input reads as it did. -/
def layoutPointsUptoRow : OpenClaim := { program := "ytpkjlnelkacbgaa", sum := "bf6b377e9eea2db7528b8a1770db89104e56cc736702e54c2a375c9030705cec", func := "moidore/moidorelaw24.LayoutPoints", spec := "layoutPoints", inPlace := ["math/bits.Add64"], unfollowed := true, recurses := true, named := ["math/bits.divideError", "math/bits.overflowError"], apart := false, narrowed := true }
def LayoutPointsUptoSaid : Prop := layoutPointsUptoRow.holds Try.pinned (OpenSpec.upto layoutPointsSpec)

end Rows
end Go.Proofs.Ytpkjlnelkacbgaa
