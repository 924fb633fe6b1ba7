/-
  No cell of these rows narrows 'for every input' (looked for: loops, veiled, ifaces, maps, wideKeys, modest, calm, conditions, laid).
  DERIVED. THE GIVEN ROWS OF THIS SEAT. 8 by the template 'for every input the law returns true; each argument reads behind the call as it read before'; 0 by the template 'total and deterministic' (their statements: YteljpelagpghcaaTotals.lean).
  GIVEN WITH THE SEED: the statements are not yours to turn. If you find one false, say at which input.
  Laid BY PROGRAM, IN A SANDBOX (cutbox-rows.mjs): the forced cells as the released guide's own fill.sh prints them over the translation c52c673b418de31c… (all of the seat's roots in one cut). By AI agents, Wed Nov 11 2026. No macro, syntax, notation, axiom, sorry.
-/
import Derived.Test.YteljpelagpghcaaChecked
import GoSem.Claim
import GoSem.ClaimJoined
import GoSem.ClaimMapViews
import Derived.JoinedTies
import Derived.KernelRfl
namespace Go.Proofs.Yteljpelagpghcaa
/- THE CELL 'sum', in the pinned program and in every row, IS THE sha256 OF THE DUMP (.gsa) THAT YteljpelagpghcaaProg.lean LOADS. Nothing in Lean hashes anything: it is a label: what it is worth is what the hold of that sum in a sandbox is worth. -/
noncomputable def Try.pinned : Pinned := { name := "yteljpelagpghcaa", sum := "c52c673b418de31cf2ff4b7bbabfdbd242e356c6211575efa924a1a56f30d467", checked := Try.checked }
namespace Rows
def none {H : Type} : Left H := { results := [], args := [] }

/-- 'moidorelaw02.ExtensionSingle': WHATEVER THE INPUT: true; the input reads as it did. -/
def extensionSingleSpec : ChangeSpec := { name := "extensionSingle", fn := fun _ => fun
  | [d1, d2] => { results := [.lit (.bool true)], args := [d1, d2] }
  | _ => none }
def extensionSingleRow : OpenClaim := { program := "yteljpelagpghcaa", sum := "c52c673b418de31cf2ff4b7bbabfdbd242e356c6211575efa924a1a56f30d467", func := "moidore/moidorelaw02.ExtensionSingle", spec := "extensionSingle", inPlace := ["math/bits.Add64"], named := ["math/bits.divideError", "math/bits.overflowError"], apart := false }
def ExtensionSingleSaid : Prop := extensionSingleRow.holds Try.pinned (OpenSpec.ofChange extensionSingleSpec)

/-- ITS FALSE NEIGHBOUR: 'it returns false'. Refute it at one input. -/
def extensionSingleWrong : ChangeSpec := { name := "extensionSingle", fn := fun _ => fun
  | [d1, d2] => { results := [.lit (.bool false)], args := [d1, d2] }
  | _ => none }
def ExtensionSingleWrongFalsely : Prop := extensionSingleRow.holds Try.pinned (OpenSpec.ofChange extensionSingleWrong)

/-- 'moidorelaw02.ExtensionInverse': WHATEVER THE INPUT: true; the input reads as it did. -/
def extensionInverseSpec : ChangeSpec := { name := "extensionInverse", fn := fun _ => fun
  | [d] => { results := [.lit (.bool true)], args := [d] }
  | _ => none }
def extensionInverseRow : OpenClaim := { program := "yteljpelagpghcaa", sum := "c52c673b418de31cf2ff4b7bbabfdbd242e356c6211575efa924a1a56f30d467", func := "moidore/moidorelaw02.ExtensionInverse", spec := "extensionInverse", inPlace := ["math/bits.Add64"], named := ["math/bits.divideError", "math/bits.overflowError"], apart := false }
def ExtensionInverseSaid : Prop := extensionInverseRow.holds Try.pinned (OpenSpec.ofChange extensionInverseSpec)

/-- ITS FALSE NEIGHBOUR: 'it returns false'. Refute it at one input. -/
def extensionInverseWrong : ChangeSpec := { name := "extensionInverse", fn := fun _ => fun
  | [d] => { results := [.lit (.bool false)], args := [d] }
  | _ => none }
def ExtensionInverseWrongFalsely : Prop := extensionInverseRow.holds Try.pinned (OpenSpec.ofChange extensionInverseWrong)

/-- 'moidorelaw02.ExtensionNorm': WHATEVER THE INPUT: true; the input reads as it did. -/
def extensionNormSpec : ChangeSpec := { name := "extensionNorm", fn := fun _ => fun
  | [d] => { results := [.lit (.bool true)], args := [d] }
  | _ => none }
def extensionNormRow : OpenClaim := { program := "yteljpelagpghcaa", sum := "c52c673b418de31cf2ff4b7bbabfdbd242e356c6211575efa924a1a56f30d467", func := "moidore/moidorelaw02.ExtensionNorm", spec := "extensionNorm", inPlace := ["math/bits.Add64"], named := ["math/bits.divideError", "math/bits.overflowError"], apart := false }
def ExtensionNormSaid : Prop := extensionNormRow.holds Try.pinned (OpenSpec.ofChange extensionNormSpec)

/-- ITS FALSE NEIGHBOUR: 'it returns false'. Refute it at one input. -/
def extensionNormWrong : ChangeSpec := { name := "extensionNorm", fn := fun _ => fun
  | [d] => { results := [.lit (.bool false)], args := [d] }
  | _ => none }
def ExtensionNormWrongFalsely : Prop := extensionNormRow.holds Try.pinned (OpenSpec.ofChange extensionNormWrong)

/-- 'moidorelaw02.ExtensionArithmetic': WHATEVER THE INPUT: true; the input reads as it did. -/
def extensionArithmeticSpec : ChangeSpec := { name := "extensionArithmetic", fn := fun _ => fun
  | [d] => { results := [.lit (.bool true)], args := [d] }
  | _ => none }
def extensionArithmeticRow : OpenClaim := { program := "yteljpelagpghcaa", sum := "c52c673b418de31cf2ff4b7bbabfdbd242e356c6211575efa924a1a56f30d467", func := "moidore/moidorelaw02.ExtensionArithmetic", spec := "extensionArithmetic", inPlace := ["math/bits.Add64"], named := ["math/bits.divideError", "math/bits.overflowError"], apart := false }
def ExtensionArithmeticSaid : Prop := extensionArithmeticRow.holds Try.pinned (OpenSpec.ofChange extensionArithmeticSpec)

/-- ITS FALSE NEIGHBOUR: 'it returns false'. Refute it at one input. -/
def extensionArithmeticWrong : ChangeSpec := { name := "extensionArithmetic", fn := fun _ => fun
  | [d] => { results := [.lit (.bool false)], args := [d] }
  | _ => none }
def ExtensionArithmeticWrongFalsely : Prop := extensionArithmeticRow.holds Try.pinned (OpenSpec.ofChange extensionArithmeticWrong)

/-- 'moidorelaw02.ExtensionField': WHATEVER THE INPUT: true; the input reads as it did. -/
def extensionFieldSpec : ChangeSpec := { name := "extensionField", fn := fun _ => fun
  | [d1, d2] => { results := [.lit (.bool true)], args := [d1, d2] }
  | _ => none }
def extensionFieldRow : OpenClaim := { program := "yteljpelagpghcaa", sum := "c52c673b418de31cf2ff4b7bbabfdbd242e356c6211575efa924a1a56f30d467", func := "moidore/moidorelaw02.ExtensionField", spec := "extensionField", inPlace := ["math/bits.Add64"], unfollowed := true, recurses := true, named := ["math/bits.divideError", "math/bits.overflowError"], apart := false }
def ExtensionFieldSaid : Prop := extensionFieldRow.holds Try.pinned (OpenSpec.ofChange extensionFieldSpec)

/-- ITS FALSE NEIGHBOUR: 'it returns false'. Refute it at one input. -/
def extensionFieldWrong : ChangeSpec := { name := "extensionField", fn := fun _ => fun
  | [d1, d2] => { results := [.lit (.bool false)], args := [d1, d2] }
  | _ => none }
def ExtensionFieldWrongFalsely : Prop := extensionFieldRow.holds Try.pinned (OpenSpec.ofChange extensionFieldWrong)

/-- 'moidorelaw02.ExtensionPow': WHATEVER THE INPUT: true; the input reads as it did. -/
def extensionPowSpec : ChangeSpec := { name := "extensionPow", fn := fun _ => fun
  | [d1, d2, d3] => { results := [.lit (.bool true)], args := [d1, d2, d3] }
  | _ => none }
def extensionPowRow : OpenClaim := { program := "yteljpelagpghcaa", sum := "c52c673b418de31cf2ff4b7bbabfdbd242e356c6211575efa924a1a56f30d467", func := "moidore/moidorelaw02.ExtensionPow", spec := "extensionPow", inPlace := ["math/bits.Add64"], named := ["math/bits.divideError", "math/bits.overflowError"], apart := false }
def ExtensionPowSaid : Prop := extensionPowRow.holds Try.pinned (OpenSpec.ofChange extensionPowSpec)

/-- ITS FALSE NEIGHBOUR: 'it returns false'. Refute it at one input. -/
def extensionPowWrong : ChangeSpec := { name := "extensionPow", fn := fun _ => fun
  | [d1, d2, d3] => { results := [.lit (.bool false)], args := [d1, d2, d3] }
  | _ => none }
def ExtensionPowWrongFalsely : Prop := extensionPowRow.holds Try.pinned (OpenSpec.ofChange extensionPowWrong)

/-- 'moidorelaw02.ExtensionFrobenius': WHATEVER THE INPUT: true; the input reads as it did. -/
def extensionFrobeniusSpec : ChangeSpec := { name := "extensionFrobenius", fn := fun _ => fun
  | [d] => { results := [.lit (.bool true)], args := [d] }
  | _ => none }
def extensionFrobeniusRow : OpenClaim := { program := "yteljpelagpghcaa", sum := "c52c673b418de31cf2ff4b7bbabfdbd242e356c6211575efa924a1a56f30d467", func := "moidore/moidorelaw02.ExtensionFrobenius", spec := "extensionFrobenius", inPlace := ["math/bits.Add64"], named := ["math/bits.divideError", "math/bits.overflowError"], apart := false }
def ExtensionFrobeniusSaid : Prop := extensionFrobeniusRow.holds Try.pinned (OpenSpec.ofChange extensionFrobeniusSpec)

/-- ITS FALSE NEIGHBOUR: 'it returns false'. Refute it at one input. -/
def extensionFrobeniusWrong : ChangeSpec := { name := "extensionFrobenius", fn := fun _ => fun
  | [d] => { results := [.lit (.bool false)], args := [d] }
  | _ => none }
def ExtensionFrobeniusWrongFalsely : Prop := extensionFrobeniusRow.holds Try.pinned (OpenSpec.ofChange extensionFrobeniusWrong)

/-- 'moidorelaw02.ExtensionUnknown': WHATEVER THE INPUT: true; the input reads as it did. -/
def extensionUnknownSpec : ChangeSpec := { name := "extensionUnknown", fn := fun _ => fun
  | [d1, d2] => { results := [.lit (.bool true)], args := [d1, d2] }
  | _ => none }
def extensionUnknownRow : OpenClaim := { program := "yteljpelagpghcaa", sum := "c52c673b418de31cf2ff4b7bbabfdbd242e356c6211575efa924a1a56f30d467", func := "moidore/moidorelaw02.ExtensionUnknown", spec := "extensionUnknown", inPlace := ["math/bits.Add64"], named := ["math/bits.divideError", "math/bits.overflowError"], apart := false }
def ExtensionUnknownSaid : Prop := extensionUnknownRow.holds Try.pinned (OpenSpec.ofChange extensionUnknownSpec)

/-- ITS FALSE NEIGHBOUR: 'it returns false'. Refute it at one input. -/
def extensionUnknownWrong : ChangeSpec := { name := "extensionUnknown", fn := fun _ => fun
  | [d1, d2] => { results := [.lit (.bool false)], args := [d1, d2] }
  | _ => none }
def ExtensionUnknownWrongFalsely : Prop := extensionUnknownRow.holds Try.pinned (OpenSpec.ofChange extensionUnknownWrong)

/- THE SECOND FORM. 'bulk': how many values and letters a reading holds, each counted each time it is reached (what is shared counts as often as it is met; a slice's spare places count too). A statement '..UptoSaid' is the law's where the arguments, and the package variables that the reading takes, are together of bulk at most 1048576: NARROWER than '..Said'. Prove '..Said' where nothing that the law and all that it calls make is longer than what came in: it says more and counts as full. Else prove '..UptoSaid'. A law counts once. -/
mutual
def uptoBulk {H : Type} : DataW H → Nat
  | .lit (.string bytes) => bytes.length + 1
  | .lit _ => 1
  | .nil => 1
  | .ptr d => uptoBulk d + 1
  | .slice elems spare => uptoBulkAll elems + uptoBulkAll spare + 1
  | .agg parts => uptoBulkAll parts + 1
  | .iface _ d => uptoBulk d + 1
  | .map entries => uptoBulkEntries entries + 1
  | .held _ => 1
def uptoBulkAll {H : Type} : List (DataW H) → Nat
  | [] => 0
  | d :: r => uptoBulk d + uptoBulkAll r
def uptoBulkEntries {H : Type} : List (Lit × DataW H) → Nat
  | [] => 0
  | x :: r => uptoBulkEntry x + uptoBulkEntries r
def uptoBulkEntry {H : Type} : Lit × DataW H → Nat
  | (.string bytes, d) => bytes.length + uptoBulk d + 1
  | (_, d) => uptoBulk d + 1
 end
def uptoSmall : (H : Type) → List (DataW H) → Bool := fun _ ds => decide (uptoBulkAll ds ≤ 1048576)
def OpenSpec.upto (s : _root_.Go.ChangeSpec) : _root_.Go.OpenSpec := { _root_.Go.OpenSpec.ofChange s with cond := some uptoSmall }

/-- 'moidorelaw02.ExtensionSingle', WHERE WHAT IT READS IS OF BULK AT MOST 1048576: true; the input reads as it did. -/
def extensionSingleUptoRow : OpenClaim := { program := "yteljpelagpghcaa", sum := "c52c673b418de31cf2ff4b7bbabfdbd242e356c6211575efa924a1a56f30d467", func := "moidore/moidorelaw02.ExtensionSingle", spec := "extensionSingle", inPlace := ["math/bits.Add64"], named := ["math/bits.divideError", "math/bits.overflowError"], apart := false, narrowed := true }
def ExtensionSingleUptoSaid : Prop := extensionSingleUptoRow.holds Try.pinned (OpenSpec.upto extensionSingleSpec)

/-- 'moidorelaw02.ExtensionInverse', WHERE WHAT IT READS IS OF BULK AT MOST 1048576: true; the input reads as it did. -/
def extensionInverseUptoRow : OpenClaim := { program := "yteljpelagpghcaa", sum := "c52c673b418de31cf2ff4b7bbabfdbd242e356c6211575efa924a1a56f30d467", func := "moidore/moidorelaw02.ExtensionInverse", spec := "extensionInverse", inPlace := ["math/bits.Add64"], named := ["math/bits.divideError", "math/bits.overflowError"], apart := false, narrowed := true }
def ExtensionInverseUptoSaid : Prop := extensionInverseUptoRow.holds Try.pinned (OpenSpec.upto extensionInverseSpec)

/-- 'moidorelaw02.ExtensionNorm', WHERE WHAT IT READS IS OF BULK AT MOST 1048576: true; the input reads as it did. -/
def extensionNormUptoRow : OpenClaim := { program := "yteljpelagpghcaa", sum := "c52c673b418de31cf2ff4b7bbabfdbd242e356c6211575efa924a1a56f30d467", func := "moidore/moidorelaw02.ExtensionNorm", spec := "extensionNorm", inPlace := ["math/bits.Add64"], named := ["math/bits.divideError", "math/bits.overflowError"], apart := false, narrowed := true }
def ExtensionNormUptoSaid : Prop := extensionNormUptoRow.holds Try.pinned (OpenSpec.upto extensionNormSpec)

/-- 'moidorelaw02.ExtensionArithmetic', WHERE WHAT IT READS IS OF BULK AT MOST 1048576: true; the input reads as it did. -/
def extensionArithmeticUptoRow : OpenClaim := { program := "yteljpelagpghcaa", sum := "c52c673b418de31cf2ff4b7bbabfdbd242e356c6211575efa924a1a56f30d467", func := "moidore/moidorelaw02.ExtensionArithmetic", spec := "extensionArithmetic", inPlace := ["math/bits.Add64"], named := ["math/bits.divideError", "math/bits.overflowError"], apart := false, narrowed := true }
def ExtensionArithmeticUptoSaid : Prop := extensionArithmeticUptoRow.holds Try.pinned (OpenSpec.upto extensionArithmeticSpec)

/-- 'moidorelaw02.ExtensionField', WHERE WHAT IT READS IS OF BULK AT MOST 1048576: true; the input reads as it did. -/
def extensionFieldUptoRow : OpenClaim := { program := "yteljpelagpghcaa", sum := "c52c673b418de31cf2ff4b7bbabfdbd242e356c6211575efa924a1a56f30d467", func := "moidore/moidorelaw02.ExtensionField", spec := "extensionField", inPlace := ["math/bits.Add64"], unfollowed := true, recurses := true, named := ["math/bits.divideError", "math/bits.overflowError"], apart := false, narrowed := true }
def ExtensionFieldUptoSaid : Prop := extensionFieldUptoRow.holds Try.pinned (OpenSpec.upto extensionFieldSpec)

/-- 'moidorelaw02.ExtensionPow', WHERE WHAT IT READS IS OF BULK AT MOST 1048576: true; the input reads as it did. -/
def extensionPowUptoRow : OpenClaim := { program := "yteljpelagpghcaa", sum := "c52c673b418de31cf2ff4b7bbabfdbd242e356c6211575efa924a1a56f30d467", func := "moidore/moidorelaw02.ExtensionPow", spec := "extensionPow", inPlace := ["math/bits.Add64"], named := ["math/bits.divideError", "math/bits.overflowError"], apart := false, narrowed := true }
def ExtensionPowUptoSaid : Prop := extensionPowUptoRow.holds Try.pinned (OpenSpec.upto extensionPowSpec)

/-- 'moidorelaw02.ExtensionFrobenius', WHERE WHAT IT READS IS OF BULK AT MOST 1048576: true; the input reads as it did. -/
def extensionFrobeniusUptoRow : OpenClaim := { program := "yteljpelagpghcaa", sum := "c52c673b418de31cf2ff4b7bbabfdbd242e356c6211575efa924a1a56f30d467", func := "moidore/moidorelaw02.ExtensionFrobenius", spec := "extensionFrobenius", inPlace := ["math/bits.Add64"], named := ["math/bits.divideError", "math/bits.overflowError"], apart := false, narrowed := true }
def ExtensionFrobeniusUptoSaid : Prop := extensionFrobeniusUptoRow.holds Try.pinned (OpenSpec.upto extensionFrobeniusSpec)

/-- 'moidorelaw02.ExtensionUnknown', WHERE WHAT IT READS IS OF BULK AT MOST 1048576: true; the input reads as it did. -/
def extensionUnknownUptoRow : OpenClaim := { program := "yteljpelagpghcaa", sum := "c52c673b418de31cf2ff4b7bbabfdbd242e356c6211575efa924a1a56f30d467", func := "moidore/moidorelaw02.ExtensionUnknown", spec := "extensionUnknown", inPlace := ["math/bits.Add64"], named := ["math/bits.divideError", "math/bits.overflowError"], apart := false, narrowed := true }
def ExtensionUnknownUptoSaid : Prop := extensionUnknownUptoRow.holds Try.pinned (OpenSpec.upto extensionUnknownSpec)

end Rows
end Go.Proofs.Yteljpelagpghcaa
