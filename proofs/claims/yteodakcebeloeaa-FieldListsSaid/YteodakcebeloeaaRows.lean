/-
  No cell of these rows narrows 'for every input' (looked for: loops, veiled, ifaces, maps, wideKeys, modest, calm, conditions, laid).
  DERIVED. THE GIVEN ROWS OF THIS SEAT. 9 by the template 'for every input the law returns true; each argument reads behind the call as it read before'; 0 by the template 'total and deterministic' (their statements: YteodakcebeloeaaTotals.lean).
  GIVEN WITH THE SEED: the statements are not yours to turn. If you find one false, say at which input.
  Laid BY PROGRAM, IN A SANDBOX (cutbox-rows.mjs): the forced cells as the released guide's own fill.sh prints them over the translation 188c3bcf4a0b739a… (all of the seat's roots in one cut). By AI agents, Wed Nov 11 2026. No macro, syntax, notation, axiom, sorry.
-/
import Derived.Test.YteodakcebeloeaaChecked
import GoSem.Claim
import GoSem.ClaimJoined
import GoSem.ClaimMapViews
import Derived.JoinedTies
import Derived.KernelRfl
namespace Go.Proofs.Yteodakcebeloeaa
/- THE CELL 'sum', in the pinned program and in every row, IS THE sha256 OF THE DUMP (.gsa) THAT YteodakcebeloeaaProg.lean LOADS. Nothing in Lean hashes anything: it is a label: what it is worth is what the hold of that sum in a sandbox is worth. -/
noncomputable def Try.pinned : Pinned := { name := "yteodakcebeloeaa", sum := "188c3bcf4a0b739a8408c212c186a861b29dde3e1cb9c3012bf903ebae3d7a43", checked := Try.checked }
namespace Rows
def none {H : Type} : Left H := { results := [], args := [] }

/-- 'moidorelaw01.FieldArithmetic': WHATEVER THE INPUT: true; the input reads as it did. -/
def fieldArithmeticSpec : ChangeSpec := { name := "fieldArithmetic", fn := fun _ => fun
  | [d1, d2, d3] => { results := [.lit (.bool true)], args := [d1, d2, d3] }
  | _ => none }
def fieldArithmeticRow : OpenClaim := { program := "yteodakcebeloeaa", sum := "188c3bcf4a0b739a8408c212c186a861b29dde3e1cb9c3012bf903ebae3d7a43", func := "moidore/moidorelaw01.FieldArithmetic", spec := "fieldArithmetic", inPlace := ["math/bits.Add64"], named := ["math/bits.divideError", "math/bits.overflowError"], apart := false }
def FieldArithmeticSaid : Prop := fieldArithmeticRow.holds Try.pinned (OpenSpec.ofChange fieldArithmeticSpec)

/-- ITS FALSE NEIGHBOUR: 'it returns false'. Refute it at one input. -/
def fieldArithmeticWrong : ChangeSpec := { name := "fieldArithmetic", fn := fun _ => fun
  | [d1, d2, d3] => { results := [.lit (.bool false)], args := [d1, d2, d3] }
  | _ => none }
def FieldArithmeticWrongFalsely : Prop := fieldArithmeticRow.holds Try.pinned (OpenSpec.ofChange fieldArithmeticWrong)

/-- 'moidorelaw01.FieldPow': WHATEVER THE INPUT: true; the input reads as it did. -/
def fieldPowSpec : ChangeSpec := { name := "fieldPow", fn := fun _ => fun
  | [d1, d2, d3] => { results := [.lit (.bool true)], args := [d1, d2, d3] }
  | _ => none }
def fieldPowRow : OpenClaim := { program := "yteodakcebeloeaa", sum := "188c3bcf4a0b739a8408c212c186a861b29dde3e1cb9c3012bf903ebae3d7a43", func := "moidore/moidorelaw01.FieldPow", spec := "fieldPow", inPlace := ["math/bits.Add64"], named := ["math/bits.divideError", "math/bits.overflowError"], apart := false }
def FieldPowSaid : Prop := fieldPowRow.holds Try.pinned (OpenSpec.ofChange fieldPowSpec)

/-- ITS FALSE NEIGHBOUR: 'it returns false'. Refute it at one input. -/
def fieldPowWrong : ChangeSpec := { name := "fieldPow", fn := fun _ => fun
  | [d1, d2, d3] => { results := [.lit (.bool false)], args := [d1, d2, d3] }
  | _ => none }
def FieldPowWrongFalsely : Prop := fieldPowRow.holds Try.pinned (OpenSpec.ofChange fieldPowWrong)

/-- 'moidorelaw01.FieldRoot': WHATEVER THE INPUT: true; the input reads as it did. -/
def fieldRootSpec : ChangeSpec := { name := "fieldRoot", fn := fun _ => fun
  | [d1, d2] => { results := [.lit (.bool true)], args := [d1, d2] }
  | _ => none }
def fieldRootRow : OpenClaim := { program := "yteodakcebeloeaa", sum := "188c3bcf4a0b739a8408c212c186a861b29dde3e1cb9c3012bf903ebae3d7a43", func := "moidore/moidorelaw01.FieldRoot", spec := "fieldRoot", inPlace := ["math/bits.Add64"], named := ["math/bits.divideError", "math/bits.overflowError"], apart := false }
def FieldRootSaid : Prop := fieldRootRow.holds Try.pinned (OpenSpec.ofChange fieldRootSpec)

/-- ITS FALSE NEIGHBOUR: 'it returns false'. Refute it at one input. -/
def fieldRootWrong : ChangeSpec := { name := "fieldRoot", fn := fun _ => fun
  | [d1, d2] => { results := [.lit (.bool false)], args := [d1, d2] }
  | _ => none }
def FieldRootWrongFalsely : Prop := fieldRootRow.holds Try.pinned (OpenSpec.ofChange fieldRootWrong)

/-- 'moidorelaw01.FieldAxioms': WHATEVER THE INPUT: true; the input reads as it did. -/
def fieldAxiomsSpec : ChangeSpec := { name := "fieldAxioms", fn := fun _ => fun
  | [d1, d2] => { results := [.lit (.bool true)], args := [d1, d2] }
  | _ => none }
def fieldAxiomsRow : OpenClaim := { program := "yteodakcebeloeaa", sum := "188c3bcf4a0b739a8408c212c186a861b29dde3e1cb9c3012bf903ebae3d7a43", func := "moidore/moidorelaw01.FieldAxioms", spec := "fieldAxioms", inPlace := ["math/bits.Add64"], named := ["math/bits.divideError", "math/bits.overflowError"], apart := false }
def FieldAxiomsSaid : Prop := fieldAxiomsRow.holds Try.pinned (OpenSpec.ofChange fieldAxiomsSpec)

/-- ITS FALSE NEIGHBOUR: 'it returns false'. Refute it at one input. -/
def fieldAxiomsWrong : ChangeSpec := { name := "fieldAxioms", fn := fun _ => fun
  | [d1, d2] => { results := [.lit (.bool false)], args := [d1, d2] }
  | _ => none }
def FieldAxiomsWrongFalsely : Prop := fieldAxiomsRow.holds Try.pinned (OpenSpec.ofChange fieldAxiomsWrong)

/-- 'moidorelaw01.FieldInverse': WHATEVER THE INPUT: true; the input reads as it did. -/
def fieldInverseSpec : ChangeSpec := { name := "fieldInverse", fn := fun _ => fun
  | [d1, d2, d3] => { results := [.lit (.bool true)], args := [d1, d2, d3] }
  | _ => none }
def fieldInverseRow : OpenClaim := { program := "yteodakcebeloeaa", sum := "188c3bcf4a0b739a8408c212c186a861b29dde3e1cb9c3012bf903ebae3d7a43", func := "moidore/moidorelaw01.FieldInverse", spec := "fieldInverse", inPlace := ["math/bits.Add64"], named := ["math/bits.divideError", "math/bits.overflowError"], apart := false }
def FieldInverseSaid : Prop := fieldInverseRow.holds Try.pinned (OpenSpec.ofChange fieldInverseSpec)

/-- ITS FALSE NEIGHBOUR: 'it returns false'. Refute it at one input. -/
def fieldInverseWrong : ChangeSpec := { name := "fieldInverse", fn := fun _ => fun
  | [d1, d2, d3] => { results := [.lit (.bool false)], args := [d1, d2, d3] }
  | _ => none }
def FieldInverseWrongFalsely : Prop := fieldInverseRow.holds Try.pinned (OpenSpec.ofChange fieldInverseWrong)

/-- 'moidorelaw01.FieldExponent': WHATEVER THE INPUT: true; the input reads as it did. -/
def fieldExponentSpec : ChangeSpec := { name := "fieldExponent", fn := fun _ => fun
  | [d1, d2, d3] => { results := [.lit (.bool true)], args := [d1, d2, d3] }
  | _ => none }
def fieldExponentRow : OpenClaim := { program := "yteodakcebeloeaa", sum := "188c3bcf4a0b739a8408c212c186a861b29dde3e1cb9c3012bf903ebae3d7a43", func := "moidore/moidorelaw01.FieldExponent", spec := "fieldExponent", inPlace := ["math/bits.Add64"], named := ["math/bits.divideError", "math/bits.overflowError"], apart := false }
def FieldExponentSaid : Prop := fieldExponentRow.holds Try.pinned (OpenSpec.ofChange fieldExponentSpec)

/-- ITS FALSE NEIGHBOUR: 'it returns false'. Refute it at one input. -/
def fieldExponentWrong : ChangeSpec := { name := "fieldExponent", fn := fun _ => fun
  | [d1, d2, d3] => { results := [.lit (.bool false)], args := [d1, d2, d3] }
  | _ => none }
def FieldExponentWrongFalsely : Prop := fieldExponentRow.holds Try.pinned (OpenSpec.ofChange fieldExponentWrong)

/-- 'moidorelaw01.FieldConstants': WHATEVER THE INPUT: true; the input reads as it did. -/
def fieldConstantsSpec : ChangeSpec := { name := "fieldConstants", fn := fun _ => fun
  | [d] => { results := [.lit (.bool true)], args := [d] }
  | _ => none }
def fieldConstantsRow : OpenClaim := { program := "yteodakcebeloeaa", sum := "188c3bcf4a0b739a8408c212c186a861b29dde3e1cb9c3012bf903ebae3d7a43", func := "moidore/moidorelaw01.FieldConstants", spec := "fieldConstants", inPlace := ["math/bits.Add64"], named := ["math/bits.divideError", "math/bits.overflowError"], apart := false }
def FieldConstantsSaid : Prop := fieldConstantsRow.holds Try.pinned (OpenSpec.ofChange fieldConstantsSpec)

/-- ITS FALSE NEIGHBOUR: 'it returns false'. Refute it at one input. -/
def fieldConstantsWrong : ChangeSpec := { name := "fieldConstants", fn := fun _ => fun
  | [d] => { results := [.lit (.bool false)], args := [d] }
  | _ => none }
def FieldConstantsWrongFalsely : Prop := fieldConstantsRow.holds Try.pinned (OpenSpec.ofChange fieldConstantsWrong)

/-- 'moidorelaw01.FieldPowers': WHATEVER THE INPUT: true; the input reads as it did. -/
def fieldPowersSpec : ChangeSpec := { name := "fieldPowers", fn := fun _ => fun
  | [d1, d2, d3] => { results := [.lit (.bool true)], args := [d1, d2, d3] }
  | _ => none }
def fieldPowersRow : OpenClaim := { program := "yteodakcebeloeaa", sum := "188c3bcf4a0b739a8408c212c186a861b29dde3e1cb9c3012bf903ebae3d7a43", func := "moidore/moidorelaw01.FieldPowers", spec := "fieldPowers", inPlace := ["math/bits.Add64"], named := ["math/bits.divideError", "math/bits.overflowError"], apart := false }
def FieldPowersSaid : Prop := fieldPowersRow.holds Try.pinned (OpenSpec.ofChange fieldPowersSpec)

/-- ITS FALSE NEIGHBOUR: 'it returns false'. Refute it at one input. -/
def fieldPowersWrong : ChangeSpec := { name := "fieldPowers", fn := fun _ => fun
  | [d1, d2, d3] => { results := [.lit (.bool false)], args := [d1, d2, d3] }
  | _ => none }
def FieldPowersWrongFalsely : Prop := fieldPowersRow.holds Try.pinned (OpenSpec.ofChange fieldPowersWrong)

/-- 'moidorelaw01.FieldLists': WHATEVER THE INPUT: true; the input reads as it did. -/
def fieldListsSpec : ChangeSpec := { name := "fieldLists", fn := fun _ => fun
  | [d1, d2, d3] => { results := [.lit (.bool true)], args := [d1, d2, d3] }
  | _ => none }
def fieldListsRow : OpenClaim := { program := "yteodakcebeloeaa", sum := "188c3bcf4a0b739a8408c212c186a861b29dde3e1cb9c3012bf903ebae3d7a43", func := "moidore/moidorelaw01.FieldLists", spec := "fieldLists", inPlace := ["math/bits.Add64"], named := ["math/bits.divideError", "math/bits.overflowError"], apart := false }
def FieldListsSaid : Prop := fieldListsRow.holds Try.pinned (OpenSpec.ofChange fieldListsSpec)

/-- ITS FALSE NEIGHBOUR: 'it returns false'. Refute it at one input. -/
def fieldListsWrong : ChangeSpec := { name := "fieldLists", fn := fun _ => fun
  | [d1, d2, d3] => { results := [.lit (.bool false)], args := [d1, d2, d3] }
  | _ => none }
def FieldListsWrongFalsely : Prop := fieldListsRow.holds Try.pinned (OpenSpec.ofChange fieldListsWrong)

/- THE SECOND FORM. 'bulk': how many values and letters a reading holds, each counted each time it is reached (what is shared counts as often as it is met; a slice's spare places count too). A statement '..UptoSaid' is the law's where the arguments, and the package variables that the reading takes, are together of bulk at most 1048576: NARROWER than '..Said'. Prove '..Said' where nothing that the law and all that it calls make is longer than what came in: it says more and counts as full. Else prove '..UptoSaid'. A law counts once. -/
mutual
def uptoBulk {H : Type} : DataW H → Nat
  | .lit (.string bytes) => bytes.length + 1
  | .lit _ => 1
  | .nil => 1
  | .ptr d => uptoBulk d + 1
  | .slice elems spare => uptoBulkAll elems + uptoBulkAll spare + 1
  | .agg parts => uptoBulkAll parts + 1
  | .iface _ d => uptoBulk d + 1
  | .map entries => uptoBulkEntries entries + 1
  | .held _ => 1
def uptoBulkAll {H : Type} : List (DataW H) → Nat
  | [] => 0
  | d :: r => uptoBulk d + uptoBulkAll r
def uptoBulkEntries {H : Type} : List (Lit × DataW H) → Nat
  | [] => 0
  | x :: r => uptoBulkEntry x + uptoBulkEntries r
def uptoBulkEntry {H : Type} : Lit × DataW H → Nat
  | (.string bytes, d) => bytes.length + uptoBulk d + 1
  | (_, d) => uptoBulk d + 1
 end
def uptoSmall : (H : Type) → List (DataW H) → Bool := fun _ ds => decide (uptoBulkAll ds ≤ 1048576)
def OpenSpec.upto (s : _root_.Go.ChangeSpec) : _root_.Go.OpenSpec := { _root_.Go.OpenSpec.ofChange s with cond := some uptoSmall }

/-- 'moidorelaw01.FieldArithmetic', WHERE WHAT IT READS IS OF BULK AT MOST 1048576: true; the input reads as it did. -/
def fieldArithmeticUptoRow : OpenClaim := { program := "yteodakcebeloeaa", sum := "188c3bcf4a0b739a8408c212c186a861b29dde3e1cb9c3012bf903ebae3d7a43", func := "moidore/moidorelaw01.FieldArithmetic", spec := "fieldArithmetic", inPlace := ["math/bits.Add64"], named := ["math/bits.divideError", "math/bits.overflowError"], apart := false, narrowed := true }
def FieldArithmeticUptoSaid : Prop := fieldArithmeticUptoRow.holds Try.pinned (OpenSpec.upto fieldArithmeticSpec)

/-- 'moidorelaw01.FieldPow', WHERE WHAT IT READS IS OF BULK AT MOST 1048576: true; the input reads as it did. -/
def fieldPowUptoRow : OpenClaim := { program := "yteodakcebeloeaa", sum := "188c3bcf4a0b739a8408c212c186a861b29dde3e1cb9c3012bf903ebae3d7a43", func := "moidore/moidorelaw01.FieldPow", spec := "fieldPow", inPlace := ["math/bits.Add64"], named := ["math/bits.divideError", "math/bits.overflowError"], apart := false, narrowed := true }
def FieldPowUptoSaid : Prop := fieldPowUptoRow.holds Try.pinned (OpenSpec.upto fieldPowSpec)

/-- 'moidorelaw01.FieldRoot', WHERE WHAT IT READS IS OF BULK AT MOST 1048576: true; the input reads as it did. -/
def fieldRootUptoRow : OpenClaim := { program := "yteodakcebeloeaa", sum := "188c3bcf4a0b739a8408c212c186a861b29dde3e1cb9c3012bf903ebae3d7a43", func := "moidore/moidorelaw01.FieldRoot", spec := "fieldRoot", inPlace := ["math/bits.Add64"], named := ["math/bits.divideError", "math/bits.overflowError"], apart := false, narrowed := true }
def FieldRootUptoSaid : Prop := fieldRootUptoRow.holds Try.pinned (OpenSpec.upto fieldRootSpec)

/-- 'moidorelaw01.FieldAxioms', WHERE WHAT IT READS IS OF BULK AT MOST 1048576: true; the input reads as it did. -/
def fieldAxiomsUptoRow : OpenClaim := { program := "yteodakcebeloeaa", sum := "188c3bcf4a0b739a8408c212c186a861b29dde3e1cb9c3012bf903ebae3d7a43", func := "moidore/moidorelaw01.FieldAxioms", spec := "fieldAxioms", inPlace := ["math/bits.Add64"], named := ["math/bits.divideError", "math/bits.overflowError"], apart := false, narrowed := true }
def FieldAxiomsUptoSaid : Prop := fieldAxiomsUptoRow.holds Try.pinned (OpenSpec.upto fieldAxiomsSpec)

/-- 'moidorelaw01.FieldInverse', WHERE WHAT IT READS IS OF BULK AT MOST 1048576: true; the input reads as it did. -/
def fieldInverseUptoRow : OpenClaim := { program := "yteodakcebeloeaa", sum := "188c3bcf4a0b739a8408c212c186a861b29dde3e1cb9c3012bf903ebae3d7a43", func := "moidore/moidorelaw01.FieldInverse", spec := "fieldInverse", inPlace := ["math/bits.Add64"], named := ["math/bits.divideError", "math/bits.overflowError"], apart := false, narrowed := true }
def FieldInverseUptoSaid : Prop := fieldInverseUptoRow.holds Try.pinned (OpenSpec.upto fieldInverseSpec)

/-- 'moidorelaw01.FieldExponent', WHERE WHAT IT READS IS OF BULK AT MOST 1048576: true; the input reads as it did. -/
def fieldExponentUptoRow : OpenClaim := { program := "yteodakcebeloeaa", sum := "188c3bcf4a0b739a8408c212c186a861b29dde3e1cb9c3012bf903ebae3d7a43", func := "moidore/moidorelaw01.FieldExponent", spec := "fieldExponent", inPlace := ["math/bits.Add64"], named := ["math/bits.divideError", "math/bits.overflowError"], apart := false, narrowed := true }
def FieldExponentUptoSaid : Prop := fieldExponentUptoRow.holds Try.pinned (OpenSpec.upto fieldExponentSpec)

/-- 'moidorelaw01.FieldConstants', WHERE WHAT IT READS IS OF BULK AT MOST 1048576: true; the input reads as it did. -/
def fieldConstantsUptoRow : OpenClaim := { program := "yteodakcebeloeaa", sum := "188c3bcf4a0b739a8408c212c186a861b29dde3e1cb9c3012bf903ebae3d7a43", func := "moidore/moidorelaw01.FieldConstants", spec := "fieldConstants", inPlace := ["math/bits.Add64"], named := ["math/bits.divideError", "math/bits.overflowError"], apart := false, narrowed := true }
def FieldConstantsUptoSaid : Prop := fieldConstantsUptoRow.holds Try.pinned (OpenSpec.upto fieldConstantsSpec)

/-- 'moidorelaw01.FieldPowers', WHERE WHAT IT READS IS OF BULK AT MOST 1048576: true; the input reads as it did. -/
def fieldPowersUptoRow : OpenClaim := { program := "yteodakcebeloeaa", sum := "188c3bcf4a0b739a8408c212c186a861b29dde3e1cb9c3012bf903ebae3d7a43", func := "moidore/moidorelaw01.FieldPowers", spec := "fieldPowers", inPlace := ["math/bits.Add64"], named := ["math/bits.divideError", "math/bits.overflowError"], apart := false, narrowed := true }
def FieldPowersUptoSaid : Prop := fieldPowersUptoRow.holds Try.pinned (OpenSpec.upto fieldPowersSpec)

/-- 'moidorelaw01.FieldLists', WHERE WHAT IT READS IS OF BULK AT MOST 1048576: true; the input reads as it did. -/
def fieldListsUptoRow : OpenClaim := { program := "yteodakcebeloeaa", sum := "188c3bcf4a0b739a8408c212c186a861b29dde3e1cb9c3012bf903ebae3d7a43", func := "moidore/moidorelaw01.FieldLists", spec := "fieldLists", inPlace := ["math/bits.Add64"], named := ["math/bits.divideError", "math/bits.overflowError"], apart := false, narrowed := true }
def FieldListsUptoSaid : Prop := fieldListsUptoRow.holds Try.pinned (OpenSpec.upto fieldListsSpec)

end Rows
end Go.Proofs.Yteodakcebeloeaa
