/-
  No cell of these rows narrows 'for every input' (looked for: loops, veiled, ifaces, maps, wideKeys, modest, calm, conditions, laid).
  DERIVED. THE GIVEN ROWS OF THIS SEAT. 7 by the template 'for every input the law returns true; each argument reads behind the call as it read before'; 0 by the template 'total and deterministic' (their statements: YtgioplimemjpoaaTotals.lean).
  GIVEN WITH THE SEED: the statements are not yours to turn. If you find one false, say at which input.
  Laid BY PROGRAM, IN A SANDBOX (cutbox-rows.mjs): the forced cells as the released guide's own fill.sh prints them over the translation 874c34422831b125… (all of the seat's roots in one cut). By AI agents, Wed Nov 11 2026. No macro, syntax, notation, axiom, sorry.
-/
import Derived.Test.YtgioplimemjpoaaChecked
import GoSem.Claim
import GoSem.ClaimJoined
import GoSem.ClaimMapViews
import Derived.JoinedTies
import Derived.KernelRfl
namespace Go.Proofs.Ytgioplimemjpoaa
/- THE CELL 'sum', in the pinned program and in every row, IS THE sha256 OF THE DUMP (.gsa) THAT YtgioplimemjpoaaProg.lean LOADS. Nothing in Lean hashes anything: it is a label: what it is worth is what the hold of that sum in a sandbox is worth. -/
noncomputable def Try.pinned : Pinned := { name := "ytgioplimemjpoaa", sum := "874c34422831b12548d83c70bf9f4f88fc31595022527c8c8e541def883bf087", checked := Try.checked }
namespace Rows
def none {H : Type} : Left H := { results := [], args := [] }

/-- 'moidorelaw32.GroupPublic': WHATEVER THE INPUT: true; the input reads as it did. -/
def groupPublicSpec : ChangeSpec := { name := "groupPublic", fn := fun _ => fun
  | [d] => { results := [.lit (.bool true)], args := [d] }
  | _ => none }
def groupPublicRow : OpenClaim := { program := "ytgioplimemjpoaa", sum := "874c34422831b12548d83c70bf9f4f88fc31595022527c8c8e541def883bf087", func := "moidore/moidorelaw32.GroupPublic", spec := "groupPublic", inPlace := ["math/bits.Add64"], named := ["math/bits.divideError", "math/bits.overflowError"], apart := false }
def GroupPublicSaid : Prop := groupPublicRow.holds Try.pinned (OpenSpec.ofChange groupPublicSpec)

/-- ITS FALSE NEIGHBOUR: 'it returns false'. Refute it at one input. -/
def groupPublicWrong : ChangeSpec := { name := "groupPublic", fn := fun _ => fun
  | [d] => { results := [.lit (.bool false)], args := [d] }
  | _ => none }
def GroupPublicWrongFalsely : Prop := groupPublicRow.holds Try.pinned (OpenSpec.ofChange groupPublicWrong)

/-- 'moidorelaw32.GroupShared': WHATEVER THE INPUT: true; the input reads as it did. -/
def groupSharedSpec : ChangeSpec := { name := "groupShared", fn := fun _ => fun
  | [d1, d2] => { results := [.lit (.bool true)], args := [d1, d2] }
  | _ => none }
def groupSharedRow : OpenClaim := { program := "ytgioplimemjpoaa", sum := "874c34422831b12548d83c70bf9f4f88fc31595022527c8c8e541def883bf087", func := "moidore/moidorelaw32.GroupShared", spec := "groupShared", inPlace := ["math/bits.Add64"], named := ["math/bits.divideError", "math/bits.overflowError"], apart := false }
def GroupSharedSaid : Prop := groupSharedRow.holds Try.pinned (OpenSpec.ofChange groupSharedSpec)

/-- ITS FALSE NEIGHBOUR: 'it returns false'. Refute it at one input. -/
def groupSharedWrong : ChangeSpec := { name := "groupShared", fn := fun _ => fun
  | [d1, d2] => { results := [.lit (.bool false)], args := [d1, d2] }
  | _ => none }
def GroupSharedWrongFalsely : Prop := groupSharedRow.holds Try.pinned (OpenSpec.ofChange groupSharedWrong)

/-- 'moidorelaw32.GroupValid': WHATEVER THE INPUT: true; the input reads as it did. -/
def groupValidSpec : ChangeSpec := { name := "groupValid", fn := fun _ => fun
  | [d] => { results := [.lit (.bool true)], args := [d] }
  | _ => none }
def groupValidRow : OpenClaim := { program := "ytgioplimemjpoaa", sum := "874c34422831b12548d83c70bf9f4f88fc31595022527c8c8e541def883bf087", func := "moidore/moidorelaw32.GroupValid", spec := "groupValid", inPlace := ["math/bits.Add64"], named := ["math/bits.divideError", "math/bits.overflowError"], apart := false }
def GroupValidSaid : Prop := groupValidRow.holds Try.pinned (OpenSpec.ofChange groupValidSpec)

/-- ITS FALSE NEIGHBOUR: 'it returns false'. Refute it at one input. -/
def groupValidWrong : ChangeSpec := { name := "groupValid", fn := fun _ => fun
  | [d] => { results := [.lit (.bool false)], args := [d] }
  | _ => none }
def GroupValidWrongFalsely : Prop := groupValidRow.holds Try.pinned (OpenSpec.ofChange groupValidWrong)

/-- 'moidorelaw32.GroupAgreement': WHATEVER THE INPUT: true; the input reads as it did. -/
def groupAgreementSpec : ChangeSpec := { name := "groupAgreement", fn := fun _ => fun
  | [d1, d2] => { results := [.lit (.bool true)], args := [d1, d2] }
  | _ => none }
def groupAgreementRow : OpenClaim := { program := "ytgioplimemjpoaa", sum := "874c34422831b12548d83c70bf9f4f88fc31595022527c8c8e541def883bf087", func := "moidore/moidorelaw32.GroupAgreement", spec := "groupAgreement", inPlace := ["math/bits.Add64"], named := ["math/bits.divideError", "math/bits.overflowError"], apart := false }
def GroupAgreementSaid : Prop := groupAgreementRow.holds Try.pinned (OpenSpec.ofChange groupAgreementSpec)

/-- ITS FALSE NEIGHBOUR: 'it returns false'. Refute it at one input. -/
def groupAgreementWrong : ChangeSpec := { name := "groupAgreement", fn := fun _ => fun
  | [d1, d2] => { results := [.lit (.bool false)], args := [d1, d2] }
  | _ => none }
def GroupAgreementWrongFalsely : Prop := groupAgreementRow.holds Try.pinned (OpenSpec.ofChange groupAgreementWrong)

/-- 'moidorelaw32.GroupCommutes': WHATEVER THE INPUT: true; the input reads as it did. -/
def groupCommutesSpec : ChangeSpec := { name := "groupCommutes", fn := fun _ => fun
  | [d1, d2, d3] => { results := [.lit (.bool true)], args := [d1, d2, d3] }
  | _ => none }
def groupCommutesRow : OpenClaim := { program := "ytgioplimemjpoaa", sum := "874c34422831b12548d83c70bf9f4f88fc31595022527c8c8e541def883bf087", func := "moidore/moidorelaw32.GroupCommutes", spec := "groupCommutes", inPlace := ["math/bits.Add64"], named := ["math/bits.divideError", "math/bits.overflowError"], apart := false }
def GroupCommutesSaid : Prop := groupCommutesRow.holds Try.pinned (OpenSpec.ofChange groupCommutesSpec)

/-- ITS FALSE NEIGHBOUR: 'it returns false'. Refute it at one input. -/
def groupCommutesWrong : ChangeSpec := { name := "groupCommutes", fn := fun _ => fun
  | [d1, d2, d3] => { results := [.lit (.bool false)], args := [d1, d2, d3] }
  | _ => none }
def GroupCommutesWrongFalsely : Prop := groupCommutesRow.holds Try.pinned (OpenSpec.ofChange groupCommutesWrong)

/-- 'moidorelaw32.GroupSum': WHATEVER THE INPUT: true; the input reads as it did. -/
def groupSumSpec : ChangeSpec := { name := "groupSum", fn := fun _ => fun
  | [d1, d2, d3] => { results := [.lit (.bool true)], args := [d1, d2, d3] }
  | _ => none }
def groupSumRow : OpenClaim := { program := "ytgioplimemjpoaa", sum := "874c34422831b12548d83c70bf9f4f88fc31595022527c8c8e541def883bf087", func := "moidore/moidorelaw32.GroupSum", spec := "groupSum", inPlace := ["math/bits.Add64"], named := ["math/bits.divideError", "math/bits.overflowError"], apart := false }
def GroupSumSaid : Prop := groupSumRow.holds Try.pinned (OpenSpec.ofChange groupSumSpec)

/-- ITS FALSE NEIGHBOUR: 'it returns false'. Refute it at one input. -/
def groupSumWrong : ChangeSpec := { name := "groupSum", fn := fun _ => fun
  | [d1, d2, d3] => { results := [.lit (.bool false)], args := [d1, d2, d3] }
  | _ => none }
def GroupSumWrongFalsely : Prop := groupSumRow.holds Try.pinned (OpenSpec.ofChange groupSumWrong)

/-- 'moidorelaw32.GroupOrder': WHATEVER THE INPUT: true; the input reads as it did. -/
def groupOrderSpec : ChangeSpec := { name := "groupOrder", fn := fun _ => fun
  | [d] => { results := [.lit (.bool true)], args := [d] }
  | _ => none }
def groupOrderRow : OpenClaim := { program := "ytgioplimemjpoaa", sum := "874c34422831b12548d83c70bf9f4f88fc31595022527c8c8e541def883bf087", func := "moidore/moidorelaw32.GroupOrder", spec := "groupOrder", inPlace := ["math/bits.Add64"], named := ["math/bits.divideError", "math/bits.overflowError"], apart := false }
def GroupOrderSaid : Prop := groupOrderRow.holds Try.pinned (OpenSpec.ofChange groupOrderSpec)

/-- ITS FALSE NEIGHBOUR: 'it returns false'. Refute it at one input. -/
def groupOrderWrong : ChangeSpec := { name := "groupOrder", fn := fun _ => fun
  | [d] => { results := [.lit (.bool false)], args := [d] }
  | _ => none }
def GroupOrderWrongFalsely : Prop := groupOrderRow.holds Try.pinned (OpenSpec.ofChange groupOrderWrong)

/- THE SECOND FORM. 'bulk': how many values and letters a reading holds, each counted each time it is reached (what is shared counts as often as it is met; a slice's spare places count too). A statement '..UptoSaid' is the law's where the arguments, and the package variables that the reading takes, are together of bulk at most 1048576: NARROWER than '..Said'. Prove '..Said' where nothing that the law and all that it calls make is longer than what came in: it says more and counts as full. Else prove '..UptoSaid'. A law counts once. -/
mutual
def uptoBulk {H : Type} : DataW H → Nat
  | .lit (.string bytes) => bytes.length + 1
  | .lit _ => 1
  | .nil => 1
  | .ptr d => uptoBulk d + 1
  | .slice elems spare => uptoBulkAll elems + uptoBulkAll spare + 1
  | .agg parts => uptoBulkAll parts + 1
  | .iface _ d => uptoBulk d + 1
  | .map entries => uptoBulkEntries entries + 1
  | .held _ => 1
def uptoBulkAll {H : Type} : List (DataW H) → Nat
  | [] => 0
  | d :: r => uptoBulk d + uptoBulkAll r
def uptoBulkEntries {H : Type} : List (Lit × DataW H) → Nat
  | [] => 0
  | x :: r => uptoBulkEntry x + uptoBulkEntries r
def uptoBulkEntry {H : Type} : Lit × DataW H → Nat
  | (.string bytes, d) => bytes.length + uptoBulk d + 1
  | (_, d) => uptoBulk d + 1
 end
def uptoSmall : (H : Type) → List (DataW H) → Bool := fun _ ds => decide (uptoBulkAll ds ≤ 1048576)
def OpenSpec.upto (s : _root_.Go.ChangeSpec) : _root_.Go.OpenSpec := { _root_.Go.OpenSpec.ofChange s with cond := some uptoSmall }

/-- 'moidorelaw32.GroupPublic', WHERE WHAT IT READS IS OF BULK AT MOST 1048576: true; the input reads as it did. -/
def groupPublicUptoRow : OpenClaim := { program := "ytgioplimemjpoaa", sum := "874c34422831b12548d83c70bf9f4f88fc31595022527c8c8e541def883bf087", func := "moidore/moidorelaw32.GroupPublic", spec := "groupPublic", inPlace := ["math/bits.Add64"], named := ["math/bits.divideError", "math/bits.overflowError"], apart := false, narrowed := true }
def GroupPublicUptoSaid : Prop := groupPublicUptoRow.holds Try.pinned (OpenSpec.upto groupPublicSpec)

/-- 'moidorelaw32.GroupShared', WHERE WHAT IT READS IS OF BULK AT MOST 1048576: true; the input reads as it did. -/
def groupSharedUptoRow : OpenClaim := { program := "ytgioplimemjpoaa", sum := "874c34422831b12548d83c70bf9f4f88fc31595022527c8c8e541def883bf087", func := "moidore/moidorelaw32.GroupShared", spec := "groupShared", inPlace := ["math/bits.Add64"], named := ["math/bits.divideError", "math/bits.overflowError"], apart := false, narrowed := true }
def GroupSharedUptoSaid : Prop := groupSharedUptoRow.holds Try.pinned (OpenSpec.upto groupSharedSpec)

/-- 'moidorelaw32.GroupValid', WHERE WHAT IT READS IS OF BULK AT MOST 1048576: true; the input reads as it did. -/
def groupValidUptoRow : OpenClaim := { program := "ytgioplimemjpoaa", sum := "874c34422831b12548d83c70bf9f4f88fc31595022527c8c8e541def883bf087", func := "moidore/moidorelaw32.GroupValid", spec := "groupValid", inPlace := ["math/bits.Add64"], named := ["math/bits.divideError", "math/bits.overflowError"], apart := false, narrowed := true }
def GroupValidUptoSaid : Prop := groupValidUptoRow.holds Try.pinned (OpenSpec.upto groupValidSpec)

/-- 'moidorelaw32.GroupAgreement', WHERE WHAT IT READS IS OF BULK AT MOST 1048576: true; the input reads as it did. -/
def groupAgreementUptoRow : OpenClaim := { program := "ytgioplimemjpoaa", sum := "874c34422831b12548d83c70bf9f4f88fc31595022527c8c8e541def883bf087", func := "moidore/moidorelaw32.GroupAgreement", spec := "groupAgreement", inPlace := ["math/bits.Add64"], named := ["math/bits.divideError", "math/bits.overflowError"], apart := false, narrowed := true }
def GroupAgreementUptoSaid : Prop := groupAgreementUptoRow.holds Try.pinned (OpenSpec.upto groupAgreementSpec)

/-- 'moidorelaw32.GroupCommutes', WHERE WHAT IT READS IS OF BULK AT MOST 1048576: true; the input reads as it did. -/
def groupCommutesUptoRow : OpenClaim := { program := "ytgioplimemjpoaa", sum := "874c34422831b12548d83c70bf9f4f88fc31595022527c8c8e541def883bf087", func := "moidore/moidorelaw32.GroupCommutes", spec := "groupCommutes", inPlace := ["math/bits.Add64"], named := ["math/bits.divideError", "math/bits.overflowError"], apart := false, narrowed := true }
def GroupCommutesUptoSaid : Prop := groupCommutesUptoRow.holds Try.pinned (OpenSpec.upto groupCommutesSpec)

/-- 'moidorelaw32.GroupSum', WHERE WHAT IT READS IS OF BULK AT MOST 1048576: true; the input reads as it did. -/
def groupSumUptoRow : OpenClaim := { program := "ytgioplimemjpoaa", sum := "874c34422831b12548d83c70bf9f4f88fc31595022527c8c8e541def883bf087", func := "moidore/moidorelaw32.GroupSum", spec := "groupSum", inPlace := ["math/bits.Add64"], named := ["math/bits.divideError", "math/bits.overflowError"], apart := false, narrowed := true }
def GroupSumUptoSaid : Prop := groupSumUptoRow.holds Try.pinned (OpenSpec.upto groupSumSpec)

/-- 'moidorelaw32.GroupOrder', WHERE WHAT IT READS IS OF BULK AT MOST 1048576: true; the input reads as it did. -/
def groupOrderUptoRow : OpenClaim := { program := "ytgioplimemjpoaa", sum := "874c34422831b12548d83c70bf9f4f88fc31595022527c8c8e541def883bf087", func := "moidore/moidorelaw32.GroupOrder", spec := "groupOrder", inPlace := ["math/bits.Add64"], named := ["math/bits.divideError", "math/bits.overflowError"], apart := false, narrowed := true }
def GroupOrderUptoSaid : Prop := groupOrderUptoRow.holds Try.pinned (OpenSpec.upto groupOrderSpec)

end Rows
end Go.Proofs.Ytgioplimemjpoaa
