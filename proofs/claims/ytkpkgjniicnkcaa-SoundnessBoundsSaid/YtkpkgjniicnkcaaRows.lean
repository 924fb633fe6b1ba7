/-
  No cell of these rows narrows 'for every input' (looked for: loops, veiled, ifaces, maps, wideKeys, modest, calm, conditions, laid).
  DERIVED. THE GIVEN ROWS OF THIS SEAT. 9 by the template 'for every input the law returns true; each argument reads behind the call as it read before'; 0 by the template 'total and deterministic' (their statements: YtkpkgjniicnkcaaTotals.lean).
  GIVEN WITH THE SEED: the statements are not yours to turn. If you find one false, say at which input.
  Laid BY PROGRAM, IN A SANDBOX (cutbox-rows.mjs): the forced cells as the released guide's own fill.sh prints them over the translation 9752d46e69af288d… (all of the seat's roots in one cut). By AI agents, Wed Nov 11 2026. No macro, syntax, notation, axiom, sorry.
-/
import Derived.Test.YtkpkgjniicnkcaaChecked
import GoSem.Claim
import GoSem.ClaimJoined
import GoSem.ClaimMapViews
import Derived.JoinedTies
import Derived.KernelRfl
namespace Go.Proofs.Ytkpkgjniicnkcaa
/- THE CELL 'sum', in the pinned program and in every row, IS THE sha256 OF THE DUMP (.gsa) THAT YtkpkgjniicnkcaaProg.lean LOADS. Nothing in Lean hashes anything: it is a label: what it is worth is what the hold of that sum in a sandbox is worth. -/
noncomputable def Try.pinned : Pinned := { name := "ytkpkgjniicnkcaa", sum := "9752d46e69af288d85ca70d9c79e486b0d33f454ae87a27e34bd13307157b52d", checked := Try.checked }
namespace Rows
def none {H : Type} : Left H := { results := [], args := [] }

/-- 'moidorelaw29.SoundnessChoices': WHATEVER THE INPUT: true; the input reads as it did. -/
def soundnessChoicesSpec : ChangeSpec := { name := "soundnessChoices", fn := fun _ => fun
  | [d1, d2] => { results := [.lit (.bool true)], args := [d1, d2] }
  | _ => none }
def soundnessChoicesRow : OpenClaim := { program := "ytkpkgjniicnkcaa", sum := "9752d46e69af288d85ca70d9c79e486b0d33f454ae87a27e34bd13307157b52d", func := "moidore/moidorelaw29.SoundnessChoices", spec := "soundnessChoices", named := ["math/bits.divideError", "math/bits.overflowError"], apart := false }
def SoundnessChoicesSaid : Prop := soundnessChoicesRow.holds Try.pinned (OpenSpec.ofChange soundnessChoicesSpec)

/-- ITS FALSE NEIGHBOUR: 'it returns false'. Refute it at one input. -/
def soundnessChoicesWrong : ChangeSpec := { name := "soundnessChoices", fn := fun _ => fun
  | [d1, d2] => { results := [.lit (.bool false)], args := [d1, d2] }
  | _ => none }
def SoundnessChoicesWrongFalsely : Prop := soundnessChoicesRow.holds Try.pinned (OpenSpec.ofChange soundnessChoicesWrong)

/-- 'moidorelaw29.SoundnessSurvivors': WHATEVER THE INPUT: true; the input reads as it did. -/
def soundnessSurvivorsSpec : ChangeSpec := { name := "soundnessSurvivors", fn := fun _ => fun
  | [d1, d2, d3] => { results := [.lit (.bool true)], args := [d1, d2, d3] }
  | _ => none }
def soundnessSurvivorsRow : OpenClaim := { program := "ytkpkgjniicnkcaa", sum := "9752d46e69af288d85ca70d9c79e486b0d33f454ae87a27e34bd13307157b52d", func := "moidore/moidorelaw29.SoundnessSurvivors", spec := "soundnessSurvivors", named := ["math/bits.divideError", "math/bits.overflowError"], apart := false }
def SoundnessSurvivorsSaid : Prop := soundnessSurvivorsRow.holds Try.pinned (OpenSpec.ofChange soundnessSurvivorsSpec)

/-- ITS FALSE NEIGHBOUR: 'it returns false'. Refute it at one input. -/
def soundnessSurvivorsWrong : ChangeSpec := { name := "soundnessSurvivors", fn := fun _ => fun
  | [d1, d2, d3] => { results := [.lit (.bool false)], args := [d1, d2, d3] }
  | _ => none }
def SoundnessSurvivorsWrongFalsely : Prop := soundnessSurvivorsRow.holds Try.pinned (OpenSpec.ofChange soundnessSurvivorsWrong)

/-- 'moidorelaw29.SoundnessLimits': WHATEVER THE INPUT: true; the input reads as it did. -/
def soundnessLimitsSpec : ChangeSpec := { name := "soundnessLimits", fn := fun _ => fun
  | [d1, d2] => { results := [.lit (.bool true)], args := [d1, d2] }
  | _ => none }
def soundnessLimitsRow : OpenClaim := { program := "ytkpkgjniicnkcaa", sum := "9752d46e69af288d85ca70d9c79e486b0d33f454ae87a27e34bd13307157b52d", func := "moidore/moidorelaw29.SoundnessLimits", spec := "soundnessLimits", named := ["math/bits.divideError", "math/bits.overflowError"], apart := false }
def SoundnessLimitsSaid : Prop := soundnessLimitsRow.holds Try.pinned (OpenSpec.ofChange soundnessLimitsSpec)

/-- ITS FALSE NEIGHBOUR: 'it returns false'. Refute it at one input. -/
def soundnessLimitsWrong : ChangeSpec := { name := "soundnessLimits", fn := fun _ => fun
  | [d1, d2] => { results := [.lit (.bool false)], args := [d1, d2] }
  | _ => none }
def SoundnessLimitsWrongFalsely : Prop := soundnessLimitsRow.holds Try.pinned (OpenSpec.ofChange soundnessLimitsWrong)

/-- 'moidorelaw29.SoundnessQuad': WHATEVER THE INPUT: true; the input reads as it did. -/
def soundnessQuadSpec : ChangeSpec := { name := "soundnessQuad", fn := fun _ => fun
  | [d] => { results := [.lit (.bool true)], args := [d] }
  | _ => none }
def soundnessQuadRow : OpenClaim := { program := "ytkpkgjniicnkcaa", sum := "9752d46e69af288d85ca70d9c79e486b0d33f454ae87a27e34bd13307157b52d", func := "moidore/moidorelaw29.SoundnessQuad", spec := "soundnessQuad", inPlace := ["math/bits.Add64"], named := ["math/bits.divideError", "math/bits.overflowError"], apart := false }
def SoundnessQuadSaid : Prop := soundnessQuadRow.holds Try.pinned (OpenSpec.ofChange soundnessQuadSpec)

/-- ITS FALSE NEIGHBOUR: 'it returns false'. Refute it at one input. -/
def soundnessQuadWrong : ChangeSpec := { name := "soundnessQuad", fn := fun _ => fun
  | [d] => { results := [.lit (.bool false)], args := [d] }
  | _ => none }
def SoundnessQuadWrongFalsely : Prop := soundnessQuadRow.holds Try.pinned (OpenSpec.ofChange soundnessQuadWrong)

/-- 'moidorelaw29.SoundnessConsistent': WHATEVER THE INPUT: true; the input reads as it did. -/
def soundnessConsistentSpec : ChangeSpec := { name := "soundnessConsistent", fn := fun _ => fun
  | [d] => { results := [.lit (.bool true)], args := [d] }
  | _ => none }
def soundnessConsistentRow : OpenClaim := { program := "ytkpkgjniicnkcaa", sum := "9752d46e69af288d85ca70d9c79e486b0d33f454ae87a27e34bd13307157b52d", func := "moidore/moidorelaw29.SoundnessConsistent", spec := "soundnessConsistent", inPlace := ["math/bits.Add64"], named := ["math/bits.divideError", "math/bits.overflowError"], apart := false }
def SoundnessConsistentSaid : Prop := soundnessConsistentRow.holds Try.pinned (OpenSpec.ofChange soundnessConsistentSpec)

/-- ITS FALSE NEIGHBOUR: 'it returns false'. Refute it at one input. -/
def soundnessConsistentWrong : ChangeSpec := { name := "soundnessConsistent", fn := fun _ => fun
  | [d] => { results := [.lit (.bool false)], args := [d] }
  | _ => none }
def SoundnessConsistentWrongFalsely : Prop := soundnessConsistentRow.holds Try.pinned (OpenSpec.ofChange soundnessConsistentWrong)

/-- 'moidorelaw29.SoundnessAssignment': WHATEVER THE INPUT: true; the input reads as it did. -/
def soundnessAssignmentSpec : ChangeSpec := { name := "soundnessAssignment", fn := fun _ => fun
  | [d] => { results := [.lit (.bool true)], args := [d] }
  | _ => none }
def soundnessAssignmentRow : OpenClaim := { program := "ytkpkgjniicnkcaa", sum := "9752d46e69af288d85ca70d9c79e486b0d33f454ae87a27e34bd13307157b52d", func := "moidore/moidorelaw29.SoundnessAssignment", spec := "soundnessAssignment", inPlace := ["math/bits.Add64"], named := ["math/bits.divideError", "math/bits.overflowError"], apart := false }
def SoundnessAssignmentSaid : Prop := soundnessAssignmentRow.holds Try.pinned (OpenSpec.ofChange soundnessAssignmentSpec)

/-- ITS FALSE NEIGHBOUR: 'it returns false'. Refute it at one input. -/
def soundnessAssignmentWrong : ChangeSpec := { name := "soundnessAssignment", fn := fun _ => fun
  | [d] => { results := [.lit (.bool false)], args := [d] }
  | _ => none }
def SoundnessAssignmentWrongFalsely : Prop := soundnessAssignmentRow.holds Try.pinned (OpenSpec.ofChange soundnessAssignmentWrong)

/-- 'moidorelaw29.SoundnessLinear': WHATEVER THE INPUT: true; the input reads as it did. -/
def soundnessLinearSpec : ChangeSpec := { name := "soundnessLinear", fn := fun _ => fun
  | [d] => { results := [.lit (.bool true)], args := [d] }
  | _ => none }
def soundnessLinearRow : OpenClaim := { program := "ytkpkgjniicnkcaa", sum := "9752d46e69af288d85ca70d9c79e486b0d33f454ae87a27e34bd13307157b52d", func := "moidore/moidorelaw29.SoundnessLinear", spec := "soundnessLinear", inPlace := ["math/bits.Add64"], named := ["math/bits.divideError", "math/bits.overflowError"], apart := false }
def SoundnessLinearSaid : Prop := soundnessLinearRow.holds Try.pinned (OpenSpec.ofChange soundnessLinearSpec)

/-- ITS FALSE NEIGHBOUR: 'it returns false'. Refute it at one input. -/
def soundnessLinearWrong : ChangeSpec := { name := "soundnessLinear", fn := fun _ => fun
  | [d] => { results := [.lit (.bool false)], args := [d] }
  | _ => none }
def SoundnessLinearWrongFalsely : Prop := soundnessLinearRow.holds Try.pinned (OpenSpec.ofChange soundnessLinearWrong)

/-- 'moidorelaw29.SoundnessLargeFields': WHATEVER THE INPUT: true; the input reads as it did. -/
def soundnessLargeFieldsSpec : ChangeSpec := { name := "soundnessLargeFields", fn := fun _ => fun
  | [d] => { results := [.lit (.bool true)], args := [d] }
  | _ => none }
def soundnessLargeFieldsRow : OpenClaim := { program := "ytkpkgjniicnkcaa", sum := "9752d46e69af288d85ca70d9c79e486b0d33f454ae87a27e34bd13307157b52d", func := "moidore/moidorelaw29.SoundnessLargeFields", spec := "soundnessLargeFields", inPlace := ["math/bits.Add64"], named := ["math/bits.divideError", "math/bits.overflowError"], apart := false }
def SoundnessLargeFieldsSaid : Prop := soundnessLargeFieldsRow.holds Try.pinned (OpenSpec.ofChange soundnessLargeFieldsSpec)

/-- ITS FALSE NEIGHBOUR: 'it returns false'. Refute it at one input. -/
def soundnessLargeFieldsWrong : ChangeSpec := { name := "soundnessLargeFields", fn := fun _ => fun
  | [d] => { results := [.lit (.bool false)], args := [d] }
  | _ => none }
def SoundnessLargeFieldsWrongFalsely : Prop := soundnessLargeFieldsRow.holds Try.pinned (OpenSpec.ofChange soundnessLargeFieldsWrong)

/-- 'moidorelaw29.SoundnessBounds': WHATEVER THE INPUT: true; the input reads as it did. -/
def soundnessBoundsSpec : ChangeSpec := { name := "soundnessBounds", fn := fun _ => fun
  | [d] => { results := [.lit (.bool true)], args := [d] }
  | _ => none }
def soundnessBoundsRow : OpenClaim := { program := "ytkpkgjniicnkcaa", sum := "9752d46e69af288d85ca70d9c79e486b0d33f454ae87a27e34bd13307157b52d", func := "moidore/moidorelaw29.SoundnessBounds", spec := "soundnessBounds", inPlace := ["math/bits.Add64"], named := ["math/bits.divideError", "math/bits.overflowError"], apart := false }
def SoundnessBoundsSaid : Prop := soundnessBoundsRow.holds Try.pinned (OpenSpec.ofChange soundnessBoundsSpec)

/-- ITS FALSE NEIGHBOUR: 'it returns false'. Refute it at one input. -/
def soundnessBoundsWrong : ChangeSpec := { name := "soundnessBounds", fn := fun _ => fun
  | [d] => { results := [.lit (.bool false)], args := [d] }
  | _ => none }
def SoundnessBoundsWrongFalsely : Prop := soundnessBoundsRow.holds Try.pinned (OpenSpec.ofChange soundnessBoundsWrong)

/- THE SECOND FORM. 'bulk': how many values and letters a reading holds, each counted each time it is reached (what is shared counts as often as it is met; a slice's spare places count too). A statement '..UptoSaid' is the law's where the arguments, and the package variables that the reading takes, are together of bulk at most 1048576: NARROWER than '..Said'. Prove '..Said' where nothing that the law and all that it calls make is longer than what came in: it says more and counts as full. Else prove '..UptoSaid'. A law counts once. -/
mutual
def uptoBulk {H : Type} : DataW H → Nat
  | .lit (.string bytes) => bytes.length + 1
  | .lit _ => 1
  | .nil => 1
  | .ptr d => uptoBulk d + 1
  | .slice elems spare => uptoBulkAll elems + uptoBulkAll spare + 1
  | .agg parts => uptoBulkAll parts + 1
  | .iface _ d => uptoBulk d + 1
  | .map entries => uptoBulkEntries entries + 1
  | .held _ => 1
def uptoBulkAll {H : Type} : List (DataW H) → Nat
  | [] => 0
  | d :: r => uptoBulk d + uptoBulkAll r
def uptoBulkEntries {H : Type} : List (Lit × DataW H) → Nat
  | [] => 0
  | x :: r => uptoBulkEntry x + uptoBulkEntries r
def uptoBulkEntry {H : Type} : Lit × DataW H → Nat
  | (.string bytes, d) => bytes.length + uptoBulk d + 1
  | (_, d) => uptoBulk d + 1
 end
def uptoSmall : (H : Type) → List (DataW H) → Bool := fun _ ds => decide (uptoBulkAll ds ≤ 1048576)
def OpenSpec.upto (s : _root_.Go.ChangeSpec) : _root_.Go.OpenSpec := { _root_.Go.OpenSpec.ofChange s with cond := some uptoSmall }

/-- 'moidorelaw29.SoundnessChoices', WHERE WHAT IT READS IS OF BULK AT MOST 1048576: true; the input reads as it did. -/
def soundnessChoicesUptoRow : OpenClaim := { program := "ytkpkgjniicnkcaa", sum := "9752d46e69af288d85ca70d9c79e486b0d33f454ae87a27e34bd13307157b52d", func := "moidore/moidorelaw29.SoundnessChoices", spec := "soundnessChoices", named := ["math/bits.divideError", "math/bits.overflowError"], apart := false, narrowed := true }
def SoundnessChoicesUptoSaid : Prop := soundnessChoicesUptoRow.holds Try.pinned (OpenSpec.upto soundnessChoicesSpec)

/-- 'moidorelaw29.SoundnessSurvivors', WHERE WHAT IT READS IS OF BULK AT MOST 1048576: true; the input reads as it did. -/
def soundnessSurvivorsUptoRow : OpenClaim := { program := "ytkpkgjniicnkcaa", sum := "9752d46e69af288d85ca70d9c79e486b0d33f454ae87a27e34bd13307157b52d", func := "moidore/moidorelaw29.SoundnessSurvivors", spec := "soundnessSurvivors", named := ["math/bits.divideError", "math/bits.overflowError"], apart := false, narrowed := true }
def SoundnessSurvivorsUptoSaid : Prop := soundnessSurvivorsUptoRow.holds Try.pinned (OpenSpec.upto soundnessSurvivorsSpec)

/-- 'moidorelaw29.SoundnessLimits', WHERE WHAT IT READS IS OF BULK AT MOST 1048576: true; the input reads as it did. -/
def soundnessLimitsUptoRow : OpenClaim := { program := "ytkpkgjniicnkcaa", sum := "9752d46e69af288d85ca70d9c79e486b0d33f454ae87a27e34bd13307157b52d", func := "moidore/moidorelaw29.SoundnessLimits", spec := "soundnessLimits", named := ["math/bits.divideError", "math/bits.overflowError"], apart := false, narrowed := true }
def SoundnessLimitsUptoSaid : Prop := soundnessLimitsUptoRow.holds Try.pinned (OpenSpec.upto soundnessLimitsSpec)

/-- 'moidorelaw29.SoundnessQuad', WHERE WHAT IT READS IS OF BULK AT MOST 1048576: true; the input reads as it did. -/
def soundnessQuadUptoRow : OpenClaim := { program := "ytkpkgjniicnkcaa", sum := "9752d46e69af288d85ca70d9c79e486b0d33f454ae87a27e34bd13307157b52d", func := "moidore/moidorelaw29.SoundnessQuad", spec := "soundnessQuad", inPlace := ["math/bits.Add64"], named := ["math/bits.divideError", "math/bits.overflowError"], apart := false, narrowed := true }
def SoundnessQuadUptoSaid : Prop := soundnessQuadUptoRow.holds Try.pinned (OpenSpec.upto soundnessQuadSpec)

/-- 'moidorelaw29.SoundnessConsistent', WHERE WHAT IT READS IS OF BULK AT MOST 1048576: true; the input reads as it did. -/
def soundnessConsistentUptoRow : OpenClaim := { program := "ytkpkgjniicnkcaa", sum := "9752d46e69af288d85ca70d9c79e486b0d33f454ae87a27e34bd13307157b52d", func := "moidore/moidorelaw29.SoundnessConsistent", spec := "soundnessConsistent", inPlace := ["math/bits.Add64"], named := ["math/bits.divideError", "math/bits.overflowError"], apart := false, narrowed := true }
def SoundnessConsistentUptoSaid : Prop := soundnessConsistentUptoRow.holds Try.pinned (OpenSpec.upto soundnessConsistentSpec)

/-- 'moidorelaw29.SoundnessAssignment', WHERE WHAT IT READS IS OF BULK AT MOST 1048576: true; the input reads as it did. -/
def soundnessAssignmentUptoRow : OpenClaim := { program := "ytkpkgjniicnkcaa", sum := "9752d46e69af288d85ca70d9c79e486b0d33f454ae87a27e34bd13307157b52d", func := "moidore/moidorelaw29.SoundnessAssignment", spec := "soundnessAssignment", inPlace := ["math/bits.Add64"], named := ["math/bits.divideError", "math/bits.overflowError"], apart := false, narrowed := true }
def SoundnessAssignmentUptoSaid : Prop := soundnessAssignmentUptoRow.holds Try.pinned (OpenSpec.upto soundnessAssignmentSpec)

/-- 'moidorelaw29.SoundnessLinear', WHERE WHAT IT READS IS OF BULK AT MOST 1048576: true; the input reads as it did. -/
def soundnessLinearUptoRow : OpenClaim := { program := "ytkpkgjniicnkcaa", sum := "9752d46e69af288d85ca70d9c79e486b0d33f454ae87a27e34bd13307157b52d", func := "moidore/moidorelaw29.SoundnessLinear", spec := "soundnessLinear", inPlace := ["math/bits.Add64"], named := ["math/bits.divideError", "math/bits.overflowError"], apart := false, narrowed := true }
def SoundnessLinearUptoSaid : Prop := soundnessLinearUptoRow.holds Try.pinned (OpenSpec.upto soundnessLinearSpec)

/-- 'moidorelaw29.SoundnessLargeFields', WHERE WHAT IT READS IS OF BULK AT MOST 1048576: true; the input reads as it did. -/
def soundnessLargeFieldsUptoRow : OpenClaim := { program := "ytkpkgjniicnkcaa", sum := "9752d46e69af288d85ca70d9c79e486b0d33f454ae87a27e34bd13307157b52d", func := "moidore/moidorelaw29.SoundnessLargeFields", spec := "soundnessLargeFields", inPlace := ["math/bits.Add64"], named := ["math/bits.divideError", "math/bits.overflowError"], apart := false, narrowed := true }
def SoundnessLargeFieldsUptoSaid : Prop := soundnessLargeFieldsUptoRow.holds Try.pinned (OpenSpec.upto soundnessLargeFieldsSpec)

/-- 'moidorelaw29.SoundnessBounds', WHERE WHAT IT READS IS OF BULK AT MOST 1048576: true; the input reads as it did. -/
def soundnessBoundsUptoRow : OpenClaim := { program := "ytkpkgjniicnkcaa", sum := "9752d46e69af288d85ca70d9c79e486b0d33f454ae87a27e34bd13307157b52d", func := "moidore/moidorelaw29.SoundnessBounds", spec := "soundnessBounds", inPlace := ["math/bits.Add64"], named := ["math/bits.divideError", "math/bits.overflowError"], apart := false, narrowed := true }
def SoundnessBoundsUptoSaid : Prop := soundnessBoundsUptoRow.holds Try.pinned (OpenSpec.upto soundnessBoundsSpec)

end Rows
end Go.Proofs.Ytkpkgjniicnkcaa
