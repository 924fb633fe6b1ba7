/-
  No cell of these rows narrows 'for every input' (looked for: loops, veiled, ifaces, maps, wideKeys, modest, calm, conditions, laid).
  DERIVED. THE GIVEN ROWS OF THIS SEAT. 8 by the template 'for every input the law returns true; each argument reads behind the call as it read before'; 0 by the template 'total and deterministic' (their statements: YtjnlnbkdnjainaaTotals.lean).
  GIVEN WITH THE SEED: the statements are not yours to turn. If you find one false, say at which input.
  Laid BY PROGRAM, IN A SANDBOX (cutbox-rows.mjs): the forced cells as the released guide's own fill.sh prints them over the translation 630735a102a1d2ed… (all of the seat's roots in one cut). By AI agents, Wed Nov 11 2026. No macro, syntax, notation, axiom, sorry.
-/
import Derived.Test.YtjnlnbkdnjainaaChecked
import GoSem.Claim
import GoSem.ClaimJoined
import GoSem.ClaimMapViews
import Derived.JoinedTies
import Derived.KernelRfl
namespace Go.Proofs.Ytjnlnbkdnjainaa
/- THE CELL 'sum', in the pinned program and in every row, IS THE sha256 OF THE DUMP (.gsa) THAT YtjnlnbkdnjainaaProg.lean LOADS. Nothing in Lean hashes anything: it is a label: what it is worth is what the hold of that sum in a sandbox is worth. -/
noncomputable def Try.pinned : Pinned := { name := "ytjnlnbkdnjainaa", sum := "630735a102a1d2ed48d6da249f2f137a784200e4dba6f297102ebc7ea0cfa540", checked := Try.checked }
namespace Rows
def none {H : Type} : Left H := { results := [], args := [] }

/-- 'moidoretop.TopExtensionMatrix': WHATEVER THE INPUT: true; the input reads as it did. -/
def topExtensionMatrixSpec : ChangeSpec := { name := "topExtensionMatrix", fn := fun _ => fun
  | [d1, d2, d3] => { results := [.lit (.bool true)], args := [d1, d2, d3] }
  | _ => none }
def topExtensionMatrixRow : OpenClaim := { program := "ytjnlnbkdnjainaa", sum := "630735a102a1d2ed48d6da249f2f137a784200e4dba6f297102ebc7ea0cfa540", func := "moidore/moidoretop.TopExtensionMatrix", spec := "topExtensionMatrix", inPlace := ["math/bits.Add64"], unfollowed := true, recurses := true, named := ["math/bits.divideError", "math/bits.overflowError"], apart := false }
def TopExtensionMatrixSaid : Prop := topExtensionMatrixRow.holds Try.pinned (OpenSpec.ofChange topExtensionMatrixSpec)

/-- ITS FALSE NEIGHBOUR: 'it returns false'. Refute it at one input. -/
def topExtensionMatrixWrong : ChangeSpec := { name := "topExtensionMatrix", fn := fun _ => fun
  | [d1, d2, d3] => { results := [.lit (.bool false)], args := [d1, d2, d3] }
  | _ => none }
def TopExtensionMatrixWrongFalsely : Prop := topExtensionMatrixRow.holds Try.pinned (OpenSpec.ofChange topExtensionMatrixWrong)

/-- 'moidoretop.TopTransformMatrix': WHATEVER THE INPUT: true; the input reads as it did. -/
def topTransformMatrixSpec : ChangeSpec := { name := "topTransformMatrix", fn := fun _ => fun
  | [d1, d2] => { results := [.lit (.bool true)], args := [d1, d2] }
  | _ => none }
def topTransformMatrixRow : OpenClaim := { program := "ytjnlnbkdnjainaa", sum := "630735a102a1d2ed48d6da249f2f137a784200e4dba6f297102ebc7ea0cfa540", func := "moidore/moidoretop.TopTransformMatrix", spec := "topTransformMatrix", inPlace := ["math/bits.Add64"], recurses := true, named := ["math/bits.divideError", "math/bits.overflowError"], apart := false }
def TopTransformMatrixSaid : Prop := topTransformMatrixRow.holds Try.pinned (OpenSpec.ofChange topTransformMatrixSpec)

/-- ITS FALSE NEIGHBOUR: 'it returns false'. Refute it at one input. -/
def topTransformMatrixWrong : ChangeSpec := { name := "topTransformMatrix", fn := fun _ => fun
  | [d1, d2] => { results := [.lit (.bool false)], args := [d1, d2] }
  | _ => none }
def TopTransformMatrixWrongFalsely : Prop := topTransformMatrixRow.holds Try.pinned (OpenSpec.ofChange topTransformMatrixWrong)

/-- 'moidorelaw05.LinearKernel': WHATEVER THE INPUT: true; the input reads as it did. -/
def linearKernelSpec : ChangeSpec := { name := "linearKernel", fn := fun _ => fun
  | [d1, d2] => { results := [.lit (.bool true)], args := [d1, d2] }
  | _ => none }
def linearKernelRow : OpenClaim := { program := "ytjnlnbkdnjainaa", sum := "630735a102a1d2ed48d6da249f2f137a784200e4dba6f297102ebc7ea0cfa540", func := "moidore/moidorelaw05.LinearKernel", spec := "linearKernel", inPlace := ["math/bits.Add64"], named := ["math/bits.divideError", "math/bits.overflowError"], apart := false }
def LinearKernelSaid : Prop := linearKernelRow.holds Try.pinned (OpenSpec.ofChange linearKernelSpec)

/-- ITS FALSE NEIGHBOUR: 'it returns false'. Refute it at one input. -/
def linearKernelWrong : ChangeSpec := { name := "linearKernel", fn := fun _ => fun
  | [d1, d2] => { results := [.lit (.bool false)], args := [d1, d2] }
  | _ => none }
def LinearKernelWrongFalsely : Prop := linearKernelRow.holds Try.pinned (OpenSpec.ofChange linearKernelWrong)

/-- 'moidorelaw05.LinearDeterminant': WHATEVER THE INPUT: true; the input reads as it did. -/
def linearDeterminantSpec : ChangeSpec := { name := "linearDeterminant", fn := fun _ => fun
  | [d1, d2] => { results := [.lit (.bool true)], args := [d1, d2] }
  | _ => none }
def linearDeterminantRow : OpenClaim := { program := "ytjnlnbkdnjainaa", sum := "630735a102a1d2ed48d6da249f2f137a784200e4dba6f297102ebc7ea0cfa540", func := "moidore/moidorelaw05.LinearDeterminant", spec := "linearDeterminant", inPlace := ["math/bits.Add64"], recurses := true, named := ["math/bits.divideError", "math/bits.overflowError"], apart := false }
def LinearDeterminantSaid : Prop := linearDeterminantRow.holds Try.pinned (OpenSpec.ofChange linearDeterminantSpec)

/-- ITS FALSE NEIGHBOUR: 'it returns false'. Refute it at one input. -/
def linearDeterminantWrong : ChangeSpec := { name := "linearDeterminant", fn := fun _ => fun
  | [d1, d2] => { results := [.lit (.bool false)], args := [d1, d2] }
  | _ => none }
def LinearDeterminantWrongFalsely : Prop := linearDeterminantRow.holds Try.pinned (OpenSpec.ofChange linearDeterminantWrong)

/-- 'moidorelaw05.LinearSolutions': WHATEVER THE INPUT: true; the input reads as it did. -/
def linearSolutionsSpec : ChangeSpec := { name := "linearSolutions", fn := fun _ => fun
  | [d1, d2, d3] => { results := [.lit (.bool true)], args := [d1, d2, d3] }
  | _ => none }
def linearSolutionsRow : OpenClaim := { program := "ytjnlnbkdnjainaa", sum := "630735a102a1d2ed48d6da249f2f137a784200e4dba6f297102ebc7ea0cfa540", func := "moidore/moidorelaw05.LinearSolutions", spec := "linearSolutions", inPlace := ["math/bits.Add64"], named := ["math/bits.divideError", "math/bits.overflowError"], apart := false }
def LinearSolutionsSaid : Prop := linearSolutionsRow.holds Try.pinned (OpenSpec.ofChange linearSolutionsSpec)

/-- ITS FALSE NEIGHBOUR: 'it returns false'. Refute it at one input. -/
def linearSolutionsWrong : ChangeSpec := { name := "linearSolutions", fn := fun _ => fun
  | [d1, d2, d3] => { results := [.lit (.bool false)], args := [d1, d2, d3] }
  | _ => none }
def LinearSolutionsWrongFalsely : Prop := linearSolutionsRow.holds Try.pinned (OpenSpec.ofChange linearSolutionsWrong)

/-- 'moidorelaw05.LinearReduce': WHATEVER THE INPUT: true; the input reads as it did. -/
def linearReduceSpec : ChangeSpec := { name := "linearReduce", fn := fun _ => fun
  | [d1, d2] => { results := [.lit (.bool true)], args := [d1, d2] }
  | _ => none }
def linearReduceRow : OpenClaim := { program := "ytjnlnbkdnjainaa", sum := "630735a102a1d2ed48d6da249f2f137a784200e4dba6f297102ebc7ea0cfa540", func := "moidore/moidorelaw05.LinearReduce", spec := "linearReduce", inPlace := ["math/bits.Add64"], named := ["math/bits.divideError", "math/bits.overflowError"], apart := false }
def LinearReduceSaid : Prop := linearReduceRow.holds Try.pinned (OpenSpec.ofChange linearReduceSpec)

/-- ITS FALSE NEIGHBOUR: 'it returns false'. Refute it at one input. -/
def linearReduceWrong : ChangeSpec := { name := "linearReduce", fn := fun _ => fun
  | [d1, d2] => { results := [.lit (.bool false)], args := [d1, d2] }
  | _ => none }
def LinearReduceWrongFalsely : Prop := linearReduceRow.holds Try.pinned (OpenSpec.ofChange linearReduceWrong)

/-- 'moidorelaw05.LinearValid': WHATEVER THE INPUT: true; the input reads as it did. -/
def linearValidSpec : ChangeSpec := { name := "linearValid", fn := fun _ => fun
  | [d] => { results := [.lit (.bool true)], args := [d] }
  | _ => none }
def linearValidRow : OpenClaim := { program := "ytjnlnbkdnjainaa", sum := "630735a102a1d2ed48d6da249f2f137a784200e4dba6f297102ebc7ea0cfa540", func := "moidore/moidorelaw05.LinearValid", spec := "linearValid", inPlace := ["math/bits.Add64"], named := ["math/bits.divideError", "math/bits.overflowError"], apart := false }
def LinearValidSaid : Prop := linearValidRow.holds Try.pinned (OpenSpec.ofChange linearValidSpec)

/-- ITS FALSE NEIGHBOUR: 'it returns false'. Refute it at one input. -/
def linearValidWrong : ChangeSpec := { name := "linearValid", fn := fun _ => fun
  | [d] => { results := [.lit (.bool false)], args := [d] }
  | _ => none }
def LinearValidWrongFalsely : Prop := linearValidRow.holds Try.pinned (OpenSpec.ofChange linearValidWrong)

/-- 'moidorelaw05.LinearDeterminantProduct': WHATEVER THE INPUT: true; the input reads as it did. -/
def linearDeterminantProductSpec : ChangeSpec := { name := "linearDeterminantProduct", fn := fun _ => fun
  | [d1, d2, d3] => { results := [.lit (.bool true)], args := [d1, d2, d3] }
  | _ => none }
def linearDeterminantProductRow : OpenClaim := { program := "ytjnlnbkdnjainaa", sum := "630735a102a1d2ed48d6da249f2f137a784200e4dba6f297102ebc7ea0cfa540", func := "moidore/moidorelaw05.LinearDeterminantProduct", spec := "linearDeterminantProduct", inPlace := ["math/bits.Add64"], named := ["math/bits.divideError", "math/bits.overflowError"], apart := false }
def LinearDeterminantProductSaid : Prop := linearDeterminantProductRow.holds Try.pinned (OpenSpec.ofChange linearDeterminantProductSpec)

/-- ITS FALSE NEIGHBOUR: 'it returns false'. Refute it at one input. -/
def linearDeterminantProductWrong : ChangeSpec := { name := "linearDeterminantProduct", fn := fun _ => fun
  | [d1, d2, d3] => { results := [.lit (.bool false)], args := [d1, d2, d3] }
  | _ => none }
def LinearDeterminantProductWrongFalsely : Prop := linearDeterminantProductRow.holds Try.pinned (OpenSpec.ofChange linearDeterminantProductWrong)

/- THE SECOND FORM. 'bulk': how many values and letters a reading holds, each counted each time it is reached (what is shared counts as often as it is met; a slice's spare places count too). A statement '..UptoSaid' is the law's where the arguments, and the package variables that the reading takes, are together of bulk at most 1048576: NARROWER than '..Said'. Prove '..Said' where nothing that the law and all that it calls make is longer than what came in: it says more and counts as full. Else prove '..UptoSaid'. A law counts once. -/
mutual
def uptoBulk {H : Type} : DataW H → Nat
  | .lit (.string bytes) => bytes.length + 1
  | .lit _ => 1
  | .nil => 1
  | .ptr d => uptoBulk d + 1
  | .slice elems spare => uptoBulkAll elems + uptoBulkAll spare + 1
  | .agg parts => uptoBulkAll parts + 1
  | .iface _ d => uptoBulk d + 1
  | .map entries => uptoBulkEntries entries + 1
  | .held _ => 1
def uptoBulkAll {H : Type} : List (DataW H) → Nat
  | [] => 0
  | d :: r => uptoBulk d + uptoBulkAll r
def uptoBulkEntries {H : Type} : List (Lit × DataW H) → Nat
  | [] => 0
  | x :: r => uptoBulkEntry x + uptoBulkEntries r
def uptoBulkEntry {H : Type} : Lit × DataW H → Nat
  | (.string bytes, d) => bytes.length + uptoBulk d + 1
  | (_, d) => uptoBulk d + 1
 end
def uptoSmall : (H : Type) → List (DataW H) → Bool := fun _ ds => decide (uptoBulkAll ds ≤ 1048576)
def OpenSpec.upto (s : _root_.Go.ChangeSpec) : _root_.Go.OpenSpec := { _root_.Go.OpenSpec.ofChange s with cond := some uptoSmall }

/-- 'moidoretop.TopExtensionMatrix', WHERE WHAT IT READS IS OF BULK AT MOST 1048576: true; the input reads as it did. -/
def topExtensionMatrixUptoRow : OpenClaim := { program := "ytjnlnbkdnjainaa", sum := "630735a102a1d2ed48d6da249f2f137a784200e4dba6f297102ebc7ea0cfa540", func := "moidore/moidoretop.TopExtensionMatrix", spec := "topExtensionMatrix", inPlace := ["math/bits.Add64"], unfollowed := true, recurses := true, named := ["math/bits.divideError", "math/bits.overflowError"], apart := false, narrowed := true }
def TopExtensionMatrixUptoSaid : Prop := topExtensionMatrixUptoRow.holds Try.pinned (OpenSpec.upto topExtensionMatrixSpec)

/-- 'moidoretop.TopTransformMatrix', WHERE WHAT IT READS IS OF BULK AT MOST 1048576: true; the input reads as it did. -/
def topTransformMatrixUptoRow : OpenClaim := { program := "ytjnlnbkdnjainaa", sum := "630735a102a1d2ed48d6da249f2f137a784200e4dba6f297102ebc7ea0cfa540", func := "moidore/moidoretop.TopTransformMatrix", spec := "topTransformMatrix", inPlace := ["math/bits.Add64"], recurses := true, named := ["math/bits.divideError", "math/bits.overflowError"], apart := false, narrowed := true }
def TopTransformMatrixUptoSaid : Prop := topTransformMatrixUptoRow.holds Try.pinned (OpenSpec.upto topTransformMatrixSpec)

/-- 'moidorelaw05.LinearKernel', WHERE WHAT IT READS IS OF BULK AT MOST 1048576: true; the input reads as it did. -/
def linearKernelUptoRow : OpenClaim := { program := "ytjnlnbkdnjainaa", sum := "630735a102a1d2ed48d6da249f2f137a784200e4dba6f297102ebc7ea0cfa540", func := "moidore/moidorelaw05.LinearKernel", spec := "linearKernel", inPlace := ["math/bits.Add64"], named := ["math/bits.divideError", "math/bits.overflowError"], apart := false, narrowed := true }
def LinearKernelUptoSaid : Prop := linearKernelUptoRow.holds Try.pinned (OpenSpec.upto linearKernelSpec)

/-- 'moidorelaw05.LinearDeterminant', WHERE WHAT IT READS IS OF BULK AT MOST 1048576: true; the input reads as it did. -/
def linearDeterminantUptoRow : OpenClaim := { program := "ytjnlnbkdnjainaa", sum := "630735a102a1d2ed48d6da249f2f137a784200e4dba6f297102ebc7ea0cfa540", func := "moidore/moidorelaw05.LinearDeterminant", spec := "linearDeterminant", inPlace := ["math/bits.Add64"], recurses := true, named := ["math/bits.divideError", "math/bits.overflowError"], apart := false, narrowed := true }
def LinearDeterminantUptoSaid : Prop := linearDeterminantUptoRow.holds Try.pinned (OpenSpec.upto linearDeterminantSpec)

/-- 'moidorelaw05.LinearSolutions', WHERE WHAT IT READS IS OF BULK AT MOST 1048576: true; the input reads as it did. -/
def linearSolutionsUptoRow : OpenClaim := { program := "ytjnlnbkdnjainaa", sum := "630735a102a1d2ed48d6da249f2f137a784200e4dba6f297102ebc7ea0cfa540", func := "moidore/moidorelaw05.LinearSolutions", spec := "linearSolutions", inPlace := ["math/bits.Add64"], named := ["math/bits.divideError", "math/bits.overflowError"], apart := false, narrowed := true }
def LinearSolutionsUptoSaid : Prop := linearSolutionsUptoRow.holds Try.pinned (OpenSpec.upto linearSolutionsSpec)

/-- 'moidorelaw05.LinearReduce', WHERE WHAT IT READS IS OF BULK AT MOST 1048576: true; the input reads as it did. -/
def linearReduceUptoRow : OpenClaim := { program := "ytjnlnbkdnjainaa", sum := "630735a102a1d2ed48d6da249f2f137a784200e4dba6f297102ebc7ea0cfa540", func := "moidore/moidorelaw05.LinearReduce", spec := "linearReduce", inPlace := ["math/bits.Add64"], named := ["math/bits.divideError", "math/bits.overflowError"], apart := false, narrowed := true }
def LinearReduceUptoSaid : Prop := linearReduceUptoRow.holds Try.pinned (OpenSpec.upto linearReduceSpec)

/-- 'moidorelaw05.LinearValid', WHERE WHAT IT READS IS OF BULK AT MOST 1048576: true; the input reads as it did. -/
def linearValidUptoRow : OpenClaim := { program := "ytjnlnbkdnjainaa", sum := "630735a102a1d2ed48d6da249f2f137a784200e4dba6f297102ebc7ea0cfa540", func := "moidore/moidorelaw05.LinearValid", spec := "linearValid", inPlace := ["math/bits.Add64"], named := ["math/bits.divideError", "math/bits.overflowError"], apart := false, narrowed := true }
def LinearValidUptoSaid : Prop := linearValidUptoRow.holds Try.pinned (OpenSpec.upto linearValidSpec)

/-- 'moidorelaw05.LinearDeterminantProduct', WHERE WHAT IT READS IS OF BULK AT MOST 1048576: true; the input reads as it did. -/
def linearDeterminantProductUptoRow : OpenClaim := { program := "ytjnlnbkdnjainaa", sum := "630735a102a1d2ed48d6da249f2f137a784200e4dba6f297102ebc7ea0cfa540", func := "moidore/moidorelaw05.LinearDeterminantProduct", spec := "linearDeterminantProduct", inPlace := ["math/bits.Add64"], named := ["math/bits.divideError", "math/bits.overflowError"], apart := false, narrowed := true }
def LinearDeterminantProductUptoSaid : Prop := linearDeterminantProductUptoRow.holds Try.pinned (OpenSpec.upto linearDeterminantProductSpec)

end Rows
end Go.Proofs.Ytjnlnbkdnjainaa
