/- soundness.differences. -/
import Derived.Test.YtkpkgjniicnkcaaQC
namespace Go.Proofs.Ytkpkgjniicnkcaa
open Go.RowKit Go.Sort

/-- The differences of the products: row j, element k. -/
def gapV (p : Int) (ls : List (List Int)) (p0 P j k : Nat) : Int :=
  fsub p (fmul p ((ls.getD (p0 + j) []).getD k 0) ((ls.getD (p0 + P + j) []).getD k 0)) ((ls.getD (p0 + P + P + j) []).getD k 0)
def gapL (p : Int) (ls : List (List Int)) (p0 P b j : Nat) : List Int := (List.range b).map fun k => gapV p ls p0 P j k
theorem gapL_at (p : Int) (ls : List (List Int)) (p0 P b j k : Nat) (h : k < b) : (gapL p ls p0 P b j).getD k 0 = gapV p ls p0 P j k := by
  rw [List.getD, gapL, List.getElem?_map, List.getElem?_range h]; rfl
theorem gapL_len (p : Int) (ls : List (List Int)) (p0 P b j : Nat) : (gapL p ls p0 P b j).length = b := by simp [gapL]

/-- What the call has made so far: block G holds P lists, the first j of them filled, each in a block of its own. -/
structure Gap (W w : World) (G P b : Nat) (g : Nat → List Int) (j : Nat) (h : Nat → Nat) : Prop where
  below : Below W.heap.size W w
  ge : W.heap.size ≤ G
  row : w.rowIs G 36 P (fun i => if i < j then .slice (some ⟨h i, 0, none⟩) b b else .slice none 0 0)
  own : ∀ i, i < j → h i ≠ G ∧ w.rowIs (h i) 23 b (fun k => .int .u64 ((g i).getD k 0))
theorem Gap.keep {W w w' : World} {G P b j : Nat} {g : Nat → List Int} {h : Nat → Nat} (hg : Gap W w G P b g j h) (hb : Below w.heap.size w w') : Gap W w' G P b g j h :=
  ⟨Below.next hg.below hb, hg.ge, hg.row.of_block (hb.block G hg.row.lt), fun i hi => ⟨(hg.own i hi).1, (hg.own i hi).2.of_block (hb.block _ (hg.own i hi).2.lt)⟩⟩
/-- A new row, filled: the next. 'w1' is the world ahead of its making. -/
theorem Gap.next {W w1 w : World} {G P b j : Nat} {g : Nat → List Int} {h : Nat → Nat} (hg : Gap W w1 G P b g j h) (hj : j < P)
    (hb : Below W.heap.size W w) (hk : ∀ i, i < w1.heap.size → i ≠ G → w.heap[i]? = w1.heap[i]?) (hrow : w.rowIs G 36 P (fun i => if i = j then .slice (some ⟨w1.heap.size, 0, none⟩) b b else if i < j then .slice (some ⟨h i, 0, none⟩) b b else .slice none 0 0))
    (hnew : w.rowIs w1.heap.size 23 b (fun k => .int .u64 ((g j).getD k 0))) : Gap W w G P b g (j + 1) (fun i => if i = j then w1.heap.size else h i) :=
  ⟨hb, hg.ge, hrow.congr fun i _ => by
    by_cases e : i = j
    · subst e; simp
    · by_cases e2 : i < j
      · simp [e, e2, show i < j + 1 by omega]
      · simp [e, e2, show ¬ i < j + 1 by omega], fun i hi => by
    by_cases e : i = j
    · subst e
      simp only [if_true]
      exact ⟨fun e => by have := hg.row.lt; omega, hnew⟩
    · simp only [if_neg e]
      have hh := hg.own i (by omega)
      exact ⟨hh.1, hh.2.of_block (hk _ hh.2.lt hh.1)⟩⟩
end Go.Proofs.Ytkpkgjniicnkcaa
