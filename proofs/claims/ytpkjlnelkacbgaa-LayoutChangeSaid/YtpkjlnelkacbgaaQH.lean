/- Lemmas of several texts in one file: Dif, Dig, Dih. -/
import Derived.Test.YtpkjlnelkacbgaaQC
/- soundness.differences. -/
namespace Go.Proofs.Ytpkjlnelkacbgaa
open Go.RowKit Go.Sort

/-- The differences of the products: row j, element k. -/
def gapV (p : Int) (ls : List (List Int)) (p0 P j k : Nat) : Int :=
  fsub p (fmul p ((ls.getD (p0 + j) []).getD k 0) ((ls.getD (p0 + P + j) []).getD k 0)) ((ls.getD (p0 + P + P + j) []).getD k 0)
def gapL (p : Int) (ls : List (List Int)) (p0 P b j : Nat) : List Int := (List.range b).map fun k => gapV p ls p0 P j k
theorem gapL_at (p : Int) (ls : List (List Int)) (p0 P b j k : Nat) (h : k < b) : (gapL p ls p0 P b j).getD k 0 = gapV p ls p0 P j k := by
  rw [List.getD, gapL, List.getElem?_map, List.getElem?_range h]; rfl
theorem gapL_len (p : Int) (ls : List (List Int)) (p0 P b j : Nat) : (gapL p ls p0 P b j).length = b := by simp [gapL]

/-- What the call has made so far: block G holds P lists, the first j of them filled, each in a block of its own. -/
structure Gap (W w : World) (G P b : Nat) (g : Nat → List Int) (j : Nat) (h : Nat → Nat) : Prop where
  below : Below W.heap.size W w
  ge : W.heap.size ≤ G
  row : w.rowIs G 43 P (fun i => if i < j then .slice (some ⟨h i, 0, none⟩) b b else .slice none 0 0)
  own : ∀ i, i < j → h i ≠ G ∧ w.rowIs (h i) 22 b (fun k => .int .u64 ((g i).getD k 0))
theorem Gap.keep {W w w' : World} {G P b j : Nat} {g : Nat → List Int} {h : Nat → Nat} (hg : Gap W w G P b g j h) (hb : Below w.heap.size w w') : Gap W w' G P b g j h :=
  ⟨Below.next hg.below hb, hg.ge, hg.row.of_block (hb.block G hg.row.lt), fun i hi => ⟨(hg.own i hi).1, (hg.own i hi).2.of_block (hb.block _ (hg.own i hi).2.lt)⟩⟩
/-- A new row, filled: the next. 'w1' is the world ahead of its making. -/
theorem Gap.next {W w1 w : World} {G P b j : Nat} {g : Nat → List Int} {h : Nat → Nat} (hg : Gap W w1 G P b g j h) (hj : j < P)
    (hb : Below W.heap.size W w) (hk : ∀ i, i < w1.heap.size → i ≠ G → w.heap[i]? = w1.heap[i]?) (hrow : w.rowIs G 43 P (fun i => if i = j then .slice (some ⟨w1.heap.size, 0, none⟩) b b else if i < j then .slice (some ⟨h i, 0, none⟩) b b else .slice none 0 0))
    (hnew : w.rowIs w1.heap.size 22 b (fun k => .int .u64 ((g j).getD k 0))) : Gap W w G P b g (j + 1) (fun i => if i = j then w1.heap.size else h i) :=
  ⟨hb, hg.ge, hrow.congr fun i _ => by
    by_cases e : i = j
    · subst e; simp
    · by_cases e2 : i < j
      · simp [e, e2, show i < j + 1 by omega]
      · simp [e, e2, show ¬ i < j + 1 by omega], fun i hi => by
    by_cases e : i = j
    · subst e
      simp only [if_true]
      exact ⟨fun e => by have := hg.row.lt; omega, hnew⟩
    · simp only [if_neg e]
      have hh := hg.own i (by omega)
      exact ⟨hh.1, hh.2.of_block (hk _ hh.2.lt hh.1)⟩⟩
end Go.Proofs.Ytpkjlnelkacbgaa

/- soundness.differences: the walk (some rows). -/
namespace Go.Proofs.Ytpkjlnelkacbgaa
open Go.RowKit Go.Sort

/-- In the midst of a row: its block is the one behind w2. -/
structure Inn (W w2 wr : World) (G P b j : Nat) (h : Nat → Nat) (f : Nat → Int) : Prop where
  below : Below W.heap.size W wr
  old : ∀ i, i < w2.heap.size → i ≠ G → wr.heap[i]? = w2.heap[i]?
  row : wr.rowIs G 43 P (fun i => if i = j then .slice (some ⟨w2.heap.size, 0, none⟩) b b else if i < j then .slice (some ⟨h i, 0, none⟩) b b else .slice none 0 0)
  new : wr.rowIs w2.heap.size 22 b (fun x => .int .u64 (f x))
  ge : W.heap.size ≤ w2.heap.size
  lt : G < w2.heap.size
theorem Inn.keep {W w2 wr w' : World} {G P b j : Nat} {h : Nat → Nat} {f : Nat → Int} (hi : Inn W w2 wr G P b j h f) (hb : Below wr.heap.size wr w') : Inn W w2 w' G P b j h f :=
  ⟨Below.next hi.below hb, fun i h1 h2 => (hb.block i (Nat.lt_trans h1 hi.new.lt)).trans (hi.old i h1 h2), hi.row.of_block (hb.block _ hi.row.lt), hi.new.of_block (hb.block _ hi.new.lt), hi.ge, hi.lt⟩
theorem Inn.put {W w2 wr : World} {G P b j : Nat} {h : Nat → Nat} {f : Nat → Int} (hi : Inn W w2 wr G P b j h f) (k : Nat) (v : Int) : Inn W w2 (wr.setCell ⟨w2.heap.size, k, none⟩ (.int .u64 v)) G P b j h (fun x => if x = k then v else f x) :=
  ⟨Below.put hi.below hi.ge _, fun i h1 h2 => (Go.Deep.blk_setCell_other _ _ _ _ (by simp only []; omega)).trans (hi.old i h1 h2), hi.row.setOther (by have := hi.lt; simp only []; omega) _, (hi.new.set k (.int .u64 v)).congr (fun x _ => by by_cases e : x = k <;> simp [e]), hi.ge, hi.lt⟩

end Go.Proofs.Ytpkjlnelkacbgaa

/- soundness.differences: no rows of X; then whatever there is. -/
namespace Go.Proofs.Ytpkjlnelkacbgaa
open Go.RowKit Go.Sort

end Go.Proofs.Ytpkjlnelkacbgaa
