/- The reference's Messages. -/
import Derived.Test.YtkpkgjniicnkcaaHCut
import Derived.Test.YtkpkgjniicnkcaaHVal
import Derived.OneCell
import Derived.Deep.RegionHeld3
import Derived.Deep.AppendLies
namespace Go.Proofs.Ytkpkgjniicnkcaa
open Go.RowKit Go.Sort

set_option maxRecDepth 100000
def ints (l : List Int) : List Value := l.map fun z => .int .u64 z
/-- An array of four lists in block B: the first is given, the other three are rows of the call's own. -/
structure Fam (W w : World) (B : Nat) (v0 : Value) (vs : Nat → Value) (ls : Nat → List Int) : Prop where
  own : ∀ k, k < 3 → Grown 23 W w (vs k) (ls k).length (ints (ls k))
  off : ∀ k, k < 3 → (vs k).ownBlock ≠ some B
  apart : ∀ j k b, j < 3 → k < 3 → j ≠ k → (vs j).ownBlock = some b → (vs k).ownBlock ≠ some b
  arr : w.rowIs B 90 4 (fun i => if i = 0 then v0 else vs (i - 1))
  ge : W.heap.size ≤ B
  all : ∀ k, k < 3 → ∀ x ∈ ls k, U x
theorem Fam.keep {W w w' : World} {B : Nat} {v0 : Value} {vs : Nat → Value} {ls : Nat → List Int} (h : Fam W w B v0 vs ls) (hb : Below w.heap.size w w') : Fam W w' B v0 vs ls :=
  ⟨fun k hk => (h.own k hk).keep hb, h.off, h.apart, h.arr.of_block (hb.block B h.arr.lt), h.ge, h.all⟩
theorem Fam.step {W w w1 w2 : World} {B : Nat} {v0 : Value} {vs : Nat → Value} {ls : Nat → List Int} (h : Fam W w B v0 vs ls) (hb : Below w.heap.size w w1) {k g cap n : Nat} {z : Int} (hk : k < 3) (hn : (ls k).length = n) (hz : U z)
    (hown : w2.ownsRow W.heap.size 23 1 (.slice (some ⟨g, 0, none⟩) (n + 1) cap) (n + 1) (ints (ls k) ++ [.int .u64 z])) (hgr : w1.grownBy w2 (vs k).ownBlock) (hat : (vs k).ownBlock = some g ∨ g = w1.heap.size) :
    Fam W (w2.setCell ⟨B, k + 1, none⟩ (.slice (some ⟨g, 0, none⟩) (n + 1) cap)) B v0 (fun j => if j = k then .slice (some ⟨g, 0, none⟩) (n + 1) cap else vs j) (fun j => if j = k then ls k ++ [z] else ls j) := by
  subst hn
  have h1 := h.keep hb
  have hB1 := h1.arr.lt
  have hgB : g ≠ B := fun e => by
    rcases hat with e2 | e2
    · exact h.off k hk (by rw [e2, e])
    · omega
  have hbel : Below W.heap.size W w2 := Below.grown (h1.own k hk).below hgr (h1.own k hk).below.size (fun j hj => ((h1.own k hk).own.lt j hj).1)
  have hkeep : ∀ b, b < w1.heap.size → (vs k).ownBlock ≠ some b → w2.heap[b]? = w1.heap[b]? := fun b hb hne => hgr.block b hb (fun e => hne e.symm)
  refine ⟨fun j hj => ?_, fun j hj => ?_, fun i j b hi hj hne he => ?_, ?_, h.ge, fun j hj => ?_⟩
  · by_cases e : j = k
    · subst e
      simp only [if_true, List.length_append, List.length_singleton, ints, List.map_append, List.map_singleton]
      exact ⟨Below.put hbel h.ge _, ownsRow_setCell_other hown (by simp [Value.ownBlock]; exact hgB) _⟩
    · simp only [if_neg e]
      refine ⟨Below.put hbel h.ge _, ownsRow_setCell_other ((h1.own j hj).own.kept hgr ?_) (h.off j hj) _⟩
      cases ho : (vs j).ownBlock with
      | none => exact .inl rfl
      | some b => exact .inr fun e2 => h.apart j k b hj hk e ho e2.symm
  · by_cases e : j = k
    · subst e; simp only [if_true, Value.ownBlock]; intro e2; injection e2 with e2; exact hgB e2
    · simp only [if_neg e]; exact h.off j hj
  · by_cases ei : i = k
    · subst ei
      simp only [if_true, Value.ownBlock] at he
      injection he with he
      subst he
      have ej : ¬ j = i := fun e => hne e.symm
      simp only [if_neg ej]
      intro hc
      rcases hat with e2 | e2
      · exact h.apart i j g hi hj hne e2 hc
      · have := ((h1.own j hj).own.lt g hc).2; omega
    · simp only [if_neg ei] at he
      by_cases ej : j = k
      · subst ej
        simp only [if_true, Value.ownBlock]
        intro hc
        injection hc with hc
        subst hc
        rcases hat with e2 | e2
        · exact h.apart i j g hi hj hne he e2
        · have := ((h1.own i hi).own.lt g he).2; omega
      · simp only [if_neg ej]; exact h.apart i j b hi hj hne he
  · have h2 : w2.rowIs B 90 4 (fun i => if i = 0 then v0 else vs (i - 1)) := h1.arr.of_block (hkeep B hB1 (h.off k hk))
    refine (h2.set (k + 1) _).congr fun i _ => ?_
    by_cases e0 : i = 0
    · subst e0; simp
    · by_cases e1 : i = k + 1
      · subst e1; simp
      · have : ¬ i - 1 = k := by omega
        simp [e0, e1, this]
  · by_cases e : j = k
    · subst e
      simp only [if_true]
      intro x hx
      rcases List.mem_append.1 hx with hx | hx
      · exact h.all j hj x hx
      · rw [List.mem_singleton] at hx; subst hx; exact hz
    · simp only [if_neg e]; exact h.all j hj
end Go.Proofs.Ytkpkgjniicnkcaa
