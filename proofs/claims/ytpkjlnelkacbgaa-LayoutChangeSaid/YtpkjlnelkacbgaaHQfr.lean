/- An array of four lists, some of which are rows of the call's own that grow by append. -/
import Derived.Test.YtpkjlnelkacbgaaQM
import Derived.Test.YtpkjlnelkacbgaaHTgt
namespace Go.Proofs.Ytpkjlnelkacbgaa
open Go.RowKit Go.Sort

set_option maxRecDepth 100000
structure Qfr (I : Nat → Prop) (W w : World) (B : Nat) (vs : Nat → Value) (ls : Nat → List Int) : Prop where
  own : ∀ k, k < 4 → I k → Grown 22 W w (vs k) (ls k).length (ints (ls k))
  off : ∀ k, k < 4 → I k → (vs k).ownBlock ≠ some B
  apart : ∀ j k b, j < 4 → k < 4 → I j → I k → j ≠ k → (vs j).ownBlock = some b → (vs k).ownBlock ≠ some b
  arr : w.rowIs B 84 4 vs
  ge : W.heap.size ≤ B
  all : ∀ k, k < 4 → I k → ∀ x ∈ ls k, U x
theorem Qfr.keep {I : Nat → Prop} {W w w' : World} {B : Nat} {vs : Nat → Value} {ls : Nat → List Int} (h : Qfr I W w B vs ls) (hb : Below w.heap.size w w') : Qfr I W w' B vs ls :=
  ⟨fun k hk hI => (h.own k hk hI).keep hb, h.off, h.apart, h.arr.of_block (hb.block B h.arr.lt), h.ge, h.all⟩
theorem Qfr.congr {I : Nat → Prop} {W w : World} {B : Nat} {vs : Nat → Value} {ls ls' : Nat → List Int} (h : Qfr I W w B vs ls) (e : ∀ k, k < 4 → ls k = ls' k) : Qfr I W w B vs ls' :=
  ⟨fun k hk hI => by rw [← e k hk]; exact h.own k hk hI, h.off, h.apart, h.arr, h.ge, fun k hk hI => by rw [← e k hk]; exact h.all k hk hI⟩
/-- A store into another block of the call's own. -/
theorem Qfr.aside {I : Nat → Prop} {W w : World} {B : Nat} {vs : Nat → Value} {ls : Nat → List Int} (h : Qfr I W w B vs ls) {a : Addr} (ha : W.heap.size ≤ a.block) (hB : B ≠ a.block) (ho : ∀ k, k < 4 → I k → (vs k).ownBlock ≠ some a.block) (v : Value) : Qfr I W (w.setCell a v) B vs ls :=
  ⟨fun k hk hI => ⟨Below.put (h.own k hk hI).below ha _, ownsRow_setCell_other (h.own k hk hI).own (ho k hk hI) _⟩, h.off, h.apart, h.arr.setOther hB _, h.ge, h.all⟩
theorem Qfr.step {I : Nat → Prop} {W w w2 : World} {B : Nat} {vs : Nat → Value} {ls : Nat → List Int} (h : Qfr I W w B vs ls) {k n : Nat} {l2 : List Int} {v' : Value} (hk : k < 4) (hI : I k) (hU : ∀ x ∈ l2, U x)
    (hG : Grown 22 W w2 v' n ((ls k ++ l2).map fun z => Value.int .u64 z)) (hkeep : ∀ j, j < w.heap.size → (vs k).ownBlock ≠ some j → w2.heap[j]? = w.heap[j]?) (hat : v'.ownBlock = (vs k).ownBlock ∨ v'.ownBlock = some w.heap.size) :
    Qfr I W (w2.setCell ⟨B, k, none⟩ v') B (fun j => if j = k then v' else vs j) (fun j => if j = k then ls k ++ l2 else ls j) := by
  have hB1 := h.arr.lt
  have hn : n = (ls k ++ l2).length := by have := hG.own.1; rw [Nat.mul_one, List.length_map] at this; exact this.symm
  have hvB : v'.ownBlock ≠ some B := fun e => by
    rcases hat with e2 | e2
    · exact h.off k hk hI (by rw [← e2]; exact e)
    · rw [e2] at e; injection e with e; omega
  have hblt : ∀ b, b < w.heap.size → (vs k).ownBlock ≠ some b → w2.heap[b]? = w.heap[b]? := hkeep
  refine ⟨fun j hj hIj => ?_, fun j hj hIj => ?_, fun i j b hi hj hIi hIj hne he => ?_, ?_, h.ge, fun j hj hIj => ?_⟩
  · by_cases e : j = k
    · subst e
      simp only [if_true]
      rw [← hn]
      exact ⟨Below.put hG.below h.ge _, ownsRow_setCell_other hG.own hvB _⟩
    · simp only [if_neg e]
      refine ⟨Below.put hG.below h.ge _, ownsRow_setCell_other (?_ : w2.ownsRow W.heap.size 22 1 (vs j) (ls j).length (ints (ls j))) (h.off j hj hIj) _⟩
      have ho := (h.own j hj hIj).own
      refine ⟨ho.1, ?_⟩
      rcases ho.2 with hn | ⟨g, cap, cur, hv, hg, hc, rest⟩
      · exact .inl hn
      · refine .inr ⟨g, cap, cur, hv, hg, ?_, rest⟩
        have hown : (vs j).ownBlock = some g := by rw [hv]; rfl
        rw [hblt g (Array.getElem?_eq_some_iff.1 hc).1 (h.apart j k g hj hk hIj hI e hown)]
        exact hc
  · by_cases e : j = k
    · subst e; simp only [if_true]; exact hvB
    · simp only [if_neg e]; exact h.off j hj hIj
  · by_cases ei : i = k
    · subst ei
      simp only [if_true] at he
      have ej : ¬ j = i := fun e => hne e.symm
      simp only [if_neg ej]
      rcases hat with e2 | e2
      · exact h.apart i j b hi hj hIi hIj hne (by rw [← e2]; exact he)
      · rw [e2] at he; injection he with he; subst he
        intro hc
        have := ((h.own j hj hIj).own.lt _ hc).2; omega
    · simp only [if_neg ei] at he
      by_cases ej : j = k
      · subst ej
        simp only [if_true]
        intro hc
        rcases hat with e2 | e2
        · exact h.apart i j b hi hj hIi hIj hne he (by rw [← e2]; exact hc)
        · rw [e2] at hc; injection hc with hc; subst hc
          have := ((h.own i hi hIi).own.lt _ he).2; omega
      · simp only [if_neg ej]; exact h.apart i j b hi hj hIi hIj hne he
  · have h2 : w2.rowIs B 84 4 vs := h.arr.of_block (hblt B hB1 (h.off k hk hI))
    exact h2.set k v'
  · by_cases e : j = k
    · subst e
      simp only [if_true]
      intro x hx
      rcases List.mem_append.1 hx with hx | hx
      · exact h.all j hj hIj x hx
      · exact hU x hx
    · simp only [if_neg e]; exact h.all j hj hIj
end Go.Proofs.Ytpkjlnelkacbgaa
