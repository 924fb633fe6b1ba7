/- Matrices of the call's own in memory: rows in blocks of their own, whose slices may be swapped and whose elements may be stored. -/
import Derived.Test.YtjnlnbkdnjainaaQC
import Derived.Deep.OwnRows
namespace Go.Proofs.Ytjnlnbkdnjainaa
open Go.RowKit Go.Sort

set_option maxRecDepth 100000
/-- The first n cells of block b. -/
def Pfx (w : World) (b : Nat) (t : TypeId) (n : Nat) (f : Nat → Value) : Prop := ∃ C g, w.rowIs b t C g ∧ n ≤ C ∧ ∀ i, i < n → g i = f i
namespace Pfx
variable {w w' : World} {b : Nat} {t : TypeId} {n : Nat} {f f' : Nat → Value}
theorem of_row (h : w.rowIs b t n f) : Pfx w b t n f := ⟨n, f, h, Nat.le_refl _, fun _ _ => rfl⟩
theorem cell (h : Pfx w b t n f) {i : Nat} (hi : i < n) : w.cell? ⟨b, i, none⟩ = some (f i) := by
  obtain ⟨C, g, hr, hn, hg⟩ := h
  rw [hr.cell (by omega), hg i hi]
theorem frozen (h : Pfx w b t n f) (i : Nat) : w.frozen? ⟨b, i, none⟩ = false := by
  obtain ⟨C, g, hr, _, _⟩ := h
  exact hr.frozen i
theorem lt (h : Pfx w b t n f) : b < w.heap.size := by
  obtain ⟨C, g, hr, _, _⟩ := h
  exact hr.lt
theorem congr (h : Pfx w b t n f) (e : ∀ i, i < n → f i = f' i) : Pfx w b t n f' := by
  obtain ⟨C, g, hr, hn, hg⟩ := h
  exact ⟨C, g, hr, hn, fun i hi => by rw [hg i hi, e i hi]⟩
theorem of_block (h : Pfx w b t n f) (e : w'.heap[b]? = w.heap[b]?) : Pfx w' b t n f := by
  obtain ⟨C, g, hr, hn, hg⟩ := h
  exact ⟨C, g, hr.of_block e, hn, hg⟩
theorem set (h : Pfx w b t n f) (k : Nat) (v : Value) : Pfx (w.setCell ⟨b, k, none⟩ v) b t n (fun j => if j = k then v else f j) := by
  obtain ⟨C, g, hr, hn, hg⟩ := h
  exact ⟨C, _, hr.set k v, hn, fun i hi => by by_cases e : i = k <;> simp [e, hg i hi]⟩
theorem setOther (h : Pfx w b t n f) {a : Addr} (ha : b ≠ a.block) (v : Value) : Pfx (w.setCell a v) b t n f := by
  obtain ⟨C, g, hr, hn, hg⟩ := h
  exact ⟨C, g, hr.setOther ha v, hn, hg⟩
end Pfx
/-- A matrix of n rows of m numbers: its slices lie in block B, row i in block bf i. -/
structure Mx (W w : World) (B n m : Nat) (bf cf : Nat → Nat) (f : Nat → Nat → Int) : Prop where
  below : Below W.heap.size W w
  geB : W.heap.size ≤ B
  arr : Pfx w B 32 n (fun i => .slice (some ⟨bf i, 0, none⟩) m (cf i))
  row : ∀ i, i < n → Pfx w (bf i) 22 m (fun j => .int .u64 (f i j))
  geR : ∀ i, i < n → W.heap.size ≤ bf i ∧ bf i ≠ B
  inj : ∀ i j, i < n → j < n → bf i = bf j → i = j
  cap : ∀ i, i < n → m ≤ cf i
namespace Mx
variable {W w w' : World} {B n m : Nat} {bf cf : Nat → Nat} {f f' : Nat → Nat → Int}
theorem keep (h : Mx W w B n m bf cf f) (hb : Below w.heap.size w w') : Mx W w' B n m bf cf f :=
  ⟨Below.next h.below hb, h.geB, h.arr.of_block (hb.block B h.arr.lt), fun i hi => (h.row i hi).of_block (hb.block _ (h.row i hi).lt), h.geR, h.inj, h.cap⟩
theorem congr (h : Mx W w B n m bf cf f) (e : ∀ i j, i < n → j < m → f i j = f' i j) : Mx W w B n m bf cf f' :=
  ⟨h.below, h.geB, h.arr, fun i hi => (h.row i hi).congr fun j hj => by rw [e i j hi hj], h.geR, h.inj, h.cap⟩
theorem put (h : Mx W w B n m bf cf f) {i : Nat} (hi : i < n) (j : Nat) (x : Int) : Mx W (w.setCell ⟨bf i, j, none⟩ (.int .u64 x)) B n m bf cf (fun a b => if a = i ∧ b = j then x else f a b) := by
  refine ⟨Below.put h.below (h.geR i hi).1 _, h.geB, h.arr.setOther (fun e => (h.geR i hi).2 e.symm) _, fun a ha => ?_, h.geR, h.inj, h.cap⟩
  by_cases e : a = i
  · subst e
    exact ((h.row a ha).set j (.int .u64 x)).congr fun b _ => by by_cases e : b = j <;> simp [e]
  · exact ((h.row a ha).setOther (a := ⟨bf i, j, none⟩) (fun e2 => e (h.inj a i ha hi e2)) _).congr fun b _ => by simp [e]
theorem swap (h : Mx W w B n m bf cf f) {a b : Nat} (ha : a < n) (hb : b < n) :
    Mx W ((w.setCell ⟨B, a, none⟩ (.slice (some ⟨bf b, 0, none⟩) m (cf b))).setCell ⟨B, b, none⟩ (.slice (some ⟨bf a, 0, none⟩) m (cf a))) B n m (fun i => if i = b then bf a else if i = a then bf b else bf i) (fun i => if i = b then cf a else if i = a then cf b else cf i) (fun i => if i = b then f a else if i = a then f b else f i) := by
  have hs : ∀ i, i < n → (if i = b then a else if i = a then b else i) < n := fun i hi => by split; exact ha; split; exact hb; exact hi
  have eb : ∀ i, (if i = b then bf a else if i = a then bf b else bf i) = bf (if i = b then a else if i = a then b else i) := fun i => by split; rfl; split <;> rfl
  have ef : ∀ i, (if i = b then f a else if i = a then f b else f i) = f (if i = b then a else if i = a then b else i) := fun i => by split; rfl; split <;> rfl
  refine ⟨Below.put (Below.put h.below h.geB _) h.geB _, h.geB, ?_, fun i hi => ?_, fun i hi => ?_, fun i j hi hj e => ?_, fun i hi => by split; exact h.cap a ha; split; exact h.cap b hb; exact h.cap i hi⟩
  · refine ((h.arr.set a _).set b _).congr fun i _ => ?_
    by_cases e1 : i = b
    · simp [e1]
    · by_cases e2 : i = a
      · subst e2; simp [e1]
      · simp [e1, e2]
  · simp only [eb, ef]
    have := h.row _ (hs i hi)
    have hne := (h.geR _ (hs i hi)).2
    exact (this.setOther (a := ⟨B, a, none⟩) hne _).setOther (a := ⟨B, b, none⟩) hne _
  · simp only [eb]; exact h.geR _ (hs i hi)
  · simp only [eb] at e
    have h2 := h.inj _ _ (hs i hi) (hs j hj) e
    by_cases i1 : i = b <;> by_cases j1 : j = b <;> by_cases i2 : i = a <;> by_cases j2 : j = a <;> simp_all
/-- The cells that a walk reads. -/
theorem cells (h : Mx W w B n m bf cf f) {i : Nat} (hi : i < n) : w.cell? ⟨B, i, none⟩ = some (.slice (some ⟨bf i, 0, none⟩) m (cf i)) ∧ w.frozen? ⟨B, i, none⟩ = false ∧ B < w.heap.size ∧ bf i < w.heap.size := ⟨h.arr.cell hi, h.arr.frozen i, h.arr.lt, (h.row i hi).lt⟩
theorem elem (h : Mx W w B n m bf cf f) {i j : Nat} (hi : i < n) (hj : j < m) : w.cell? ⟨bf i, j, none⟩ = some (.int .u64 (f i j)) ∧ w.frozen? ⟨bf i, j, none⟩ = false := ⟨(h.row i hi).cell hj, (h.row i hi).frozen j⟩
end Mx
end Go.Proofs.Ytjnlnbkdnjainaa
