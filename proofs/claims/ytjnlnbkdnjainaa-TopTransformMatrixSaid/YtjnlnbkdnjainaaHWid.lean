/- A matrix of the call's own whose rows grow by append, one row after another. -/
import Derived.Test.YtjnlnbkdnjainaaHRed
import Derived.Test.YtjnlnbkdnjainaaHStrip
import Derived.Deep.AppendLies
import Derived.Deep.RegionHeld3
namespace Go.Proofs.Ytjnlnbkdnjainaa
open Go.RowKit Go.Sort

set_option maxRecDepth 100000
def unums (l : List Int) : List Value := l.map fun z => .int .u64 z
/-- The first i rows have m' elements, the others m. -/
structure Wid (W w : World) (B n i m m' : Nat) (bf cf : Nat → Nat) (f : Nat → Nat → Int) : Prop where
  below : Below W.heap.size W w
  geB : W.heap.size ≤ B
  arr : w.rowIs B 32 n (fun k => if k < i then .slice (some ⟨bf k, 0, none⟩) m' (cf k) else .slice (some ⟨bf k, 0, none⟩) m m)
  new : ∀ k, k < i → Pfx w (bf k) 22 m' (fun j => .int .u64 (f k j))
  old : ∀ k, i ≤ k → k < n → w.rowIs (bf k) 22 m (fun j => .int .u64 (f k j))
  geR : ∀ k, k < n → W.heap.size ≤ bf k ∧ bf k ≠ B
  inj : ∀ a b, a < n → b < n → bf a = bf b → a = b
  cap : ∀ k, k < i → m' ≤ cf k
namespace Wid
variable {W w w' : World} {B n i m m' : Nat} {bf cf : Nat → Nat} {f f' : Nat → Nat → Int}
theorem of_red {f0 : Nat → Nat → Int} (h : Red W w B n n m bf f0) (e : ∀ k j, k < n → j < m → f0 k j = f k j) : Wid W w B n 0 m m' bf cf f :=
  ⟨h.below, h.geB, h.arr.congr fun k hk => by rw [if_pos hk, if_neg (by omega)], fun k hk => absurd hk (by omega), fun k _ hk => (h.row k hk).congr fun j hj => by rw [e k j hk hj], h.geR, h.inj, fun k hk => absurd hk (by omega)⟩
theorem lt (h : Wid W w B n i m m' bf cf f) {k : Nat} (hk : k < n) : bf k < w.heap.size := by
  by_cases e : k < i
  · exact (h.new k e).lt
  · exact (h.old k (by omega) hk).lt
theorem keep (h : Wid W w B n i m m' bf cf f) (hi : i ≤ n) (hb : Below w.heap.size w w') : Wid W w' B n i m m' bf cf f :=
  ⟨Below.next h.below hb, h.geB, h.arr.of_block (hb.block B h.arr.lt), fun k hk => (h.new k hk).of_block (hb.block _ (h.lt (by omega))), fun k hk hkn => (h.old k hk hkn).of_block (hb.block _ (h.lt hkn)), h.geR, h.inj, h.cap⟩
theorem own (h : Wid W w B n i m m' bf cf f) (hi : i < n) (hm : m ≤ 1000) : w.ownsRow W.heap.size 22 1 (.slice (some ⟨bf i, 0, none⟩) m m) m ((List.range m).map fun j => .int .u64 (f i j)) := by
  obtain ⟨c, hc, hs, hg⟩ := h.old i (Nat.le_refl _) hi
  refine ⟨by simp, .inr ⟨bf i, m, c, rfl, (h.geR i hi).1, hc, Nat.le_refl _, by simp only [maxLen]; omega, by omega, ?_⟩⟩
  apply List.ext_getElem?
  intro j
  rw [List.getElem?_take, List.getElem?_map, Array.getElem?_toList]
  by_cases hj : j < m
  · rw [if_pos (by omega), hg j hj, List.getElem?_range hj]; rfl
  · rw [if_neg (by omega), List.getElem?_eq_none (by simp; omega)]; rfl
/-- A row is appended to, in whatever world behind w, and stored. -/
theorem push (h : Wid W w B n i m m' bf cf f) (hi : i < n) {w1 w2 : World} (hb : Below w.heap.size w w1) {g cap N : Nat} {news : List Int} (hN : N = m') (hm : m + news.length = m') (e : ∀ j, j < news.length → news.getD j 0 = f i (m + j))
    (hown : w2.ownsRow W.heap.size 22 1 (.slice (some ⟨g, 0, none⟩) N cap) N (((List.range m).map fun j => .int .u64 (f i j)) ++ unums news))
    (hgr : w1.grownBy w2 (some (bf i))) (hat : some (bf i) = some g ∨ g = w1.heap.size) :
    Wid W (w2.setCell ⟨B, i, none⟩ (.slice (some ⟨g, 0, none⟩) m' cap)) B n (i + 1) m m' (fun k => if k = i then g else bf k) (fun k => if k = i then cap else cf k) f := by
  subst hN
  have h1 := h.keep (by omega) hb
  have hBl := h1.arr.lt
  have hgB : g ≠ B := by
    rcases hat with e | e
    · injection e with e; rw [← e]; exact (h.geR i hi).2
    · omega
  have hgk : ∀ k, k < n → k ≠ i → g ≠ bf k := fun k hk hki e2 => by
    rcases hat with e | e
    · injection e with e; exact hki (h.inj k i hk hi (by omega))
    · have := h1.lt hk; omega
  have hblk : ∀ k, k < w1.heap.size → k ≠ bf i → w2.heap[k]? = w1.heap[k]? := fun k hk hne => hgr.block k hk (fun e => hne (by injection e))
  have hgW : W.heap.size ≤ g := by
    rcases hat with e | e
    · injection e with e; rw [← e]; exact (h.geR i hi).1
    · have := h1.below.size; omega
  refine ⟨Below.put (Below.grown h1.below hgr h1.below.size (fun k hk => by injection hk with hk; rw [← hk]; exact (h.geR i hi).1)) h.geB _, h.geB, ?_, fun k hk => ?_, fun k hk hkn => ?_, fun k hk => ?_, fun a b ha hb2 e2 => ?_, fun k hk => ?_⟩
  · refine ((h1.arr.of_block (hblk B hBl (fun e => (h.geR i hi).2 e.symm))).set i _).congr fun k hk => ?_
    by_cases e1 : k = i
    · subst e1; simp
    · by_cases e3 : k < i
      · simp [e1, e3, show k < i + 1 by omega]
      · simp [e1, e3, show ¬ k < i + 1 by omega]
  · by_cases e1 : k = i
    · subst e1
      simp only [if_true]
      rcases hown.2 with ⟨e3, _⟩ | ⟨g2, cap2, cur, e3, _, hc, hcap, _, hsz, htk⟩
      · cases e3
      · injection e3 with e3 _ e4
        injection e3 with e3; injection e3 with e3; subst e3 e4
        refine (Pfx.setOther (a := ⟨B, k, none⟩) (f := fun j => .int .u64 (f k j)) ⟨cap, fun j => (cur[j]?).getD undef, ⟨cur, hc, by omega, fun j hj => by dsimp only; rw [Array.getElem?_eq_getElem (by omega)]; rfl⟩, hcap, fun j hj => ?_⟩ hgB _)
        have h2 : (cur.toList.take (N * 1))[j]? = (((List.range m).map fun j => Value.int .u64 (f k j)) ++ unums news)[j]? := by rw [htk]
        rw [List.getElem?_take, if_pos (by omega), Array.getElem?_toList] at h2
        dsimp only
        rw [h2]
        by_cases hj2 : j < m
        · rw [List.getElem?_append_left (by simp; exact hj2), List.getElem?_map, List.getElem?_range hj2]; rfl
        · rw [List.getElem?_append_right (by simp; omega), List.length_map, List.length_range, unums, List.getElem?_map, List.getElem?_eq_getElem (by omega)]
          have := e (j - m) (by omega)
          rw [List.getD, List.getElem?_eq_getElem (by omega), show m + (j - m) = j by omega] at this
          simp only [Option.map_some, Option.getD_some] at this ⊢
          rw [this]
    · simp only [if_neg e1]
      have h2 := h1.new k (by omega)
      exact (h2.of_block (hblk _ h2.lt (fun e2 => e1 (h.inj k i (by omega) hi e2)))).setOther (a := ⟨B, i, none⟩) (h.geR k (by omega)).2 _
  · simp only [if_neg (show ¬ k = i by omega)]
    have h2 := h1.old k (by omega) hkn
    exact (h2.of_block (hblk _ h2.lt (fun e2 => absurd (h.inj k i hkn hi e2) (by omega)))).setOther (a := ⟨B, i, none⟩) (h.geR k hkn).2 _
  · by_cases e1 : k = i
    · simp only [e1, if_true]; exact ⟨hgW, hgB⟩
    · simp only [if_neg e1]; exact h.geR k hk
  · by_cases e3 : a = i <;> by_cases e4 : b = i
    · omega
    · simp only [if_pos e3, if_neg e4] at e2; exact absurd e2 (hgk b hb2 e4)
    · simp only [if_neg e3, if_pos e4] at e2; exact absurd e2.symm (hgk a ha e3)
    · simp only [if_neg e3, if_neg e4] at e2; exact h.inj a b ha hb2 e2
  · split
    · rcases hown.2 with ⟨e3, _⟩ | ⟨g2, cap2, cur, e3, _, _, hc, _⟩
      · cases e3
      · injection e3 with _ _ e4; omega
    · exact h.cap k (by omega)
theorem done (h : Wid W w B n n m m' bf cf f) : Mx W w B n m' bf cf f :=
  ⟨h.below, h.geB, (Pfx.of_row h.arr).congr fun k hk => by rw [if_pos hk], h.new, h.geR, h.inj, h.cap⟩
theorem cells (h : Wid W w B n i m m' bf cf f) (hi : i < n) : w.cell? ⟨B, i, none⟩ = some (.slice (some ⟨bf i, 0, none⟩) m m) ∧ w.frozen? ⟨B, i, none⟩ = false ∧ B < w.heap.size ∧ bf i < w.heap.size := by
  have := h.arr.cell hi
  rw [if_neg (by omega)] at this
  exact ⟨this, h.arr.frozen i, h.arr.lt, h.lt hi⟩
end Wid
end Go.Proofs.Ytjnlnbkdnjainaa
