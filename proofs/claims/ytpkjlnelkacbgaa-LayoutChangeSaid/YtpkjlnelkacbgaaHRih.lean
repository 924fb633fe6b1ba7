/- moidorelaw29.right where the case is right: the layout, the public values and the messages with their changes. -/
import Derived.Test.YtpkjlnelkacbgaaHPut
import Derived.Test.YtpkjlnelkacbgaaHTgt
namespace Go.Proofs.Ytpkjlnelkacbgaa
open Go.RowKit Go.Sort

/-- A row of rows of an inner base stands, for an outer base, where the world has turned below the inner base alone. -/
theorem Mat.moved {W W1 w w' : World} {v : Value} {bs : List Nat} {ls : List (List Int)} (h : Mat W1 w v bs ls) (hs : W.heap.size ≤ W1.heap.size) (hb : Below W.heap.size W w') (hk : ∀ k, W1.heap.size ≤ k → w'.heap[k]? = w.heap[k]?) (hz : w.heap.size ≤ w'.heap.size) : Mat W w' v bs ls := by
  refine ⟨⟨hb, h.grown.own.1, ?_⟩, h.len, fun i b l h1 h2 => (h.rows i b l h1 h2).of_block (hk b (h.ge b (List.mem_of_getElem? h1)).1), fun b hbm => ⟨Nat.le_trans hs (h.ge b hbm).1, (h.ge b hbm).2.1, Nat.lt_of_lt_of_le (h.ge b hbm).2.2 hz⟩, h.nodup, h.all⟩
  rcases h.grown.own.2 with hn | ⟨g, cap, cur, hv, hg, hc, rest⟩
  · exact .inl hn
  · exact .inr ⟨g, cap, cur, hv, Nat.le_trans hs hg, by rw [hk g hg]; exact hc, rest⟩
theorem Ls.take {w : World} {u : Option Addr} {l : List Int} (h : Ls w u l) (n : Nat) : Ls w u (l.take n) :=
  ⟨by have := h.small; rw [List.length_take]; omega, fun x hx => h.all x (List.mem_of_mem_take hx), fun hne => by
    obtain ⟨b, o, e, hlt, hc⟩ := h.mem (fun e => by subst e; simp at hne)
    exact ⟨b, o, e, hlt, fun i x hx => by
      rw [List.getElem?_take] at hx
      split at hx
      · exact hc i x hx
      · cases hx⟩⟩
def put11 (w : World) (R : Nat) (x0 x1 x2 x3 x4 x5 x6 x7 x8 x9 x10 : Value) : World :=
  (((((((((((w.setCell ⟨R, 0, none⟩ x0).setCell ⟨R, 1, none⟩ x1).setCell ⟨R, 2, none⟩ x2).setCell ⟨R, 3, none⟩ x3).setCell ⟨R, 4, none⟩ x4).setCell ⟨R, 5, none⟩ x5).setCell ⟨R, 6, none⟩ x6).setCell ⟨R, 7, none⟩ x7).setCell ⟨R, 8, none⟩ x8).setCell ⟨R, 9, none⟩ x9).setCell ⟨R, 10, none⟩ x10).drew
set_option maxHeartbeats 4000000 in
theorem right_end {W W1 w1 : World} {u2 : Option Addr} {M c2 : Nat} {bs : List Nat} {ls : List (List Int)} (hM : Mat W1 w1 (.slice u2 M c2) bs ls) (hlen : ls.length = M) (hB : Below W.heap.size W W1) {RB : Nat} (hR : W.heap.size ≤ RB) (hR1 : RB < W1.heap.size) (x0 x1 x2 x3 x4 x5 x6 x7 x8 x9 x10 : Value) :
    Mat W (put11 w1 RB x0 x1 x2 x3 x4 x5 x6 x7 x8 x9 x10) (.slice u2 M c2) bs ls ∧ Below W.heap.size W (put11 w1 RB x0 x1 x2 x3 x4 x5 x6 x7 x8 x9 x10) ∧ M ≤ c2 := by
  have hB3 : Below W.heap.size W w1 := Below.next hB hM.grown.below
  have hB2 : Below W.heap.size W (put11 w1 RB x0 x1 x2 x3 x4 x5 x6 x7 x8 x9 x10) := by
    unfold put11
    with_reducible refine Below.drew ?_
    iterate 11 (with_reducible refine Below.put ?_ hR _)
    exact hB3
  refine ⟨hM.moved hB.size hB2 (fun k hk => ?_) ?_, hB2, ?_⟩
  · unfold put11 World.drew
    dsimp only
    iterate 11 rw [Go.Deep.blk_setCell_other _ _ _ _ (by dsimp only; omega)]
  · unfold put11 World.drew
    dsimp only
    simp only [World.size_setCell, Nat.le_refl]
  · rcases Nat.eq_zero_or_pos M with h | h
    · omega
    · obtain ⟨G, c, e, hc, _⟩ := hM.form (by omega)
      injection e with _ _ e
      omega
def GivesRight (v : Value) (ls : List (List Int)) (pubs : List Int) (w : World) (e : Ending) (w' : World) : Prop :=
  ∃ u' c' u2 c2 bs, e = .returned (.tuple #[v, .slice u' pubs.length c', .slice u2 ls.length c2, .bool true]) ∧ Mat w w' (.slice u2 ls.length c2) bs ls ∧ Ls w' u' pubs ∧ ls.length ≤ c2 ∧ (u' = none → c' = 0)

set_option maxRecDepth 100000
end Go.Proofs.Ytpkjlnelkacbgaa
