/- The product of a matrix and a vector of its kernel is 0. -/
import Derived.Test.YtjnlnbkdnjainaaHPl2
import Derived.Test.YtjnlnbkdnjainaaHRap
namespace Go.Proofs.Ytjnlnbkdnjainaa

theorem foldl_lt {α : Type} {p : Int} (g : Int → α → Int) (h : ∀ s x, 0 ≤ g s x ∧ g s x < p) : ∀ (l : List α) (s : Int), 0 ≤ s ∧ s < p → 0 ≤ l.foldl g s ∧ l.foldl g s < p
  | [], s, hs => hs
  | x :: l, s, _ => by rw [List.foldl_cons]; exact foldl_lt g h l _ (h s x)
theorem ldot_lt {p : Int} (hv : vld p = true) (l1 l2 : List Int) : 0 ≤ ldot p l1 l2 ∧ ldot p l1 l2 < p := by
  have hp := vld_pos hv
  refine foldl_lt _ (fun s x => ?_) _ 0 ⟨by omega, by omega⟩
  unfold fadd; rw [if_pos hv]; exact ⟨Int.emod_nonneg _ (by omega), Int.emod_lt_of_pos _ (by omega)⟩
/-- A row times a vector. -/
theorem ldot_row {p : Int} (hv : vld p = true) {ls : List (List Int)} {l : List Int} {i m : Nat} (hl : ls[i]? = some l) (hlm : l.length = m) (y : Nat → Int) {x : List Int} (hx : x.length = m) (e : ∀ j, j < m → cg p (x.getD j 0) (y j)) : cg p (ldot p l x) (rowS (elF p ls) y m i) := by
  refine (ldot_full hv hlm hx).trans (sm_cg m fun j hj => ?_)
  have : ls.getD i [] = l := by rw [List.getD, hl]; rfl
  simp only [elF, this]
  exact (cg.mod p _).symm.mul (e j hj)
theorem elF_lt' {p : Int} {ls : List (List Int)} (hv : vld p = true) (i j : Nat) : 0 ≤ elF p ls i j ∧ elF p ls i j < p := by
  have := vld_pos hv
  exact elF_lt (by omega) i j
theorem getD_map_range {m j : Nat} (f : Nat → Int) (hj : j < m) : ((List.range m).map f).getD j 0 = f j := by
  rw [List.getD, List.getElem?_map, List.getElem?_range hj]; rfl
theorem ker_apply {p : Int} {n m : Nat} {ls : List (List Int)} (hv : vld p = true) (hn : ls.length = n) (hm : ∀ l ∈ ls, l.length = m) : ∀ x ∈ kerL p m (elR p n m (elF p ls)).f (elR p n m (elF p ls)).piv, x.length = m ∧ ∀ v ∈ mulV p ls x, v = 0 := by
  intro x hx
  obtain ⟨c, hc, rfl⟩ := List.mem_map.1 hx
  simp only [frees, List.mem_filter, List.mem_range, decide_eq_true_eq] at hc
  refine ⟨kerR_len _ _ _ _ _, fun v hvm => ?_⟩
  obtain ⟨l, hl, rfl⟩ := List.mem_map.1 hvm
  obtain ⟨i, hil, e⟩ := List.getElem_of_mem hl
  have hp := vld_pos hv
  have h1 := ldot_row hv (List.getElem?_eq_some_iff.2 ⟨hil, e⟩) (hm l hl) (kvf p (elR p n m (elF p ls)).f (elR p n m (elF p ls)).piv c (elR p n m (elF p ls)).piv.length) (x := kerR p m (elR p n m (elF p ls)).f (elR p n m (elF p ls)).piv c) (kerR_len _ _ _ _ _) (fun j hj => cg.of_eq (getD_map_range _ hj))
  have h2 := (elR_sol (n := n) (m := m) (f := elF p ls) hv (fun i j _ _ => elF_lt' hv i j) m (kvf p (elR p n m (elF p ls)).f (elR p n m (elF p ls)).piv c (elR p n m (elF p ls)).piv.length) m (Nat.le_refl _)).1 (fun k hk => ker_zero (fac := (elR p n m (elF p ls)).fac) hv (elR_inc p n (elF p ls) m) (elR_rf hv (fun i j _ _ => elF_lt' hv i j) m (Nat.le_refl _)) hc.1 hc.2 hk)
  exact (h1.trans (h2 i (by omega))).lt_eq (ldot_lt hv _ _) ⟨by omega, by omega⟩
end Go.Proofs.Ytjnlnbkdnjainaa
