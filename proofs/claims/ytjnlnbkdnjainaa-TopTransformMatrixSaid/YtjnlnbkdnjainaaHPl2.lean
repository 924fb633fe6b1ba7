/- Elimination in plain words: the form that it reaches, and that it keeps the solutions. -/
import Derived.Test.YtjnlnbkdnjainaaHPl1
namespace Go.Proofs.Ytjnlnbkdnjainaa

/-- The form behind c columns. -/
structure Rf (n c : Nat) (s : Es) : Prop where
  one : ∀ i k, i < n → k < s.piv.length → s.f i (s.piv.getD k 0) = if i = k then 1 else 0
  zero : ∀ i j, s.piv.length ≤ i → i < n → j < c → s.f i j = 0
theorem fmul_zero_l {p a : Int} (hv : vld p = true) : fmul p 0 a = 0 := by unfold fmul; rw [if_pos hv]; simp
theorem fmul_zero_r {p a : Int} (hv : vld p = true) : fmul p a 0 = 0 := by unfold fmul; rw [if_pos hv]; simp
theorem fsub_zero_r {p a : Int} (hv : vld p = true) (ha : 0 ≤ a ∧ a < p) : fsub p a 0 = a := by unfold fsub; rw [if_pos hv, Int.sub_zero, Int.emod_eq_of_lt ha.1 ha.2]
theorem getD_snoc (l : List Nat) (c k : Nat) : (l ++ [c]).getD k 0 = if k < l.length then l.getD k 0 else if k = l.length then c else 0 := by
  rw [List.getD, List.getD]
  by_cases h : k < l.length
  · rw [if_pos h, List.getElem?_append_left h]
  · rw [if_neg h, List.getElem?_append_right (by omega)]
    by_cases e : k = l.length
    · subst e; simp
    · rw [if_neg e, List.getElem?_eq_none (by simp; omega)]; rfl
/-- The parts of a step that finds a pivot. -/
theorem elS_found {p : Int} {n c : Nat} {s : Es} (h : ¬ n ≤ fnd s.f c (n - s.piv.length) s.piv.length) :
    elS p n c s = ⟨clr p (swp s.f s.piv.length (fnd s.f c (n - s.piv.length) s.piv.length)) s.piv.length c, s.piv ++ [c], fmul p (if fnd s.f c (n - s.piv.length) s.piv.length = s.piv.length then s.fac else fneg p s.fac) (swp s.f s.piv.length (fnd s.f c (n - s.piv.length) s.piv.length) s.piv.length c)⟩ := by
  unfold elS; simp only []; rw [if_neg h]
theorem elS_none {p : Int} {n c : Nat} {s : Es} (h : n ≤ fnd s.f c (n - s.piv.length) s.piv.length) : elS p n c s = s := by
  unfold elS; simp only []; rw [if_pos h]
theorem swp_top (f : Nat → Nat → Int) (a b : Nat) : swp f a b a = f b := by
  unfold swp; by_cases h : a = b
  · subst h; simp
  · simp [h]
section
variable {p : Int} {n m c : Nat} {s : Es} (hv : vld p = true) (hok : EsOk p n m c s) (hc : c < m) (hi : Inc s.piv c) (h : Rf n c s)
include hv hok hc hi h
theorem elS_rf : Rf n (c + 1) (elS p n c s) := by
  by_cases hf : n ≤ fnd s.f c (n - s.piv.length) s.piv.length
  · rw [elS_none hf]
    refine ⟨h.one, fun i j h1 h2 h3 => ?_⟩
    by_cases e : j = c
    · subst e; exact fnd_zero s.f j (n - s.piv.length) _ i h1 (by omega)
    · exact h.zero i j h1 h2 (by omega)
  · rw [elS_found hf]
    have hle := fnd_le s.f c (n - s.piv.length) s.piv.length
    have hne := fnd_ne s.f c (n - s.piv.length) s.piv.length (by omega)
    generalize fnd s.f c (n - s.piv.length) s.piv.length = a at *
    have htop : s.piv.length < n := by omega
    have h1 : ∀ i k, i < n → k < s.piv.length → swp s.f s.piv.length a i (s.piv.getD k 0) = if i = k then 1 else 0 := by
      intro i k hi2 hk
      unfold swp
      split
      · rename_i e; subst e; rw [h.one _ k htop hk, if_neg (by omega), if_neg (by omega)]
      · split
        · rename_i e; subst e; rw [h.one _ k (by omega) hk, if_neg (by omega), if_neg (by omega)]
        · exact h.one i k hi2 hk
    have h2 : ∀ i j, s.piv.length ≤ i → i < n → j < c → swp s.f s.piv.length a i j = 0 := by
      intro i j h3 h4 h5
      unfold swp
      split
      · exact h.zero _ j (Nat.le_refl _) htop h5
      · split
        · exact h.zero _ j hle.1 (by omega) h5
        · exact h.zero i j h3 h4 h5
    have h3 := swp_ok hok.el htop (show a < n by omega)
    have h4 : swp s.f s.piv.length a s.piv.length c ≠ 0 := by rw [swp_top]; exact hne
    generalize swp s.f s.piv.length a = g at *
    have hx : ¬ cg p (g s.piv.length c) 0 := cg_ne (h3 _ _ htop hc) h4
    have hp := vld_pos hv
    have e1 : fmul p (g s.piv.length c) (finv p (g s.piv.length c)) = 1 := by
      refine (((cg_mul hv _ _).trans (cg_inv hv hx)).lt_eq (fmul_lt hv) ⟨by omega, by omega⟩)
    have e2 : ∀ j, j < c → fmul p (g s.piv.length j) (finv p (g s.piv.length c)) = 0 := fun j hj => by rw [h2 _ j (Nat.le_refl _) htop hj, fmul_zero_l hv]
    have e3 : ∀ i, fsub p (g i c) (fmul p (g i c) 1) = 0 := fun i => by
      refine (((cg_sub hv _ _).trans ((cg.refl p _).sub ((cg_mul hv _ _).trans (cg.of_eq (Int.mul_one _))))).trans (cg.of_eq (Int.sub_self _))).lt_eq (fsub_lt hv) ⟨by omega, by omega⟩
    refine ⟨fun i k hi2 hk => ?_, fun i j h5 h6 h7 => ?_⟩
    · simp only [List.length_append, List.length_singleton] at hk
      simp only [getD_snoc, clr]
      by_cases hk2 : k < s.piv.length
      · rw [if_pos hk2]
        have hq := hi.lt k hk2
        rw [e2 _ hq]
        by_cases e : i = s.piv.length
        · rw [if_pos e, if_neg (by omega)]
        · rw [if_neg e, fmul_zero_r hv, fsub_zero_r hv (h3 i _ hi2 (by omega)), h1 i k hi2 hk2]
      · have ek : k = s.piv.length := by omega
        subst ek
        rw [if_neg (Nat.lt_irrefl _), if_pos rfl, e1]
        by_cases e : i = s.piv.length
        · rw [if_pos e, if_pos e]
        · rw [if_neg e, if_neg e, e3]
    · simp only [List.length_append, List.length_singleton] at h5
      simp only [clr]
      rw [if_neg (by omega)]
      by_cases e : j = c
      · subst e; rw [e1, e3]
      · rw [e2 j (by omega), fmul_zero_r hv, h2 i j (by omega) h6 (by omega), fsub_zero_r hv ⟨by omega, by omega⟩]
end
theorem elR_rf {p : Int} {n m : Nat} {f : Nat → Nat → Int} (hv : vld p = true) (hf : ∀ i j, i < n → j < m → 0 ≤ f i j ∧ f i j < p) : ∀ c, c ≤ m → Rf n c (elR p n c f)
  | 0, _ => ⟨fun i k _ hk => by simp [elR] at hk, fun i j _ _ hj => absurd hj (by omega)⟩
  | c + 1, hc => by
    rw [elR_next]
    exact elS_rf hv (elR_ok hv hf c) (by omega) (elR_inc p n f c) (elR_rf hv hf c (by omega))
/-! ### the solutions -/
def rowS (f : Nat → Nat → Int) (y : Nat → Int) (M i : Nat) : Int := sm (fun j => f i j * y j) M
section
variable {p : Int} (hv : vld p = true) (f : Nat → Nat → Int) (y : Nat → Int) (M top c : Nat)
include hv
theorem row_top : cg p (rowS (clr p f top c) y M top) (finv p (f top c) * rowS f y M top) := by
  unfold rowS
  rw [← sm_mul]
  refine sm_cg M fun j _ => ?_
  simp only [clr, if_true]
  exact ((cg_mul hv _ _).mul (cg.refl p _)).trans (cg.of_eq (by grind))
theorem row_other {i : Nat} (hne : i ≠ top) : cg p (rowS (clr p f top c) y M i) (rowS f y M i - f i c * rowS (clr p f top c) y M top) := by
  unfold rowS
  rw [← sm_mul, ← sm_sub]
  refine sm_cg M fun j _ => ?_
  simp only [clr, if_neg hne, if_true]
  refine (((cg_sub hv _ _).trans ((cg.refl p _).sub (cg_mul hv _ _))).mul (cg.refl p _)).trans (cg.of_eq ?_)
  grind
end
theorem swp_row (f : Nat → Nat → Int) (a b i : Nat) : swp f a b (if i = b then a else if i = a then b else i) = f i := by
  unfold swp
  by_cases h1 : i = b
  · subst h1
    by_cases h2 : a = i
    · simp [h2]
    · simp [h2]
  · by_cases h2 : i = a
    · subst h2; simp [h1]
    · simp [h1, h2]
theorem elS_sol {p : Int} {n c : Nat} {s : Es} (hv : vld p = true) (M : Nat) (y : Nat → Int) (hx : ∀ i, i < n → s.f i c ≠ 0 → ¬ cg p (s.f i c) 0) :
    (∀ i, i < n → cg p (rowS (elS p n c s).f y M i) 0) ↔ ∀ i, i < n → cg p (rowS s.f y M i) 0 := by
  by_cases hf : n ≤ fnd s.f c (n - s.piv.length) s.piv.length
  · rw [elS_none hf]
  · rw [elS_found hf]
    have hle := fnd_le s.f c (n - s.piv.length) s.piv.length
    have hne := fnd_ne s.f c (n - s.piv.length) s.piv.length (by omega)
    generalize fnd s.f c (n - s.piv.length) s.piv.length = a at *
    generalize s.piv.length = top at *
    have hinv : ¬ cg p (swp s.f top a top c) 0 := by rw [swp_top]; exact hx a (by omega) hne
    have hrow := fun i => swp_row s.f top a i
    simp only
    have ht : top < n := by omega
    constructor
    · intro h i hi
      have h0 := h top ht
      have e1 := row_top hv (swp s.f top a) y M top c
      have ht0 : cg p (rowS (swp s.f top a) y M top) 0 := by
        have h5 : cg p (swp s.f top a top c * finv p (swp s.f top a top c) * rowS (swp s.f top a) y M top) 0 :=
          (cg.of_eq (Int.mul_assoc _ _ _)).trans (((cg.refl p _).mul (e1.symm.trans h0)).trans (cg.of_eq (Int.mul_zero _)))
        exact (((cg_inv hv hinv).mul (cg.refl p _)).trans (cg.of_eq (Int.one_mul _))).symm.trans h5
      have hall : ∀ k, k < n → cg p (rowS (swp s.f top a) y M k) 0 := fun k hk => by
        by_cases e : k = top
        · rw [e]; exact ht0
        · have e2 := row_other hv (swp s.f top a) y M top c e
          have h6 := (e2.symm.trans (h k hk)).add (((cg.refl p (swp s.f top a k c)).mul h0).trans (cg.of_eq (Int.mul_zero _)))
          exact (cg.of_eq (by grind)).trans (h6.trans (cg.of_eq (by grind)))
      have := hall (if i = a then top else if i = top then a else i) (by split; exact ht; split <;> omega)
      unfold rowS at this ⊢
      rw [hrow i] at this; exact this
    · intro h i hi
      have hall : ∀ k, k < n → cg p (rowS (swp s.f top a) y M k) 0 := fun k hk => by
        unfold rowS swp
        split
        · exact h top ht
        · split
          · exact h a (by omega)
          · exact h k hk
      have e1 := row_top hv (swp s.f top a) y M top c
      have h0 : cg p (rowS (clr p (swp s.f top a) top c) y M top) 0 := e1.trans (((cg.refl p _).mul (hall top ht)).trans (cg.of_eq (Int.mul_zero _)))
      by_cases e : i = top
      · rw [e]; exact h0
      · have e2 := row_other hv (swp s.f top a) y M top c e
        exact e2.trans (((hall i hi).sub (((cg.refl p (swp s.f top a i c)).mul h0).trans (cg.of_eq (Int.mul_zero _)))).trans (cg.of_eq (by grind)))
theorem elR_sol {p : Int} {n m : Nat} {f : Nat → Nat → Int} (hv : vld p = true) (hf : ∀ i j, i < n → j < m → 0 ≤ f i j ∧ f i j < p) (M : Nat) (y : Nat → Int) : ∀ c, c ≤ m →
    ((∀ i, i < n → cg p (rowS (elR p n c f).f y M i) 0) ↔ ∀ i, i < n → cg p (rowS f y M i) 0)
  | 0, _ => Iff.rfl
  | c + 1, hc => by
    rw [elR_next, elS_sol hv M y (fun i hi hne => cg_ne ((elR_ok hv hf c).el i c hi (by omega)) hne)]
    exact elR_sol hv hf M y c (by omega)
/-! ### the kernel -/
section
variable {p : Int} {n m : Nat} {f : Nat → Nat → Int} {piv : List Nat} {fac : Int} (hv : vld p = true) (hi : Inc piv m) (h : Rf n m ⟨f, piv, fac⟩) {c : Nat} (hc : c < m) (hfree : c ∉ piv)
include hi hfree
theorem kvf_piv : ∀ k q, k ≤ q → q < piv.length → kvf p f piv c k (piv.getD q 0) = 0
  | 0, q, _, hq => by
    have : piv.getD q 0 ≠ c := fun e => hfree (by rw [List.getD, List.getElem?_eq_getElem hq] at e; rw [← e]; exact List.getElem_mem hq)
    rw [kvf, if_neg this]
  | k + 1, q, hk, hq => by
    have := hi.inc k q (by omega) hq
    rw [kvf, if_neg (by omega)]
    exact kvf_piv k q (by omega) hq
include hv h hc
theorem ker_sum {i : Nat} (hin : i < n) : ∀ k, k ≤ piv.length → cg p (rowS f (kvf p f piv c k) m i) (f i c - if i < k then f i c else 0)
  | 0, _ => by
    refine cg.of_eq ?_
    unfold rowS
    rw [sm_one (k := c) m (fun j _ hne => by rw [kvf, if_neg hne, Int.mul_zero]), if_pos hc, kvf, if_pos rfl, if_neg (by omega)]
    omega
  | k + 1, hk => by
    have ih := ker_sum hin k (by omega)
    have hq := hi.lt k (by omega)
    have h1 := h.one i k hin (by show k < piv.length; omega)
    simp only at h1
    unfold rowS at ih ⊢
    rw [sm_set (g := fun j => f i j * kvf p f piv c k j) hq (fun j _ hne => by rw [kvf, if_neg hne]), kvf_piv hi hfree k k (Nat.le_refl _) (by omega), kvf, if_pos rfl]
    by_cases e : i = k
    · subst e
      rw [if_pos rfl] at h1
      rw [if_neg (by omega)] at ih
      rw [h1, if_pos (by omega)]
      exact (ih.add (((cg.refl p 1).mul (cg_neg hv _)).sub (cg.refl p _))).trans (cg.of_eq (by grind))
    · rw [if_neg e] at h1
      rw [h1]
      have e2 : (if i < k + 1 then f i c else 0) = if i < k then f i c else 0 := by
        by_cases h3 : i < k
        · rw [if_pos h3, if_pos (by omega)]
        · rw [if_neg h3, if_neg (by omega)]
      rw [e2]
      exact (ih.add (cg.refl p _)).trans (cg.of_eq (by grind))
theorem ker_zero {i : Nat} (hin : i < n) : cg p (rowS f (kvf p f piv c piv.length) m i) 0 := by
  refine (ker_sum hv hi h hc hfree hin piv.length (Nat.le_refl _)).trans (cg.of_eq ?_)
  by_cases e : i < piv.length
  · rw [if_pos e]; omega
  · have h0 := h.zero i c (by show piv.length ≤ i; omega) hin hc
    simp only at h0
    rw [if_neg e, h0]; rfl
end
end Go.Proofs.Ytjnlnbkdnjainaa
