/- The solutions of a system of equations, in plain words. -/
import Derived.Test.YtjnlnbkdnjainaaHPl3
import Derived.Test.YtjnlnbkdnjainaaHSlv
namespace Go.Proofs.Ytjnlnbkdnjainaa
open Go.RowKit Go.Sort

theorem fnd_ext {f g : Nat → Nat → Int} {c : Nat} : ∀ k s, (∀ i, i < s + k → f i c = g i c) → fnd f c k s = fnd g c k s
  | 0, s, _ => rfl
  | k + 1, s, h => by
    rw [fnd, fnd, h s (by omega), fnd_ext k (s + 1) (fun i hi => h i (by omega))]
theorem elS_ext {p : Int} {n m c : Nat} {s t : Es} (hc : c < m) (hl : s.piv.length ≤ n) (hp : s.piv = t.piv) (he : ∀ i j, i < n → j < m → s.f i j = t.f i j) :
    (elS p n c s).piv = (elS p n c t).piv ∧ ∀ i j, i < n → j < m → (elS p n c s).f i j = (elS p n c t).f i j := by
  have e1 : fnd s.f c (n - s.piv.length) s.piv.length = fnd t.f c (n - t.piv.length) t.piv.length := by
    rw [← hp]; exact fnd_ext _ _ (fun i hi => he i c (by omega) hc)
  by_cases hf : n ≤ fnd s.f c (n - s.piv.length) s.piv.length
  · rw [elS_none hf, elS_none (by rw [← e1]; exact hf)]; exact ⟨hp, he⟩
  · rw [elS_found hf, elS_found (by rw [← e1]; exact hf)]
    have hle := fnd_le s.f c (n - s.piv.length) s.piv.length
    rw [← e1, ← hp]
    generalize fnd s.f c (n - s.piv.length) s.piv.length = a at *
    generalize s.piv.length = top at *
    refine ⟨rfl, fun i j hi hj => ?_⟩
    have hs : ∀ i j, i < n → j < m → swp s.f top a i j = swp t.f top a i j := fun i j hi hj => by
      unfold swp
      split
      · exact he _ j (by omega) hj
      · split
        · exact he _ j (by omega) hj
        · exact he i j hi hj
    simp only [clr]
    rw [hs top j (by omega) hj, hs top c (by omega) hc, hs i j hi hj, hs i c hi hc]
theorem elR_ext {p : Int} {n m : Nat} {f g : Nat → Nat → Int} (hv : vld p = true) (hf : ∀ i j, i < n → j < m → 0 ≤ f i j ∧ f i j < p) (he : ∀ i j, i < n → j < m → f i j = g i j) : ∀ c, c ≤ m →
    (elR p n c f).piv = (elR p n c g).piv ∧ ∀ i j, i < n → j < m → (elR p n c f).f i j = (elR p n c g).f i j
  | 0, _ => ⟨rfl, he⟩
  | c + 1, hc => by
    rw [elR_next, elR_next]
    have ih := elR_ext hv hf he c (by omega)
    exact elS_ext (by omega) (elR_ok hv hf c).len ih.1 ih.2
theorem svf_free {f : Nat → Nat → Int} {piv : List Nat} {m j : Nat} (h : j ∉ piv) : ∀ k, k ≤ piv.length → svf f piv m k j = 0
  | 0, _ => rfl
  | k + 1, hk => by
    rw [svf, if_neg (fun e => h (by rw [e, List.getD, List.getElem?_eq_getElem (by omega)]; exact List.getElem_mem (by omega))), svf_free h k (by omega)]
theorem svf_piv {f : Nat → Nat → Int} {piv : List Nat} {m M : Nat} (h : Inc piv M) : ∀ k q, q < k → k ≤ piv.length → svf f piv m k (piv.getD q 0) = f q m
  | 0, q, hq, _ => absurd hq (by omega)
  | k + 1, q, hq, hk => by
    rw [svf]
    by_cases e : q = k
    · rw [e, if_pos rfl]
    · have := h.inc q k (by omega) (by omega)
      rw [if_neg (by omega)]
      exact svf_piv h k q (by omega) (by omega)
theorem kvf_free {p : Int} {f : Nat → Nat → Int} {piv : List Nat} {c j : Nat} (h : j ∉ piv) : ∀ k, k ≤ piv.length → kvf p f piv c k j = if j = c then 1 else 0
  | 0, _ => rfl
  | k + 1, hk => by
    rw [kvf, if_neg (fun e => h (by rw [e, List.getD, List.getElem?_eq_getElem (by omega)]; exact List.getElem_mem (by omega))), kvf_free h k (by omega)]
theorem kvf_at {p : Int} {f : Nat → Nat → Int} {piv : List Nat} {c M : Nat} (h : Inc piv M) : ∀ k q, q < k → k ≤ piv.length → kvf p f piv c k (piv.getD q 0) = fneg p (f q c)
  | 0, q, hq, _ => absurd hq (by omega)
  | k + 1, q, hq, hk => by
    rw [kvf]
    by_cases e : q = k
    · rw [e, if_pos rfl]
    · have := h.inc q k (by omega) (by omega)
      rw [if_neg (by omega)]
      exact kvf_at h k q (by omega) (by omega)
/-- The vector without its free elements of the first c columns. -/
def zF (p : Int) (f : Nat → Nat → Int) (piv : List Nat) (x : Nat → Int) : Nat → Nat → Int
  | 0, i => x i
  | c + 1, i => if c ∈ piv then zF p f piv x c i else fsub p (zF p f piv x c i) (fmul p (x c) (kvf p f piv c piv.length i))
section
variable {p : Int} {n m : Nat} {f : Nat → Nat → Int} {piv : List Nat} {fac : Int} {x : Nat → Int} (hv : vld p = true)
include hv
theorem zF_U (hx : ∀ i, U (x i)) : ∀ c i, U (zF p f piv x c i)
  | 0, i => hx i
  | c + 1, i => by
    rw [zF]
    split
    · exact zF_U hx c i
    · have := fsub_lt (a := zF p f piv x c i) (b := fmul p (x c) (kvf p f piv c piv.length i)) hv
      have := vld_pos hv
      exact ⟨by omega, by omega⟩
theorem zF_free {i : Nat} (hi : i ∉ piv) : ∀ c, cg p (zF p f piv x c i) (if i < c then 0 else x i)
  | 0 => cg.of_eq (by rw [zF, if_neg (by omega)])
  | c + 1 => by
    have ih := zF_free hi c
    rw [zF]
    by_cases e : c ∈ piv
    · have hne : i ≠ c := fun e2 => hi (by rw [e2]; exact e)
      rw [if_pos e]
      by_cases h : i < c
      · rw [if_pos h] at ih; rw [if_pos (by omega)]; exact ih
      · rw [if_neg h] at ih; rw [if_neg (by omega)]; exact ih
    · rw [if_neg e, kvf_free hi _ (Nat.le_refl _)]
      refine (cg_sub hv _ _).trans ((ih.sub (cg_mul hv _ _)).trans (cg.of_eq ?_))
      by_cases h : i = c
      · subst h
        rw [if_neg (Nat.lt_irrefl _), if_pos rfl, if_pos (by omega)]; omega
      · rw [if_neg h]
        by_cases h2 : i < c
        · rw [if_pos h2, if_pos (by omega)]; omega
        · rw [if_neg h2, if_neg (by omega)]; omega
theorem zF_piv (hi : Inc piv m) (h : Rf n m ⟨f, piv, fac⟩) {k : Nat} (hk : k < piv.length) (hkn : k < n) : ∀ c, c ≤ m → cg p (zF p f piv x c (piv.getD k 0)) (x (piv.getD k 0) + sm (fun j => f k j * x j) c - if piv.getD k 0 < c then x (piv.getD k 0) else 0)
  | 0, _ => cg.of_eq (by rw [zF, sm, if_neg (by omega)]; omega)
  | c + 1, hc => by
    have ih := zF_piv hi h hk hkn c (by omega)
    rw [zF, sm]
    by_cases e : c ∈ piv
    · rw [if_pos e]
      obtain ⟨q, hq, e2⟩ := List.getElem_of_mem e
      have e3 : piv.getD q 0 = c := by rw [List.getD, List.getElem?_eq_getElem hq, e2]; rfl
      have h1 := h.one k q hkn hq
      simp only at h1
      rw [e3] at h1
      rw [h1]
      by_cases e4 : k = q
      · subst e4
        rw [e3, if_neg (Nat.lt_irrefl _)] at ih
        rw [e3, if_pos rfl, if_pos (by omega)]
        exact ih.trans (cg.of_eq (by grind))
      · have hne : piv.getD k 0 ≠ c := fun e5 => by
          rw [← e3] at e5
          by_cases e6 : k < q
          · have := hi.inc k q e6 hq; omega
          · have := hi.inc q k (by omega) hk; omega
        rw [if_neg e4]
        by_cases h2 : piv.getD k 0 < c
        · rw [if_pos h2] at ih; rw [if_pos (by omega)]; exact ih.trans (cg.of_eq (by grind))
        · rw [if_neg h2] at ih; rw [if_neg (by omega)]; exact ih.trans (cg.of_eq (by grind))
    · have hne : piv.getD k 0 ≠ c := fun e5 => e (by rw [List.getD, List.getElem?_eq_getElem hk] at e5; rw [← e5]; exact List.getElem_mem hk)
      rw [if_neg e, kvf_at hi _ k hk (Nat.le_refl _)]
      refine (cg_sub hv _ _).trans ((ih.sub ((cg_mul hv _ _).trans ((cg.refl p _).mul (cg_neg hv _)))).trans (cg.of_eq ?_))
      by_cases h2 : piv.getD k 0 < c
      · rw [if_pos h2, if_pos (by omega)]; grind
      · rw [if_neg h2, if_neg (by omega)]; grind
end
section
variable {p : Int} {n m : Nat} {ls : List (List Int)} {x : List Int} (hv : vld p = true) (hn : ls.length = n) (hrow : ∀ l ∈ ls, l.length = m) (hx : x.length = m)
include hv hn hrow hx
omit hn hrow hx in
theorem sF_lt (b : List Int) (i j : Nat) : 0 ≤ sWd p m ls b i j ∧ sWd p m ls b i j < p := by
  have := vld_pos hv
  unfold sWd
  split
  · exact elF_lt (by omega) i j
  · exact ⟨Int.emod_nonneg _ (by omega), Int.emod_lt_of_pos _ (by omega)⟩
omit hn hrow hx in
theorem sol_piv (b : List Int) : (elR p n m (sWd p m ls b)).piv = (elR p n m (elF p ls)).piv ∧ ∀ i j, i < n → j < m → (elR p n m (sWd p m ls b)).f i j = (elR p n m (elF p ls)).f i j :=
  elR_ext hv (fun i j _ _ => sF_lt hv b i j) (fun i j _ hj => by unfold sWd; rw [if_pos hj]) m (Nat.le_refl _)
theorem sol_col : ∀ i, i < n → cg p ((elR p n m (sWd p m ls (mulV p ls x))).f i m) (sm (fun j => (elR p n m (elF p ls)).f i j * x.getD j 0) m) := by
  have h1 := (elR_sol (n := n) (m := m + 1) (f := sWd p m ls (mulV p ls x)) hv (fun i j _ _ => sF_lt hv _ i j) (m + 1) (fun j => if j < m then x.getD j 0 else -1) m (by omega)).2 (fun i hi => ?_)
  · intro i hi
    have h2 := h1 i hi
    unfold rowS at h2
    rw [sm] at h2
    simp only [if_neg (Nat.lt_irrefl m)] at h2
    rw [sm_congr (g := fun j => (elR p n m (elF p ls)).f i j * x.getD j 0) m (fun j hj => by
      rw [if_pos hj, (sol_piv hv _).2 i j hi hj])] at h2
    exact (cg.of_eq (by grind)).trans (((cg.refl p ((elR p n m (sWd p m ls (mulV p ls x))).f i m)).add h2).trans (cg.of_eq (b := (elR p n m (sWd p m ls (mulV p ls x))).f i m) (by omega)) |>.symm.trans (cg.of_eq (by grind)) |>.trans (cg.of_eq rfl))
  · unfold rowS
    rw [sm]
    simp only [if_neg (Nat.lt_irrefl m)]
    have hl : ls[i]? = some ls[i] := List.getElem?_eq_getElem (by omega)
    have h3 := ldot_row hv hl (hrow _ (List.getElem_mem (by omega))) (fun j => x.getD j 0) hx (fun j _ => cg.refl p _)
    have h4 : sWd p m ls (mulV p ls x) i m = (ldot p ls[i] x) % p := by
      unfold sWd
      rw [if_neg (by omega), mulV, List.getD, List.getElem?_map, hl]; rfl
    rw [h4]
    have h5 : sm (fun j => sWd p m ls (mulV p ls x) i j * if j < m then x.getD j 0 else -1) m = rowS (elF p ls) (fun j => x.getD j 0) m i :=
      sm_congr m (fun j hj => by rw [if_pos hj]; unfold sWd; rw [if_pos hj])
    rw [h5]
    exact ((h3.symm).add ((cg.mod p _).mul (cg.refl p (-1)))).trans (cg.of_eq (by omega))
theorem sol_ok : solB n m (elR p n m (sWd p m ls (mulV p ls x))) = true := by
  have h1 := sol_col hv hn hrow hx
  have h2 := elR_rf (n := n) (m := m) (f := elF p ls) hv (fun i j _ _ => elF_lt' hv i j) m (Nat.le_refl _)
  have h3 := elR_ok (n := n) (m := m + 1) (f := sWd p m ls (mulV p ls x)) hv (fun i j _ _ => sF_lt hv _ i j) m
  have hp := vld_pos hv
  unfold solB
  refine List.all_eq_true.2 fun k hk => ?_
  have hk := List.mem_range.1 hk
  simp only [Bool.or_eq_true, decide_eq_true_eq]
  by_cases e : k < (elR p n m (sWd p m ls (mulV p ls x))).piv.length
  · exact .inl e
  · refine .inr ?_
    rw [(sol_piv hv _).1] at e
    refine ((h1 k hk).trans (cg.of_eq ?_)).lt_eq (h3.el k m hk (by omega)) ⟨by omega, by omega⟩
    rw [sm_congr (g := fun _ => 0) m (fun j hj => by rw [h2.zero k j (by omega) hk hj]; simp), sm_zero]
theorem sol_z : ∀ i, i < m → (zF p (elR p n m (elF p ls)).f (elR p n m (elF p ls)).piv (fun j => x.getD j 0) m i) % p = (solL n m (elR p n m (sWd p m ls (mulV p ls x)))).getD i 0 := by
  have h1 := sol_col hv hn hrow hx
  have h2 := elR_rf (n := n) (m := m) (f := elF p ls) hv (fun i j _ _ => elF_lt' hv i j) m (Nat.le_refl _)
  have h3 := elR_ok (n := n) (m := m + 1) (f := sWd p m ls (mulV p ls x)) hv (fun i j _ _ => sF_lt hv _ i j) m
  have h4 := elR_inc p n (elF p ls) m
  have h5 := elR_ok (n := n) (m := m) (f := elF p ls) hv (fun i j _ _ => elF_lt' hv i j) m
  have hp := vld_pos hv
  intro i hi
  unfold solL
  rw [if_pos (sol_ok hv hn hrow hx), getD_map_range _ hi, (sol_piv hv _).1]
  by_cases e : i ∈ (elR p n m (elF p ls)).piv
  · obtain ⟨k, hk, e2⟩ := List.getElem_of_mem e
    have e3 : (elR p n m (elF p ls)).piv.getD k 0 = i := by rw [List.getD, List.getElem?_eq_getElem hk, e2]; rfl
    have hkn : k < n := by have := h5.len; omega
    have h6 := zF_piv (f := (elR p n m (elF p ls)).f) (piv := (elR p n m (elF p ls)).piv) (x := fun j => x.getD j 0) (fac := (elR p n m (elF p ls)).fac) hv h4 h2 hk hkn m (Nat.le_refl _)
    rw [e3, if_pos hi] at h6
    have h7 := svf_piv (f := (elR p n m (sWd p m ls (mulV p ls x))).f) (m := m) h4 _ k hk (Nat.le_refl _)
    rw [e3] at h7
    rw [h7]
    have h8 := (h6.trans (cg.of_eq (b := sm (fun j => (elR p n m (elF p ls)).f k j * x.getD j 0) m) (by omega))).trans (h1 k hkn).symm
    have h9 := h3.el k m hkn (by omega)
    rw [h8.emod, Int.emod_eq_of_lt h9.1 h9.2]
  · rw [svf_free e _ (Nat.le_refl _)]
    have h6 := zF_free (f := (elR p n m (elF p ls)).f) (x := fun j => x.getD j 0) hv e m
    rw [if_pos hi] at h6
    rw [h6.emod]; simp
end
end Go.Proofs.Ytjnlnbkdnjainaa
