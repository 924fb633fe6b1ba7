/- The matrix of the powers of the points, and its inverse, in plain words. -/
import Derived.Test.YtjnlnbkdnjainaaHTtp
namespace Go.Proofs.Ytjnlnbkdnjainaa
open Go.RowKit Go.Sort

theorem sm_split (f : Nat → Int) (a : Nat) : ∀ b, sm f (a + b) = sm f a + sm (fun k => f (a + k)) b
  | 0 => by simp [sm]
  | b + 1 => by rw [show a + (b + 1) = a + b + 1 by omega, sm, sm, sm_split f a b]; omega
theorem row_split {G : Nat → Nat → Int} {B : Nat → Nat → Int} {n i j : Nat} (hj : j < n) : rowS G (fun k => if k < n then B k j else if k - n = j then -1 else 0) (n + n) i = sm (fun k => G i k * B k j) n - G i (n + j) := by
  unfold rowS
  rw [sm_split]
  have e1 : sm (fun k => G i k * (if k < n then B k j else if k - n = j then -1 else 0)) n = sm (fun k => G i k * B k j) n := sm_congr n fun k hk => by rw [if_pos hk]
  have e2 : sm (fun k => G i (n + k) * (if n + k < n then B (n + k) j else if n + k - n = j then -1 else 0)) n = - G i (n + j) := by
    rw [sm_one (k := j) n (fun k _ hne => by rw [if_neg (by omega), if_neg (by omega), Int.mul_zero]), if_pos hj, if_neg (by omega), if_pos (by omega)]
    omega
  rw [e1, e2]; omega
section
variable {p w : Int} {n : Nat} {ls : List (List Int)} (hv : vld p = true) (hn6 : n ≤ 16) (h1 : 1 ≤ n) (hr : RootP p n w) (hl : ls.length = n) (hM : vldM ls = true) (hc : colsN ls = n) (hA : ∀ i k, i < n → k < n → cg p (lf ls i k) (w ^ (i * k)))
include hv h1 hr
theorem root_ne : ¬ cg p w 0 := fun hc => by
  have h2 := (hc.pow n).symm.trans hr.one
  rw [Int.zero_pow (by omega)] at h2
  have hp := vld_pos hv
  exact absurd (h2.lt_eq ⟨by omega, by omega⟩ ⟨by omega, by omega⟩) (by omega)
theorem root_wv : cg p (w * finv p w) 1 := cg_inv hv (root_ne hv h1 hr)
include hn6
omit hr in
theorem n_inv : cg p ((n : Int) * finv p n) 1 := by
  have hp := vld_pos hv
  exact cg_inv hv (cg_ne ⟨by omega, by omega⟩ (by omega))
include hA
theorem mat_AB : ∀ i j, i < n → j < n → cg p (sm (fun k => elF p ls i k * (finv p n * finv p w ^ (k * j))) n) (if i = j then 1 else 0) := by
  intro i j hi hj
  have h2 : cg p (sm (fun k => elF p ls i k * (finv p n * finv p w ^ (k * j))) n) (sm (fun k => finv p n * (w ^ (i * k) * finv p w ^ (k * j))) n) := sm_cg n fun k hk =>
    (((lf_elF p ls i k).symm.trans (hA i k hi hk)).mul (cg.refl p _)).trans (cg.of_eq (by grind))
  rw [sm_mul] at h2
  refine h2.trans (((cg.refl p _).mul (orth hv hr (root_wv hv h1 hr) hi hj)).trans ?_)
  by_cases e : i = j
  · rw [if_pos e, if_pos e]
    exact (cg.of_eq (Int.mul_comm _ _)).trans (n_inv hv hn6 h1)
  · rw [if_neg e, if_neg e]; exact cg.of_eq (Int.mul_zero _)
include hl hM hc
theorem mat_full : (elR p n n (elF p ls)).piv.length = n ∧ detE p ls ≠ 0 := by
  have hp := vld_pos hv
  have h2 := det_mm (n := n) (f := elF p ls) hv (fun i j _ _ => elF_lt' hv i j) (fun k j => finv p n * finv p w ^ (k * j))
  have h3 := dt_cg p n _ _ (fun i j hi hj => mat_AB hv hn6 h1 hr hA i j hi hj)
  rw [dt_id] at h3
  have h4 := h3.symm.trans h2
  have e : detE p ls = if (elR p n n (elF p ls)).piv.length = n then (elR p n n (elF p ls)).fac else 0 := by
    unfold detE; rw [hv, hM, hl, hc]; simp
  have hne : detE p ls ≠ 0 := fun h0 => by
    rw [← e, h0, Int.zero_mul] at h4
    exact absurd (h4.lt_eq ⟨by omega, by omega⟩ ⟨by omega, by omega⟩) (by omega)
  refine ⟨?_, hne⟩
  by_cases h5 : (elR p n n (elF p ls)).piv.length = n
  · exact h5
  · rw [if_neg h5] at e; exact absurd e hne
theorem mat_inv : (elR p n n (iF p n ls)).piv.length = n ∧ ∀ i j, i < n → j < n → cg p ((elR p n n (iF p n ls)).f i (n + j)) (finv p n * finv p w ^ (i * j)) := by
  have hlt : ∀ i j, i < n → j < n + n → 0 ≤ iF p n ls i j ∧ iF p n ls i j < p := fun i j _ _ => iF_lt hv n ls i j
  have he := (elR_ext (n := n) (m := n) (f := iF p n ls) (g := elF p ls) hv (fun i j _ _ => iF_lt hv n ls i j) (fun i j _ hj => by unfold iF; rw [if_pos hj]) n (Nat.le_refl _)).1
  have hfull : (elR p n n (iF p n ls)).piv.length = n := by rw [he]; exact (mat_full hv hn6 h1 hr hl hM hc hA).1
  refine ⟨hfull, ?_⟩
  have hrf := elR_rf (n := n) (m := n + n) (f := iF p n ls) hv hlt n (by omega)
  have hinc := elR_inc p n (iF p n ls) n
  have hAB := mat_AB hv hn6 h1 hr hA
  have hsol := fun y => elR_sol (n := n) (m := n + n) (f := iF p n ls) hv hlt (n + n) y n (by omega)
  have hG1 : ∀ i k, k < n → iF p n ls i k = elF p ls i k := fun i k hk => by unfold iF; rw [if_pos hk]
  have hG2 : ∀ i j, iF p n ls i (n + j) = if j = i then 1 else 0 := fun i j => by
    unfold iF; rw [if_neg (by omega), Nat.add_sub_cancel_left]
  generalize elR p n n (iF p n ls) = es at *
  generalize iF p n ls = G at *
  intro i j hi hj
  have hid : ∀ k, k < n → es.f i k = if i = k then 1 else 0 := fun k hk => by
    have := hrf.one i k hi (by omega)
    rwa [hinc.all hfull hk] at this
  have hs := (hsol (fun k => if k < n then finv p n * finv p w ^ (k * j) else if k - n = j then -1 else 0)).2 (fun k hk => by
    rw [row_split (G := G) (B := fun k j => finv p n * finv p w ^ (k * j)) hj, hG2, sm_congr (g := fun r => elF p ls k r * (finv p n * finv p w ^ (r * j))) n (fun r hr => by rw [hG1 k r hr])]
    have h5 := hAB k j hk hj
    have e : (if j = k then (1 : Int) else 0) = if k = j then 1 else 0 := by by_cases h : j = k <;> simp [h, eq_comm]
    rw [e]
    exact (h5.sub (cg.refl p _)).trans (cg.of_eq (Int.sub_self _))) i hi
  rw [row_split (G := es.f) (B := fun k j => finv p n * finv p w ^ (k * j)) hj, sm_one (k := i) n (fun k hk hne => by rw [hid k hk, if_neg (fun h => hne h.symm), Int.zero_mul]), if_pos hi, hid i hi, if_pos rfl] at hs
  have h6 := hs.add (cg.refl p (es.f i (n + j)))
  exact ((cg.of_eq (by omega)).trans (h6.trans (cg.of_eq (Int.zero_add _)))).symm
end
theorem vlF_lt {p : Int} (hv : vld p = true) : ∀ d a w, (∀ i, 0 ≤ a i ∧ a i < p) → ∀ j, 0 ≤ vlF p d a w j ∧ vlF p d a w j < p
  | 0, a, _, h, j => h j
  | d + 1, a, w, h, j => by
    unfold vlF
    split
    · exact fadd_lt5 hv
    · exact fsub_lt hv
section
variable {p w : Int} {n d : Nat} {a : List Int} (hv : vld p = true) (hnd : 2 ^ d = n) (hr : RootP p n w) (ha : a.length = n)
include hv hnd hr ha
/-- A row of the powers of a point times the coefficients is the value at the point. -/
theorem apply_fwd {l : List Int} {i : Nat} (hi : i < n) (hl : l.length = n) (hA : ∀ k, k < n → cg p (l.getD k 0) (w ^ (i * k))) : ldot p l a = vlF p d (fun j => (a.getD j 0) % p) w i := by
  have hp := vld_pos hv
  subst hnd
  refine cg.lt_eq ?_ (ldot_lt hv _ _) (vlF_lt hv d _ _ (fun j => ⟨Int.emod_nonneg _ (by omega), Int.emod_lt_of_pos _ (by omega)⟩) i)
  refine (ldot_full hv hl ha).trans (cg.symm ((vl_cg hv d _ w hr i hi).trans (sm_cg _ fun k hk => ?_)))
  exact ((cg.mod p _).mul (hA k hk).symm).trans (cg.of_eq (Int.mul_comm _ _))
theorem apply_inv {l : List Int} {i : Nat} (hi : i < n) (h1 : 1 ≤ n) (hl : l.length = n) (hV : ∀ j, j < n → cg p (l.getD j 0) (finv p n * finv p w ^ (i * j))) : ldot p l a = fmul p (vlF p d (fun j => (a.getD j 0) % p) (finv p w) i) (finv p n) := by
  have hp := vld_pos hv
  have hri := root_inv hr (root_wv hv h1 hr)
  subst hnd
  refine cg.lt_eq ?_ (ldot_lt hv _ _) (fmul_lt hv)
  refine (ldot_full hv hl ha).trans (cg.symm ((cg_mul hv _ _).trans (((vl_cg hv d _ (finv p w) hri i hi).mul (cg.refl p _)).trans ?_)))
  rw [Int.mul_comm, ← sm_mul]
  refine sm_cg _ fun k hk => ?_
  exact ((cg.refl p _).mul ((cg.mod p _).mul (cg.refl p _))).trans ((cg.of_eq (by grind)).trans ((hV k hk).symm.mul (cg.refl p (a.getD k 0))))
end
end Go.Proofs.Ytjnlnbkdnjainaa
