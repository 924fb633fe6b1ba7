/- Elements of the extension as matrices, in plain words. -/
import Derived.Test.YtjnlnbkdnjainaaHTem
import Derived.Test.YtjnlnbkdnjainaaHPl6
import Derived.Test.YtjnlnbkdnjainaaHPl5
import Derived.Test.YtjnlnbkdnjainaaHExtl
namespace Go.Proofs.Ytjnlnbkdnjainaa
open Go.RowKit Go.Sort

theorem cg_red {p : Int} (hv : vld p = true) (a : Int) : cg p (fred p a) a := by unfold fred; rw [if_pos hv]; exact cg.mod _ _
theorem fred_lt {p a : Int} (hv : vld p = true) : 0 ≤ fred p a ∧ fred p a < p := by
  have := vld_pos hv
  unfold fred; rw [if_pos hv]; exact ⟨Int.emod_nonneg _ (by omega), Int.emod_lt_of_pos _ (by omega)⟩
theorem fadd_lt5 {p a b : Int} (hv : vld p = true) : 0 ≤ fadd p a b ∧ fadd p a b < p := by
  have := vld_pos hv
  unfold fadd; rw [if_pos hv]; exact ⟨Int.emod_nonneg _ (by omega), Int.emod_lt_of_pos _ (by omega)⟩
section
variable {p : Int} (hv : vld p = true)
include hv
theorem em_ent (a b : Int × Int) : ∀ i j, i < 2 → j < 2 → cg p (sm (fun k => lf (emL p a) i k * lf (emL p b) k j) 2) (lf (emL p (xmul p a b)) i j) := by
  intro i j hi hj
  have e : sm (fun k => lf (emL p a) i k * lf (emL p b) k j) 2 = lf (emL p a) i 0 * lf (emL p b) 0 j + lf (emL p a) i 1 * lf (emL p b) 1 j := by simp [sm]
  rw [e]
  have a1 := cg_red hv a.1
  have a2 := cg_red hv a.2
  have b1 := cg_red hv b.1
  have b2 := cg_red hv b.2
  have ag := cg_mul hv a.2 (gen p)
  have bg := cg_mul hv b.2 (gen p)
  have m1 : cg p (xmul p a b).1 (a.1 * b.1 + gen p * (a.2 * b.2)) := (cg_add hv _ _).trans ((cg_mul hv _ _).add ((cg_mul hv _ _).trans ((cg.refl p _).mul (cg_mul hv _ _))))
  have m2 : cg p (xmul p a b).2 (a.1 * b.2 + a.2 * b.1) := (cg_add hv _ _).trans ((cg_mul hv _ _).add (cg_mul hv _ _))
  match i, j, hi, hj with
  | 0, 0, _, _ =>
    show cg p (fred p a.1 * fred p b.1 + fmul p a.2 (gen p) * fred p b.2) (fred p (xmul p a b).1)
    exact ((a1.mul b1).add (ag.mul b2)).trans ((cg.of_eq (by grind)).trans (m1.symm.trans (cg_red hv _).symm))
  | 0, 1, _, _ =>
    show cg p (fred p a.1 * fmul p b.2 (gen p) + fmul p a.2 (gen p) * fred p b.1) (fmul p (xmul p a b).2 (gen p))
    exact ((a1.mul bg).add (ag.mul b1)).trans ((cg.of_eq (b := (a.1 * b.2 + a.2 * b.1) * gen p) (by grind)).trans ((m2.symm.mul (cg.refl p _)).trans (cg_mul hv _ _).symm))
  | 1, 0, _, _ =>
    show cg p (fred p a.2 * fred p b.1 + fred p a.1 * fred p b.2) (fred p (xmul p a b).2)
    exact ((a2.mul b1).add (a1.mul b2)).trans ((cg.of_eq (by grind)).trans (m2.symm.trans (cg_red hv _).symm))
  | 1, 1, _, _ =>
    show cg p (fred p a.2 * fmul p b.2 (gen p) + fred p a.1 * fred p b.1) (fred p (xmul p a b).1)
    exact ((a2.mul bg).add (a1.mul b1)).trans ((cg.of_eq (by grind)).trans (m1.symm.trans (cg_red hv _).symm))
theorem em_lt (a : Int × Int) : ∀ i j, i < 2 → j < 2 → 0 ≤ lf (emL p a) i j ∧ lf (emL p a) i j < p := by
  intro i j hi hj
  match i, j, hi, hj with
  | 0, 0, _, _ => exact fred_lt hv
  | 0, 1, _, _ => exact fmul_lt hv
  | 1, 0, _, _ => exact fred_lt hv
  | 1, 1, _, _ => exact fred_lt hv
theorem em_mul (a b : Int × Int) : matL 2 2 (msF p (lf (emL p a)) (lf (emL p b)) 2) = emL p (xmul p a b) := by
  have h : ∀ i j, i < 2 → j < 2 → msF p (lf (emL p a)) (lf (emL p b)) 2 i j = lf (emL p (xmul p a b)) i j := fun i j hi hj =>
    ((msP_cg hv _ _ i j 2).trans (em_ent hv a b i j hi hj)).lt_eq (fadd_lt5 hv) (em_lt hv _ i j hi hj)
  show [[msF p (lf (emL p a)) (lf (emL p b)) 2 0 0, msF p (lf (emL p a)) (lf (emL p b)) 2 0 1], [msF p (lf (emL p a)) (lf (emL p b)) 2 1 0, msF p (lf (emL p a)) (lf (emL p b)) 2 1 1]] = _
  rw [h 0 0 (by omega) (by omega), h 0 1 (by omega) (by omega), h 1 0 (by omega) (by omega), h 1 1 (by omega) (by omega)]
  rfl
omit hv in
theorem em_vld (a : Int × Int) : vldM (emL p a) = true := by rfl
omit hv in
theorem dt2 (f : Nat → Nat → Int) : dt 2 f = f 0 0 * f 1 1 - f 1 0 * f 0 1 := by
  simp [dt, sm, sg, mnr]
  grind
theorem xnorm_lt (a : Int × Int) : 0 ≤ xnorm p a ∧ xnorm p a < p := fsub_lt hv
theorem em_det (a : Int × Int) : detE p (emL p a) = xnorm p a := by
  obtain ⟨h1, h2⟩ := detE_cg (ls := emL p a) (n := 2) hv rfl rfl rfl
  refine cg.lt_eq ?_ h2 (xnorm_lt hv a)
  rw [dt2] at h1
  have a1 := cg_red hv a.1
  have a2 := cg_red hv a.2
  have ag := cg_mul hv a.2 (gen p)
  have h3 : cg p (lf (emL p a) 0 0 * lf (emL p a) 1 1 - lf (emL p a) 1 0 * lf (emL p a) 0 1) (a.1 * a.1 - a.2 * (a.2 * gen p)) := (a1.mul a1).sub (a2.mul ag)
  have h4 : cg p (xnorm p a) (a.1 * a.1 - gen p * (a.2 * a.2)) := (cg_sub hv _ _).trans ((cg_mul hv _ _).sub ((cg_mul hv _ _).trans ((cg.refl p _).mul (cg_mul hv _ _))))
  exact h1.trans (h3.trans ((cg.of_eq (by grind)).trans h4.symm))
theorem elS_fac {n c : Nat} {s : Es} (hx : ∀ i, i < n → s.f i c ≠ 0 → ¬ cg p (s.f i c) 0) (h : ¬ cg p s.fac 0) : ¬ cg p (elS p n c s).fac 0 := by
  by_cases hf : n ≤ fnd s.f c (n - s.piv.length) s.piv.length
  · rw [elS_none hf]; exact h
  · rw [elS_found hf]
    have hle := fnd_le s.f c (n - s.piv.length) s.piv.length
    have hne := fnd_ne s.f c (n - s.piv.length) s.piv.length (by omega)
    generalize fnd s.f c (n - s.piv.length) s.piv.length = a at *
    generalize s.piv.length = top at *
    have hinv : ¬ cg p (swp s.f top a top c) 0 := by rw [swp_top]; exact hx a (by omega) hne
    simp only
    intro h0
    have h1 := (cg_mul hv _ _).symm.trans h0
    have h2 := cg_zero_mul hv ((cg.of_eq (Int.mul_comm _ _)).trans h1) hinv
    by_cases e : a = top
    · rw [if_pos e] at h2; exact h h2
    · rw [if_neg e] at h2
      exact h ((cg.of_eq (by omega)).trans (((cg_neg hv _).symm.trans h2).neg.trans (cg.of_eq (by omega))))
theorem elR_fac {n m : Nat} {f : Nat → Nat → Int} (hf : ∀ i j, i < n → j < m → 0 ≤ f i j ∧ f i j < p) : ∀ c, c ≤ m → ¬ cg p (elR p n c f).fac 0
  | 0, _ => cg_ne (show (0 : Int) ≤ 1 ∧ (1 : Int) < p by have := vld_pos hv; omega) (by show (1 : Int) ≠ 0; omega)
  | c + 1, hc => by
    rw [elR_next]
    exact elS_fac hv (fun i hi hne => cg_ne ((elR_ok hv hf c).el i c hi (by omega)) hne) (elR_fac hf c (by omega))
theorem iF_lt (n : Nat) (ls : List (List Int)) (i j : Nat) : 0 ≤ iF p n ls i j ∧ iF p n ls i j < p := by
  have := vld_pos hv
  unfold iF
  split
  · exact elF_lt (by omega) i j
  · split <;> exact ⟨by omega, by omega⟩
theorem em_ok (a : Int × Int) : (elR p 2 2 (iF p 2 (emL p a))).piv.length = 2 ↔ ¬ (a.1 % p = 0 ∧ a.2 % p = 0) := by
  have h1 := (elR_ext (n := 2) (m := 2) (f := iF p 2 (emL p a)) (g := elF p (emL p a)) hv (fun i j _ _ => iF_lt hv 2 _ i j) (fun i j _ hj => by unfold iF; rw [if_pos hj]) 2 (Nat.le_refl _)).1
  have h2 := em_det hv a
  have h3 : detE p (emL p a) = if (elR p 2 2 (elF p (emL p a))).piv.length = 2 then (elR p 2 2 (elF p (emL p a))).fac else 0 := by
    have hl : (emL p a).length = 2 := rfl
    have hc : colsN (emL p a) = 2 := rfl
    unfold detE; rw [hv, em_vld, hl, hc]; simp
  have h4 := elR_fac (n := 2) (m := 2) (f := elF p (emL p a)) hv (fun i j _ _ => elF_lt' hv i j) 2 (Nat.le_refl _)
  rw [h1, ← norm_zero hv, ← h2, h3]
  by_cases e : (elR p 2 2 (elF p (emL p a))).piv.length = 2
  · rw [if_pos e]
    exact ⟨fun _ h0 => h4 (cg.of_eq h0), fun _ => e⟩
  · rw [if_neg e]
    exact ⟨fun h => absurd h e, fun h => absurd rfl h⟩
theorem em_one : emL p (1, 0) = [[1, 0], [0, 1]] := by
  have := vld_pos hv
  have e1 : fred p 1 = 1 := (cg_red hv 1).lt_eq (fred_lt hv) ⟨by omega, by omega⟩
  have e2 : fred p 0 = 0 := (cg_red hv 0).lt_eq (fred_lt hv) ⟨by omega, by omega⟩
  show [[fred p 1, fmul p 0 (gen p)], [fred p 0, fred p 1]] = _
  rw [e1, e2, fmul_zero_l hv]
omit hv in
theorem inv_row {E U : Nat → Nat → Int} {i j : Nat} (hi : i < 2) (hj : j < 2) (e0 : E i 0 = if i = 0 then 1 else 0) (e1 : E i 1 = if i = 1 then 1 else 0)
    (hs : cg p (rowS E (fun k => if k < 2 then U k j else if k - 2 = j then -1 else 0) 4 i) 0) : cg p (U i j) (E i (2 + j)) := by
  unfold rowS at hs
  simp only [sm] at hs
  rw [e0, e1] at hs
  match i, j, hi, hj with
  | 0, 0, _, _ => simp at hs ⊢; exact (cg.of_eq (by grind)).trans ((hs.add (cg.refl p (E 0 2))).trans (cg.of_eq (Int.zero_add _)))
  | 0, 1, _, _ => simp at hs ⊢; exact (cg.of_eq (by grind)).trans ((hs.add (cg.refl p (E 0 3))).trans (cg.of_eq (Int.zero_add _)))
  | 1, 0, _, _ => simp at hs ⊢; exact (cg.of_eq (by grind)).trans ((hs.add (cg.refl p (E 1 2))).trans (cg.of_eq (Int.zero_add _)))
  | 1, 1, _, _ => simp at hs ⊢; exact (cg.of_eq (by grind)).trans ((hs.add (cg.refl p (E 1 3))).trans (cg.of_eq (Int.zero_add _)))
omit hv in
theorem inv_row2 {G L U : Nat → Nat → Int} {k j : Nat} (hk : k < 2) (hj : j < 2) (h5 : cg p (sm (fun r => L k r * U r j) 2) (if k = j then 1 else 0)) (g0 : cg p (G k 0) (L k 0)) (g1 : cg p (G k 1) (L k 1))
    (i2 : G k 2 = if 0 = k then 1 else 0) (i3 : G k 3 = if 1 = k then 1 else 0) : cg p (rowS G (fun k => if k < 2 then U k j else if k - 2 = j then -1 else 0) 4 k) 0 := by
  have h6 := (((cg.refl p 0).add (g0.mul (cg.refl p (U 0 j)))).add (g1.mul (cg.refl p (U 1 j)))).trans h5
  unfold rowS
  simp only [sm]
  rw [i2, i3]
  match k, j, hk, hj with
  | 0, 0, _, _ => simp at h6 ⊢; exact (cg.of_eq (by grind)).trans ((h6.sub (cg.refl p 1)).trans (cg.of_eq (by omega)))
  | 0, 1, _, _ => simp at h6 ⊢; exact h6
  | 1, 0, _, _ => simp at h6 ⊢; exact h6
  | 1, 1, _, _ => simp at h6 ⊢; exact (cg.of_eq (by grind)).trans ((h6.sub (cg.refl p 1)).trans (cg.of_eq (by omega)))
theorem em_inv (a : Int × Int) (ha : ¬ (a.1 % p = 0 ∧ a.2 % p = 0)) : matL 2 2 (fun i j => (elR p 2 2 (iF p 2 (emL p a))).f i (2 + j)) = emL p (xinv p a) := by
  have hl := (em_ok hv a).2 ha
  have hlt : ∀ i j, i < 2 → j < 4 → 0 ≤ iF p 2 (emL p a) i j ∧ iF p 2 (emL p a) i j < p := fun i j _ _ => iF_lt hv 2 _ i j
  have hrf := elR_rf (n := 2) (m := 4) (f := iF p 2 (emL p a)) hv hlt 2 (by omega)
  have hinc := elR_inc p 2 (iF p 2 (emL p a)) 2
  have hok := elR_ok (n := 2) (m := 4) (f := iF p 2 (emL p a)) hv hlt 2
  have hsol := fun y => elR_sol (n := 2) (m := 4) (f := iF p 2 (emL p a)) hv hlt 4 y 2 (by omega)
  have g0 : ∀ k, cg p (iF p 2 (emL p a) k 0) (lf (emL p a) k 0) := fun k => by unfold iF; rw [if_pos (by omega)]; exact cg.mod _ _
  have g1 : ∀ k, cg p (iF p 2 (emL p a) k 1) (lf (emL p a) k 1) := fun k => by unfold iF; rw [if_pos (by omega)]; exact cg.mod _ _
  have i2 : ∀ k, iF p 2 (emL p a) k 2 = if 0 = k then 1 else 0 := fun k => by unfold iF; rw [if_neg (by omega)]
  have i3 : ∀ k, iF p 2 (emL p a) k 3 = if 1 = k then 1 else 0 := fun k => by unfold iF; rw [if_neg (by omega)]
  have hent : ∀ k j, k < 2 → j < 2 → cg p (sm (fun r => lf (emL p a) k r * lf (emL p (xinv p a)) r j) 2) (if k = j then 1 else 0) := fun k j hk hj => by
    have h5 := em_ent hv a (xinv p a) k j hk hj
    rw [xmul_inv hv a ha, em_one hv] at h5
    have e : lf [[1, 0], [0, 1]] k j = if k = j then 1 else 0 := by
      match k, j, hk, hj with
      | 0, 0, _, _ => rfl
      | 0, 1, _, _ => rfl
      | 1, 0, _, _ => rfl
      | 1, 1, _, _ => rfl
    rw [e] at h5; exact h5
  have hult := em_lt hv (xinv p a)
  generalize elR p 2 2 (iF p 2 (emL p a)) = es at *
  generalize iF p 2 (emL p a) = G at *
  generalize lf (emL p a) = L at *
  have h : ∀ i j, i < 2 → j < 2 → es.f i (2 + j) = lf (emL p (xinv p a)) i j := by
    generalize lf (emL p (xinv p a)) = UU at *
    intro i j hi hj
    have hid : ∀ k, k < 2 → es.f i k = if i = k then 1 else 0 := fun k hk => by
      have := hrf.one i k hi (by omega)
      rwa [hinc.all hl hk] at this
    have hs := (hsol (fun k => if k < 2 then UU k j else if k - 2 = j then -1 else 0)).2 (fun k hk => inv_row2 hk hj (hent k j hk hj) (g0 k) (g1 k) (i2 k) (i3 k)) i hi
    exact (cg.symm (inv_row hi hj (hid 0 (by omega)) (hid 1 (by omega)) hs)).lt_eq (hok.el i (2 + j) hi (by omega)) (hult i j hi hj)
  show [[es.f 0 (2 + 0), es.f 0 (2 + 1)], [es.f 1 (2 + 0), es.f 1 (2 + 1)]] = _
  rw [h 0 0 (by omega) (by omega), h 0 1 (by omega) (by omega), h 1 0 (by omega) (by omega), h 1 1 (by omega) (by omega)]
  rfl
end
end Go.Proofs.Ytjnlnbkdnjainaa
