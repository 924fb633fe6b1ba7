/- The transform as a matrix, in plain words. -/
import Derived.Test.YtjnlnbkdnjainaaHTpl
import Derived.Test.YtjnlnbkdnjainaaHOrd
import Derived.Test.YtjnlnbkdnjainaaHRoot
namespace Go.Proofs.Ytjnlnbkdnjainaa
open Go.RowKit Go.Sort

theorem cg.pow {p a b : Int} (h : cg p a b) : ∀ n : Nat, cg p (a ^ n) (b ^ n)
  | 0 => by rw [Int.pow_zero, Int.pow_zero]; exact cg.refl _ _
  | n + 1 => by rw [Int.pow_succ, Int.pow_succ]; exact (cg.pow h n).mul h
/-- A root of unity of order n. -/
structure RootP (p : Int) (n : Nat) (w : Int) : Prop where
  one : cg p (w ^ n) 1
  ne : ∀ m, 0 < m → m < n → ¬ cg p (w ^ m) 1
theorem pow2_small : ∀ n, n < 17 → pow2B n = true → 1 ≤ n → ∃ d, d < 5 ∧ 2 ^ d = n := by decide
theorem ok_root {p : Int} {n : Nat} (h : rootOk p n = true) : vld p = true ∧ 1 ≤ n ∧ pow2B n = true ∧ RootP p n (rootV p n) := by
  have h0 := h
  unfold rootOk at h
  simp only [Bool.and_eq_true, decide_eq_true_eq] at h
  obtain ⟨⟨⟨hv, h1⟩, h2⟩, h3⟩ := h
  have hp := vld_pos hv
  obtain ⟨q, hq⟩ : ∃ q, p - 1 = n * q := ⟨(p - 1) / n, (Int.mul_ediv_cancel' (Int.dvd_of_emod_eq_zero h3)).symm⟩
  have hq1 : (p - 1) / n = q := by rw [hq, Int.mul_ediv_cancel_left _ (by omega)]
  have hq0 : 0 ≤ q := by rw [← hq1]; exact Int.ediv_nonneg (by omega) (by omega)
  obtain ⟨r, hr⟩ : ∃ r : Nat, q = (r : Int) := ⟨q.toNat, by omega⟩
  subst hr
  have hr1 : 1 ≤ r := by
    rcases Nat.eq_zero_or_pos r with e | e
    · subst e; simp at hq; omega
    · exact e
  have hw : rootV p n = gen p ^ r % p := by
    unfold rootV fpow
    rw [if_pos h0, if_pos hv, hq1]; rfl
  have hpw : ∀ m, cg p (rootV p n ^ m) (gen p ^ (r * m)) := fun m => by
    rw [hw]
    exact ((cg.mod p _).pow m).trans (cg.of_eq (Int.pow_mul ..).symm)
  have hg : gen p % p ≠ 0 := by rcases vld_cases hv with h | h | h | h | h | h | h <;> subst h <;> decide
  refine ⟨hv, by omega, by simpa using h2, ⟨?_, fun m hm hmn hc => ?_⟩⟩
  · refine (hpw n).trans (cg.of_emod ?_)
    have := fermat hv (gen p) hg
    rw [show (p - 1).toNat = r * n from by have : ((r * n : Nat) : Int) = p - 1 := by rw [hq]; push_cast; exact Int.mul_comm _ _
                                           omega] at this
    rw [this, Int.emod_eq_of_lt (by omega) (by omega)]
  · have e1 := ((hpw m).symm.trans hc).emod
    have hlt : ((r * m : Nat) : Int) < p - 1 := by
      rw [hq]; push_cast
      have h5 : (r : Int) * m < r * n := by
        have : r * m < r * n := Nat.mul_lt_mul_of_pos_left hmn hr1
        exact_mod_cast this
      have h6 : (n : Int) * r = r * n := Int.mul_comm _ _
      omega
    have := gen_inj hv (r * m) 0 hlt (by omega) (by rw [Int.pow_zero]; exact e1)
    have : 0 < r * m := Nat.mul_pos hr1 hm
    omega
theorem RootP.sq {p w : Int} {h : Nat} (hr : RootP p (2 * h) w) {v : Int} (hvw : cg p v (w * w)) : RootP p h v := by
  have e : ∀ m, cg p (v ^ m) (w ^ (2 * m)) := fun m => (hvw.pow m).trans (cg.of_eq (by rw [Int.pow_mul, Int.pow_succ, Int.pow_succ, Int.pow_zero, Int.one_mul]))
  exact ⟨(e h).trans hr.one, fun m hm hmh hc => hr.ne (2 * m) (by omega) (by omega) ((e m).symm.trans hc)⟩
theorem RootP.half {p w : Int} {h : Nat} (hv : vld p = true) (hr : RootP p (2 * h) w) (h1 : 1 ≤ h) : cg p (w ^ h) (-1) := by
  have h2 := hr.ne h (by omega) (by omega)
  have h3 : cg p ((w ^ h - 1) * (w ^ h + 1)) 0 := by
    have h4 := hr.one
    rw [Nat.mul_comm, Int.pow_mul] at h4
    have h5 : cg p ((w ^ h - 1) * (w ^ h + 1)) ((w ^ h) ^ 2 - 1) := cg.of_eq (by grind)
    exact h5.trans ((h4.sub (cg.refl p 1)).trans (cg.of_eq (by omega)))
  have h4 := cg_zero_mul hv h3 (fun hc => h2 ((cg.of_eq (by omega)).trans ((hc.add (cg.refl p 1)).trans (cg.of_eq (by omega)))))
  exact (cg.of_eq (by omega)).trans ((h4.sub (cg.refl p 1)).trans (cg.of_eq (by omega)))
theorem sm_even (f : Nat → Int) : ∀ h, sm f (2 * h) = sm (fun k => f (2 * k)) h + sm (fun k => f (2 * k + 1)) h
  | 0 => rfl
  | h + 1 => by
    rw [show 2 * (h + 1) = 2 * h + 1 + 1 by omega, sm, sm, sm, sm, sm_even f h]; omega
theorem pwF_cg {p : Int} (hv : vld p = true) (w : Int) : ∀ i, cg p (pwF p w i) (w ^ i)
  | 0 => by rw [pwF, Int.pow_zero]; exact cg.refl _ _
  | i + 1 => by rw [pwF, Int.pow_succ]; exact (cg_mul hv _ _).trans ((pwF_cg hv w i).mul (cg.refl p w))
/-- The recursion gives the values of the polynomial at the powers of the root. -/
theorem vl_cg {p : Int} (hv : vld p = true) : ∀ d (a : Nat → Int) w, RootP p (2 ^ d) w → ∀ j, j < 2 ^ d → cg p (vlF p d a w j) (sm (fun k => a k * w ^ (j * k)) (2 ^ d))
  | 0, a, w, _, j, hj => by
    have : j = 0 := by simpa using hj
    subst this
    show cg p (a 0) (0 + a 0 * w ^ (0 * 0))
    exact cg.of_eq (by simp)
  | d + 1, a, w, hr, j, hj => by
    have hn : (2 : Nat) ^ (d + 1) = 2 * 2 ^ d := by rw [Nat.pow_succ]; omega
    rw [hn] at hr hj ⊢
    have h1 : 1 ≤ (2 : Nat) ^ d := Nat.one_le_two_pow
    have hsq := hr.sq (cg_mul hv w w)
    have hE := vl_cg hv d (fun i => a (2 * i)) (fmul p w w) hsq
    have hO := vl_cg hv d (fun i => a (2 * i + 1)) (fmul p w w) hsq
    have hhf := hr.half hv h1
    have hone := hr.one
    unfold vlF
    generalize (2 : Nat) ^ d = h at *
    have e2 : ∀ m, cg p (fmul p w w ^ m) (w ^ (2 * m)) := fun m => ((cg_mul hv w w).pow m).trans (cg.of_eq (by rw [Int.pow_mul, Int.pow_succ, Int.pow_succ, Int.pow_zero, Int.one_mul]))
    have hE2 : ∀ i, i < h → cg p (vlF p d (fun i => a (2 * i)) (fmul p w w) i) (sm (fun k => a (2 * k) * w ^ (2 * (i * k))) h) := fun i hi => (hE i hi).trans (sm_cg h fun k _ => (cg.refl p _).mul (e2 (i * k)))
    have hO2 : ∀ i, i < h → cg p (vlF p d (fun i => a (2 * i + 1)) (fmul p w w) i) (sm (fun k => a (2 * k + 1) * w ^ (2 * (i * k))) h) := fun i hi => (hO i hi).trans (sm_cg h fun k _ => (cg.refl p _).mul (e2 (i * k)))
    generalize vlF p d (fun i => a (2 * i)) (fmul p w w) = FE at *
    generalize vlF p d (fun i => a (2 * i + 1)) (fmul p w w) = FO at *
    rw [sm_even]
    by_cases hjh : j < h
    · rw [if_pos hjh]
      refine (cg_add hv _ _).trans ((hE2 j hjh).add ((cg_mul hv _ _).trans ((pwF_cg hv w j).mul (hO2 j hjh))) |>.trans (cg.of_eq ?_))
      rw [← sm_mul]
      congr 1
      · exact sm_congr h fun k _ => by rw [show j * (2 * k) = 2 * (j * k) by grind]
      · exact sm_congr h fun k _ => by rw [show j * (2 * k + 1) = j + 2 * (j * k) by grind, Int.pow_add]; grind
    · rw [if_neg hjh]
      obtain ⟨i, hi⟩ : ∃ i, j - h = i := ⟨_, rfl⟩
      have hji : j = h + i := by omega
      rw [hi]
      have hih : i < h := by omega
      have e3 : ∀ k, cg p (w ^ (j * (2 * k))) (w ^ (2 * (i * k))) := fun k => by
        rw [hji, show (h + i) * (2 * k) = 2 * h * k + 2 * (i * k) by grind, Int.pow_add, Int.pow_mul]
        exact (((hone.pow k).trans (cg.of_eq (Int.one_pow))).mul (cg.refl p _)).trans (cg.of_eq (Int.one_mul _))
      have e4 : cg p (w ^ j) (-(w ^ i)) := by
        rw [hji, Int.pow_add]
        exact (hhf.mul (cg.refl p _)).trans (cg.of_eq (by omega))
      refine (cg_sub hv _ _).trans (((hE2 i hih).sub ((cg_mul hv _ _).trans ((pwF_cg hv w i).mul (hO2 i hih)))).trans ?_)
      rw [← sm_mul]
      refine cg.symm ((((sm_cg h fun k _ => (cg.refl p _).mul (e3 k))).add (sm_cg (g := fun k => -1 * (w ^ i * (a (2 * k + 1) * w ^ (2 * (i * k))))) h fun k _ => ?_)).trans (cg.of_eq ?_))
      · rw [show j * (2 * k + 1) = j + j * (2 * k) by grind, Int.pow_add]
        exact ((cg.refl p _).mul (e4.mul (e3 k))).trans (cg.of_eq (by grind))
      · rw [sm_mul]; omega
/-! ### the inverse -/
theorem sm_geo (x : Int) : ∀ n, (x - 1) * sm (fun k => x ^ k) n = x ^ n - 1
  | 0 => by simp [sm]
  | n + 1 => by
    rw [sm, Int.mul_add, sm_geo x n, Int.pow_succ]; grind
theorem sm_ones {p x : Int} (h : cg p x 1) : ∀ n : Nat, cg p (sm (fun k => x ^ k) n) (n : Int)
  | 0 => cg.refl _ _
  | n + 1 => by
    rw [sm]
    exact ((sm_ones h n).add ((h.pow n).trans (cg.of_eq (Int.one_pow)))).trans (cg.of_eq (by push_cast; rfl))
section
variable {p w v : Int} {n : Nat} (hv : vld p = true) (hr : RootP p n w) (hwv : cg p (w * v) 1)
include hr hwv
omit hr in
theorem vpow (m : Nat) : cg p (w ^ m * v ^ m) 1 := (cg.of_eq (Int.mul_pow ..).symm).trans ((hwv.pow m).trans (cg.of_eq (Int.one_pow)))
theorem root_inv : RootP p n v := by
  refine ⟨?_, fun m hm hmn hc => hr.ne m hm hmn ?_⟩
  · have h1 := (vpow hwv n)
    exact (cg.of_eq (Int.one_mul _).symm).trans ((hr.one.symm.mul (cg.refl p _)).trans h1)
  · have h1 := (vpow hwv m)
    exact (cg.of_eq (Int.mul_one _).symm).trans (((cg.refl p _).mul hc.symm).trans h1)
include hv
theorem orth {i j : Nat} (hi : i < n) (hj : j < n) : cg p (sm (fun k => w ^ (i * k) * v ^ (k * j)) n) (if i = j then (n : Int) else 0) := by
  have e : sm (fun k => w ^ (i * k) * v ^ (k * j)) n = sm (fun k => (w ^ i * v ^ j) ^ k) n := sm_congr n fun k _ => by
    rw [Int.mul_pow, ← Int.pow_mul, ← Int.pow_mul, Nat.mul_comm k j]
  rw [e]
  by_cases hij : i = j
  · subst hij
    rw [if_pos rfl]
    exact sm_ones (vpow hwv i) n
  · rw [if_neg hij]
    have hx : ¬ cg p (w ^ i * v ^ j) 1 := fun hc => by
      have h1 : cg p (w ^ i) (w ^ j) := by
        have h2 := (vpow hwv j)
        exact ((cg.of_eq (Int.mul_one _).symm).trans ((cg.refl p (w ^ i)).mul h2.symm)).trans ((cg.of_eq (by grind)).trans ((hc.mul (cg.refl p (w ^ j))).trans (cg.of_eq (Int.one_mul _))))
      by_cases hlt : i < j
      · refine hr.ne (j - i) (by omega) (by omega) ?_
        have h3 := vpow hwv i
        have h4 : cg p (w ^ (j - i) * w ^ i) (w ^ i) := (cg.of_eq (by rw [← Int.pow_add, show j - i + i = j by omega])).trans h1.symm
        exact ((cg.of_eq (Int.mul_one _).symm).trans ((cg.refl p _).mul h3.symm)).trans ((cg.of_eq (Int.mul_assoc ..).symm).trans ((h4.mul (cg.refl p _)).trans h3))
      · refine hr.ne (i - j) (by omega) (by omega) ?_
        have h3 := vpow hwv j
        have h4 : cg p (w ^ (i - j) * w ^ j) (w ^ j) := (cg.of_eq (by rw [← Int.pow_add, show i - j + j = i by omega])).trans h1
        exact ((cg.of_eq (Int.mul_one _).symm).trans ((cg.refl p _).mul h3.symm)).trans ((cg.of_eq (Int.mul_assoc ..).symm).trans ((h4.mul (cg.refl p _)).trans h3))
    have hxn : cg p ((w ^ i * v ^ j) ^ n) 1 := by
      rw [Int.mul_pow, ← Int.pow_mul, ← Int.pow_mul, Nat.mul_comm i n, Nat.mul_comm j n, Int.pow_mul, Int.pow_mul]
      exact (((hr.one.pow i).trans (cg.of_eq Int.one_pow)).mul (((root_inv hr hwv).one.pow j).trans (cg.of_eq Int.one_pow))).trans (cg.of_eq (by omega))
    have hg := sm_geo (w ^ i * v ^ j) n
    refine cg_zero_mul hv (a := w ^ i * v ^ j - 1) ((cg.of_eq hg).trans ((hxn.sub (cg.refl p 1)).trans (cg.of_eq (by omega)))) (fun hc => hx ?_)
    exact (cg.of_eq (by omega)).trans ((hc.add (cg.refl p 1)).trans (cg.of_eq (by omega)))
end
end Go.Proofs.Ytjnlnbkdnjainaa
