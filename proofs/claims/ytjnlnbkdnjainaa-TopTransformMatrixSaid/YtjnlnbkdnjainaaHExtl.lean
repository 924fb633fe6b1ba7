/- The laws of the extension, on pairs of integers. No program in sight. -/
import Derived.Test.YtjnlnbkdnjainaaHConZ
import Derived.Test.YtjnlnbkdnjainaaHFrob
namespace Go.Proofs.Ytjnlnbkdnjainaa

theorem pe {a b : Int × Int} (h1 : a.1 = b.1) (h2 : a.2 = b.2) : a = b := Prod.ext h1 h2
theorem fadd_assoc (p a b c : Int) : fadd p (fadd p a b) c = fadd p a (fadd p b c) := by
  unfold fadd; cases vld p <;> simp [Int.add_assoc]
theorem fadd_comm (p a b : Int) : fadd p b a = fadd p a b := by unfold fadd; rw [Int.add_comm]
theorem fmul_comm (p a b : Int) : fmul p b a = fmul p a b := by unfold fmul; rw [Int.mul_comm]
theorem xadd_assoc (p : Int) (a b c : Int × Int) : xadd p (xadd p a b) c = xadd p a (xadd p b c) := pe (fadd_assoc ..) (fadd_assoc ..)
theorem xmul_comm (p : Int) (a b : Int × Int) : xmul p b a = xmul p a b := by
  cases h : vld p
  · rw [xmul_not h, xmul_not h]
  · rw [xmul_valid h, xmul_valid h, pmul_comm]
theorem xmul_assoc (p : Int) (a b c : Int × Int) : xmul p (xmul p a b) c = xmul p a (xmul p b c) := by
  cases h : vld p
  · rw [xmul_not h, xmul_not h]
  · simp only [xmul_valid h]; exact pmul_assoc ..
theorem xadd_valid {p : Int} (h : vld p = true) (a b : Int × Int) : xadd p a b = pred p (a.1 + b.1, a.2 + b.2) := by
  unfold xadd fadd pred; rw [if_pos h, if_pos h]
theorem xadd_not {p : Int} (h : vld p = false) (a b : Int × Int) : xadd p a b = (0, 0) := by
  unfold xadd fadd; rw [h]; rfl
theorem xsub_not {p : Int} (h : vld p = false) (a b : Int × Int) : xsub p a b = (0, 0) := by
  unfold xsub fsub; rw [h]; rfl
theorem xmul_add (p : Int) (a b c : Int × Int) : xadd p (xmul p a b) (xmul p a c) = xmul p a (xadd p b c) := by
  cases h : vld p
  · rw [xmul_not h, xadd_not h]
    simp [xmul_not h]
  · rw [xadd_valid h, xmul_valid h, xmul_valid h, xmul_valid h, xadd_valid h, pmul_red_r]
    refine pe ?_ ?_
    · simp only [pred, pmul, em_add_l, em_add_r]
      congr 1
      simp only [Int.mul_add]; omega
    · simp only [pred, pmul, em_add_l, em_add_r]
      congr 1
      simp only [Int.mul_add]; omega
theorem xsub_add (p : Int) (a b : Int × Int) : xsub p (xadd p a b) b = xadd p a (0, 0) := by
  cases h : vld p
  · rw [xsub_not h, xadd_not h]
  · unfold xsub xadd fsub fadd
    simp only [h, if_true, em_sub_l]
    refine pe ?_ ?_ <;> (dsimp only; congr 1; omega)
theorem xpow_add (p : Int) (a : Int × Int) (m n : Nat) : xpow p a (m + n) = xmul p (xpow p a m) (xpow p a n) := by
  cases h : vld p
  · rw [xmul_not h]; simp [xpow, h]
  · rw [xmul_valid h]; unfold xpow; rw [if_pos h, if_pos h, if_pos h, ppow_add]

section
variable {p : Int} (h : vld p = true)
include h
theorem xconj_valid (a : Int × Int) : xconj p a = pconj p a := by unfold xconj fred fneg pconj; rw [if_pos h, if_pos h]
theorem xnorm_valid (a : Int × Int) : xnorm p a = pnorm p (gen p) a := by
  unfold xnorm fsub fmul pnorm
  simp only [h, if_true, em_sub_l, em_sub_r, em_mul_r]
theorem xscale_valid (a : Int × Int) (n : Int) : xscale p a n = pred p (a.1 * n, a.2 * n) := by
  unfold xscale fmul pred; rw [if_pos h, if_pos h]
omit h in
theorem scale_pmul (a b : Int × Int) (n : Int) : pmul p (gen p) a (pred p (b.1 * n, b.2 * n)) = pred p ((pmul p (gen p) a b).1 * n, (pmul p (gen p) a b).2 * n) := by
  rw [pmul_red_r]
  refine pe ?_ ?_
  · simp only [pred, pmul]
    rw [em_mul_l]
    congr 1
    simp only [Int.add_mul, Int.mul_assoc]
  · simp only [pred, pmul]
    rw [em_mul_l]
    congr 1
    simp only [Int.add_mul, Int.mul_assoc]
theorem xinv_zero (a : Int × Int) (h1 : a.1 % p = 0) (h2 : a.2 % p = 0) : xinv p a = (0, 0) := by
  have hn : xnorm p a % p = 0 := by
    rw [xnorm_valid h, ← pnorm_red, show pred p a = (0, 0) from pe h1 h2]
    simp [pnorm]
  unfold xinv
  rw [finv_zero h _ hn, xscale_valid h]
  simp [pred]
theorem norm_lt (a : Int × Int) : xnorm p a % p = xnorm p a := by
  rw [xnorm_valid h]; unfold pnorm; exact Int.emod_emod_of_dvd _ (Int.dvd_refl p)
theorem norm_zero (a : Int × Int) : xnorm p a = 0 ↔ (a.1 % p = 0 ∧ a.2 % p = 0) := by
  constructor
  · intro hn; rw [xnorm_valid h] at hn; exact pnorm_eq_zero h a hn
  · intro ⟨h1, h2⟩
    rw [xnorm_valid h, ← pnorm_red, show pred p a = (0, 0) from pe h1 h2]
    simp [pnorm]
theorem xmul_conj (a : Int × Int) : xmul p a (xconj p a) = (xnorm p a, 0) := by
  rw [xmul_valid h, xconj_valid h, pmul_conj, xnorm_valid h]
theorem xmul_inv (a : Int × Int) (hne : ¬ (a.1 % p = 0 ∧ a.2 % p = 0)) : xmul p a (xinv p a) = (1, 0) := by
  have hn : xnorm p a % p ≠ 0 := by rw [norm_lt h]; exact fun e => hne ((norm_zero h a).1 e)
  unfold xinv
  rw [xmul_valid h, xscale_valid h, scale_pmul, ← xmul_valid h, xmul_conj h]
  refine pe ?_ ?_
  · simp only [pred]; exact finv_mul h _ hn
  · simp [pred]
theorem xinv_red (a : Int × Int) : pred p (xinv p a) = xinv p a := by
  unfold xinv; rw [xscale_valid h]; simp [pred]
theorem xinv_inv (a : Int × Int) (hne : ¬ (a.1 % p = 0 ∧ a.2 % p = 0)) : xinv p (xinv p a) = (a.1 % p, a.2 % p) := by
  have hp := vld_pos h
  have h1 := xmul_inv h a hne
  have hb : ¬ ((xinv p a).1 % p = 0 ∧ (xinv p a).2 % p = 0) := by
    intro ⟨e1, e2⟩
    rw [xmul_valid h, ← pmul_red_r, show pred p (xinv p a) = (0, 0) from pe e1 e2] at h1
    have := congrArg Prod.fst h1
    simp [pmul] at this
  have h2 := xmul_inv h (xinv p a) hb
  have e1 : (1 : Int) % p = 1 := Int.emod_eq_of_lt (by omega) (by omega)
  have hone : ((1 : Int), (0 : Int)) = pone p := by unfold pone; rw [e1]
  have : xmul p (xmul p a (xinv p a)) (xinv p (xinv p a)) = xmul p a (1, 0) := by rw [xmul_assoc, h2]
  rw [h1, hone, xmul_valid h, xmul_valid h, one_pmul, pmul_one, xinv_red h] at this
  exact this
theorem xnorm_mul (a b : Int × Int) : xnorm p (xmul p a b) = fmul p (xnorm p a) (xnorm p b) := by
  rw [xnorm_valid h, xnorm_valid h, xnorm_valid h, xmul_valid h, pnorm_pmul]
  unfold fmul; rw [if_pos h]
theorem frobX (a : Int × Int) : xpow p a p.toNat = xconj p a := by
  unfold xpow; rw [if_pos h, frob h, xconj_valid h]
theorem conj_same (a : Int × Int) : ((xconj p a).1 = a.1 % p ∧ (xconj p a).2 = a.2 % p) ↔ a.2 % p = 0 := by
  have hp := vld_pos h
  have hodd : p % 2 = 1 := by rcases vld_cases h with h | h | h | h | h | h | h <;> subst h <;> rfl
  rw [xconj_valid h]
  have r1 := Int.emod_lt_of_pos a.2 (show 0 < p by omega)
  have r0 := Int.emod_nonneg a.2 (show p ≠ 0 by omega)
  constructor
  · intro ⟨_, e⟩
    simp only [pconj] at e
    rw [← em_neg] at e
    by_cases h0 : a.2 % p = 0
    · exact h0
    · exfalso
      generalize a.2 % p = x at *
      rw [show (-x) % p = p - x from by rw [← Int.add_emod_right, Int.emod_eq_of_lt (by omega) (by omega)]; omega] at e
      omega
  · intro e
    refine ⟨rfl, ?_⟩
    simp only [pconj]
    rw [← em_neg, e]; rfl
end
section
variable {p : Int} (h : vld p = false)
include h
theorem xconj_not (a : Int × Int) : xconj p a = (0, 0) := by unfold xconj fred fneg; rw [h]; rfl
theorem xnorm_not (a : Int × Int) : xnorm p a = 0 := by unfold xnorm fsub; rw [h]; rfl
theorem xscale_not (a : Int × Int) (n : Int) : xscale p a n = (0, 0) := by unfold xscale fmul; rw [h]; rfl
theorem xinv_not (a : Int × Int) : xinv p a = (0, 0) := xscale_not h _ _
theorem xpow_not (a : Int × Int) (n : Nat) : xpow p a n = (0, 0) := by unfold xpow; rw [h]; rfl
end
end Go.Proofs.Ytjnlnbkdnjainaa
