/- The laws of the group, in plain arithmetic. -/
import Derived.Test.YtgioplimemjpoaaConG
import Derived.Test.YtgioplimemjpoaaFrob
namespace Go.Proofs.Ytgioplimemjpoaa
theorem vldBig : vld 18446744069414584321 = true := by decide
theorem gpow_eq (x : Int × Int) (e : Nat) : gpow x e = ppow 18446744069414584321 (gen 18446744069414584321) x e := by
  unfold gpow xpow; rw [if_pos vldBig]
theorem gvalid_iff {x : Int × Int} : gvalid x = true ↔ x.1 < 18446744069414584321 ∧ x.2 < 18446744069414584321 ∧ ¬ (x.1 = 0 ∧ x.2 = 0) := by
  simp only [gvalid, Bool.and_eq_true, decide_eq_true_eq, Bool.or_eq_true, bne_iff_ne, ne_eq]
  omega
theorem gvalid_not {x : Int × Int} (hx : U2 x) (h : gvalid x = true) : ¬ (x.1 % 18446744069414584321 = 0 ∧ x.2 % 18446744069414584321 = 0) := by
  obtain ⟨h1, h2, h3⟩ := gvalid_iff.1 h
  obtain ⟨⟨a, _⟩, ⟨b, _⟩⟩ := hx
  rw [Int.emod_eq_of_lt a h1, Int.emod_eq_of_lt b h2]
  exact h3
theorem gvalid_pow {x : Int × Int} (hx : U2 x) (h : gvalid x = true) (e : Nat) : gvalid (gpow x e) = true := by
  rw [gvalid_iff]
  have hne := ppow_ne vldBig x (gvalid_not hx h) e
  rw [gpow_eq]
  refine ⟨?_, ?_, hne⟩
  · rw [← pred_ppow]; exact Int.emod_lt_of_pos _ (by omega)
  · rw [← pred_ppow]; exact Int.emod_lt_of_pos _ (by omega)
theorem gpow_mul (x : Int × Int) (a b : Nat) : gpow (gpow x a) b = gpow x (a * b) := by rw [gpow_eq, gpow_eq, gpow_eq, ppow_mul]
theorem gpow_comm (x : Int × Int) (a b : Nat) : gpow (gpow x a) b = gpow (gpow x b) a := by rw [gpow_mul, gpow_mul, Nat.mul_comm]
theorem gshared_valid {x : Int × Int} (hx : U2 x) (e : Nat) : gvalid (gshared x e) = gvalid x := by
  cases h : gvalid x
  · unfold gshared; rw [h]; rfl
  · unfold gshared; rw [if_pos h]; exact gvalid_pow hx h e
theorem gshared_comm {x : Int × Int} (hx : U2 x) (a b : Nat) : gshared (gshared x a) b = gshared (gshared x b) a := by
  cases h : gvalid x
  · have e : ∀ n, gshared x n = (0, 0) := fun n => by unfold gshared; rw [h]; rfl
    have e0 : ∀ n, gshared (0, 0) n = (0, 0) := fun n => by unfold gshared; rw [if_neg (by decide)]
    rw [e, e, e0, e0]
  · have e : ∀ n, gshared x n = gpow x n := fun n => by unfold gshared; rw [if_pos h]
    have e1 : ∀ n m, gshared (gpow x n) m = gpow (gpow x n) m := fun n m => by unfold gshared; rw [if_pos (gvalid_pow hx h n)]
    rw [e, e, e1, e1, gpow_comm]
theorem gshared_sum {x : Int × Int} (hv : gvalid x = true) (a b : Nat) : gshared x (a + b) = xmul 18446744069414584321 (gshared x a) (gshared x b) := by
  have e : ∀ n, gshared x n = gpow x n := fun n => by unfold gshared; rw [if_pos hv]
  rw [e, e, e, xmul_valid vldBig, gpow_eq, gpow_eq, gpow_eq, ppow_add]
theorem gshared_order {x : Int × Int} (hx : U2 x) (hv : gvalid x = true) : gshared (gshared x 18446744069414584320) 18446744069414584322 = (1, 0) := by
  have e : ∀ n, gshared x n = gpow x n := fun n => by unfold gshared; rw [if_pos hv]
  rw [e]
  unfold gshared
  rw [if_pos (gvalid_pow hx hv _), gpow_eq, gpow_eq]
  exact order vldBig x (gvalid_not hx hv)
theorem base_valid : gvalid (2, 1) = true := by decide
theorem base_U : U2 (2, 1) := ⟨⟨by decide, by decide⟩, ⟨by decide, by decide⟩⟩
theorem gpow_agree (a b : Nat) : gshared (gpow (2, 1) a) b = gshared (gpow (2, 1) b) a := by
  have e1 : ∀ n m, gshared (gpow (2, 1) n) m = gpow (gpow (2, 1) n) m := fun n m => by unfold gshared; rw [if_pos (gvalid_pow base_U base_valid n)]
  rw [e1, e1, gpow_comm]

/-! ### the contracts over Int -/
theorem shared_i (x : Int × Int) (e : Int) (w : World) (hx : U2 x) (he : U e) : Calls Try.prog 14 #[pv x, .int .u64 e] w (Gives (pv (gshared x e.toNat)) w) := by
  have := shared_c x e.toNat w hx ⟨by have := he.1; have := he.2; omega⟩
  rw [Int.toNat_of_nonneg he.1] at this; exact this
theorem rshared_i (x : Int × Int) (e : Int) (w : World) (hx : U2 x) (he : U e) : Calls Try.prog 15 #[pv x, .int .u64 e] w (Gives (pv (gshared x e.toNat)) w) := by
  have := rshared_c x e.toNat w hx ⟨by have := he.1; have := he.2; omega⟩
  rw [Int.toNat_of_nonneg he.1] at this; exact this
theorem public_i (e : Int) (w : World) (he : U e) : Calls Try.prog 10 #[.int .u64 e] w (Gives (pv (gpow (2, 1) e.toNat)) w) := by
  have := public_c e.toNat w ⟨by have := he.1; have := he.2; omega⟩
  rw [Int.toNat_of_nonneg he.1] at this; exact this
end Go.Proofs.Ytgioplimemjpoaa
