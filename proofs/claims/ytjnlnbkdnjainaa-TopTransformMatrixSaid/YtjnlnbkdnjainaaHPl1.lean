/- Sums and congruences, in plain words. -/
import Derived.Test.YtjnlnbkdnjainaaQE
import Derived.Test.YtjnlnbkdnjainaaQB
import Derived.Test.YtjnlnbkdnjainaaQC
namespace Go.Proofs.Ytjnlnbkdnjainaa

/-- The sum of the first n values. -/
def sm (f : Nat → Int) : Nat → Int
  | 0 => 0
  | n + 1 => sm f n + f n
/-- Congruent modulo p. -/
def cg (p a b : Int) : Prop := ∃ k, a = b + p * k
namespace cg
variable {p a b c d : Int}
theorem refl (p a : Int) : cg p a a := ⟨0, by grind⟩
theorem of_eq (h : a = b) : cg p a b := ⟨0, by grind⟩
theorem symm (h : cg p a b) : cg p b a := by obtain ⟨k, hk⟩ := h; exact ⟨-k, by grind⟩
theorem trans (h : cg p a b) (h2 : cg p b c) : cg p a c := by obtain ⟨k, hk⟩ := h; obtain ⟨l, hl⟩ := h2; exact ⟨k + l, by grind⟩
theorem add (h : cg p a b) (h2 : cg p c d) : cg p (a + c) (b + d) := by obtain ⟨k, hk⟩ := h; obtain ⟨l, hl⟩ := h2; exact ⟨k + l, by grind⟩
theorem sub (h : cg p a b) (h2 : cg p c d) : cg p (a - c) (b - d) := by obtain ⟨k, hk⟩ := h; obtain ⟨l, hl⟩ := h2; exact ⟨k - l, by grind⟩
theorem neg (h : cg p a b) : cg p (-a) (-b) := by obtain ⟨k, hk⟩ := h; exact ⟨-k, by grind⟩
theorem mul (h : cg p a b) (h2 : cg p c d) : cg p (a * c) (b * d) := by obtain ⟨k, hk⟩ := h; obtain ⟨l, hl⟩ := h2; exact ⟨k * d + l * b + p * k * l, by grind⟩
theorem mod (p a : Int) : cg p (a % p) a := ⟨-(a / p), by have := Int.emod_add_mul_ediv a p; grind⟩
theorem emod (h : cg p a b) : a % p = b % p := by obtain ⟨k, hk⟩ := h; rw [hk, Int.add_mul_emod_self_left]
theorem of_emod (h : a % p = b % p) : cg p a b := (mod p a).symm.trans ((of_eq h).trans (mod p b))
theorem lt_eq (h : cg p a b) (ha : 0 ≤ a ∧ a < p) (hb : 0 ≤ b ∧ b < p) : a = b := by
  have := h.emod; rwa [Int.emod_eq_of_lt ha.1 ha.2, Int.emod_eq_of_lt hb.1 hb.2] at this
end cg
section
variable {p : Int}
theorem cg_mul (hv : vld p = true) (a b : Int) : cg p (fmul p a b) (a * b) := by unfold fmul; rw [if_pos hv]; exact cg.mod _ _
theorem cg_add (hv : vld p = true) (a b : Int) : cg p (fadd p a b) (a + b) := by unfold fadd; rw [if_pos hv]; exact cg.mod _ _
theorem cg_sub (hv : vld p = true) (a b : Int) : cg p (fsub p a b) (a - b) := by unfold fsub; rw [if_pos hv]; exact cg.mod _ _
theorem cg_neg (hv : vld p = true) (a : Int) : cg p (fneg p a) (-a) := by unfold fneg; rw [if_pos hv]; exact cg.mod _ _
theorem cg_inv (hv : vld p = true) {a : Int} (ha : ¬ cg p a 0) : cg p (a * finv p a) 1 := by
  have h1 : a % p ≠ 0 := fun e => ha (cg.of_emod (by rw [e]; simp))
  have := finv_mul hv a h1
  have hp := vld_pos hv
  exact cg.of_emod (by rw [this, Int.emod_eq_of_lt (by omega) (by omega)])
theorem cg_zero_mul (hv : vld p = true) {a b : Int} (h : cg p (a * b) 0) (ha : ¬ cg p a 0) : cg p b 0 := by
  have h1 : a % p ≠ 0 := fun e => ha (cg.of_emod (by rw [e]; simp))
  have h2 : (a * b) % p = 0 := by have := h.emod; rw [this]; simp
  exact cg.of_emod (by rw [no_zero_div hv a b h2 h1]; simp)
end
theorem cg_ne {p a : Int} (h : 0 ≤ a ∧ a < p) (hne : a ≠ 0) : ¬ cg p a 0 := fun hc => hne (hc.lt_eq h ⟨by omega, by omega⟩)
/-! ### sums -/
theorem sm_congr {f g : Nat → Int} : ∀ n, (∀ i, i < n → f i = g i) → sm f n = sm g n
  | 0, _ => rfl
  | n + 1, h => by rw [sm, sm, sm_congr n (fun i hi => h i (by omega)), h n (by omega)]
theorem sm_cg {p : Int} {f g : Nat → Int} : ∀ n, (∀ i, i < n → cg p (f i) (g i)) → cg p (sm f n) (sm g n)
  | 0, _ => cg.refl _ _
  | n + 1, h => (sm_cg n (fun i hi => h i (by omega))).add (h n (by omega))
theorem sm_add (f g : Nat → Int) : ∀ n, sm (fun i => f i + g i) n = sm f n + sm g n
  | 0 => rfl
  | n + 1 => by rw [sm, sm, sm, sm_add f g n]; grind
theorem sm_sub (f g : Nat → Int) : ∀ n, sm (fun i => f i - g i) n = sm f n - sm g n
  | 0 => rfl
  | n + 1 => by rw [sm, sm, sm, sm_sub f g n]; grind
theorem sm_mul (a : Int) (f : Nat → Int) : ∀ n, sm (fun i => a * f i) n = a * sm f n
  | 0 => by simp [sm]
  | n + 1 => by rw [sm, sm, sm_mul a f n]; grind
theorem sm_zero : ∀ n, sm (fun _ => 0) n = 0
  | 0 => rfl
  | n + 1 => by rw [sm, sm_zero n]; rfl
/-- One value alone is not 0. -/
theorem sm_one {f : Nat → Int} {k : Nat} : ∀ n, (∀ i, i < n → i ≠ k → f i = 0) → sm f n = if k < n then f k else 0
  | 0, _ => by simp [sm]
  | n + 1, h => by
    rw [sm, sm_one n (fun i hi => h i (by omega))]
    by_cases e : k = n
    · subst e; simp
    · rw [h n (by omega) (fun e2 => e e2.symm)]
      by_cases h2 : k < n
      · simp [h2, show k < n + 1 by omega]
      · simp [h2, show ¬ k < n + 1 by omega]
/-- One value is changed. -/
theorem sm_set {f g : Nat → Int} {k n : Nat} (hk : k < n) (h : ∀ i, i < n → i ≠ k → f i = g i) : sm f n = sm g n + (f k - g k) := by
  have h1 := sm_sub f g n
  have h2 := sm_one (f := fun i => f i - g i) (k := k) n (fun i hi hne => by rw [h i hi hne]; omega)
  rw [if_pos hk] at h2
  omega
theorem zip_take_succ {l1 l2 : List Int} {k : Nat} {x y : Int} (h1 : l1[k]? = some x) (h2 : l2[k]? = some y) : (l1.take (k + 1)).zip (l2.take (k + 1)) = (l1.take k).zip (l2.take k) ++ [(x, y)] := by
  rw [take_next h1, take_next h2, List.zip_append (by
    have := (List.getElem?_eq_some_iff.1 h1).1; have := (List.getElem?_eq_some_iff.1 h2).1
    rw [List.length_take, List.length_take]; omega)]
  rfl
theorem ldot_cg {p : Int} (hv : vld p = true) {l1 l2 : List Int} : ∀ k, k ≤ l1.length → k ≤ l2.length → cg p (ldot p (l1.take k) (l2.take k)) (sm (fun j => l1.getD j 0 * l2.getD j 0) k)
  | 0, _, _ => by simp [ldot, sm]; exact cg.refl _ _
  | k + 1, h1, h2 => by
    have e1 : l1[k]? = some l1[k] := List.getElem?_eq_getElem (by omega)
    have e2 : l2[k]? = some l2[k] := List.getElem?_eq_getElem (by omega)
    rw [ldot_next e1 e2, sm]
    refine (cg_add hv _ _).trans ((ldot_cg hv k (by omega) (by omega)).add ((cg_mul hv _ _).trans (cg.of_eq ?_)))
    simp [List.getD, e1, e2]
theorem ldot_full {p : Int} (hv : vld p = true) {l1 l2 : List Int} {n : Nat} (h1 : l1.length = n) (h2 : l2.length = n) : cg p (ldot p l1 l2) (sm (fun j => l1.getD j 0 * l2.getD j 0) n) := by
  have := ldot_cg hv n (l1 := l1) (l2 := l2) (by omega) (by omega)
  rwa [List.take_of_length_le (by omega), List.take_of_length_le (by omega)] at this
end Go.Proofs.Ytjnlnbkdnjainaa
