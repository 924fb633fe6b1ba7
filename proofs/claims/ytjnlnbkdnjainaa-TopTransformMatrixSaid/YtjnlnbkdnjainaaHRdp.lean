/- The determinant that the reference computes, in plain words. -/
import Derived.Test.YtjnlnbkdnjainaaHDt
namespace Go.Proofs.Ytjnlnbkdnjainaa

/-- A sum modulo p. -/
def fsm (p : Int) (t : Nat → Int) : Nat → Int
  | 0 => 0
  | i + 1 => fadd p (fsm p t i) (t i)
/-- A term with its sign. -/
def tmS (p : Int) (i : Nat) (x : Int) : Int := if i % 2 = 1 then fneg p x else x
def rdt (p : Int) : Nat → (Nat → Nat → Int) → Int
  | 0, _ => 1
  | k + 1, f => fsm p (fun i => tmS p i (fmul p (f i 0) (rdt p k (mnr f i)))) (k + 1)
theorem fsm_congr {p : Int} {f g : Nat → Int} : ∀ n, (∀ i, i < n → f i = g i) → fsm p f n = fsm p g n
  | 0, _ => rfl
  | n + 1, h => by rw [fsm, fsm, fsm_congr n (fun i hi => h i (by omega)), h n (by omega)]
theorem rdt_ext (p : Int) : ∀ k f g, (∀ i c, i < k → c < k → f i c = g i c) → rdt p k f = rdt p k g
  | 0, _, _, _ => rfl
  | k + 1, f, g, h => by
    unfold rdt
    refine fsm_congr (k + 1) fun i hi => ?_
    rw [h i 0 hi (by omega), rdt_ext p k (mnr f i) (mnr g i) fun r c hr hc => h _ _ (by split <;> omega) (by omega)]
theorem fsm_lt {p : Int} (hv : vld p = true) (t : Nat → Int) : ∀ n, 0 ≤ fsm p t n ∧ fsm p t n < p
  | 0 => by have := vld_pos hv; exact ⟨by show (0 : Int) ≤ 0; omega, by show (0 : Int) < p; omega⟩
  | n + 1 => by
    have := vld_pos hv
    rw [fsm]; unfold fadd; rw [if_pos hv]; exact ⟨Int.emod_nonneg _ (by omega), Int.emod_lt_of_pos _ (by omega)⟩
theorem rdt_lt {p : Int} (hv : vld p = true) : ∀ k f, 0 ≤ rdt p k f ∧ rdt p k f < p
  | 0, _ => by have := vld_pos hv; exact ⟨by show (0 : Int) ≤ 1; omega, by show (1 : Int) < p; omega⟩
  | k + 1, f => by unfold rdt; exact fsm_lt hv _ _
theorem fsm_cg {p : Int} (hv : vld p = true) {t s : Nat → Int} : ∀ n, (∀ i, i < n → cg p (t i) (s i)) → cg p (fsm p t n) (sm s n)
  | 0, _ => cg.refl _ _
  | n + 1, h => by
    rw [fsm, sm]
    exact (cg_add hv _ _).trans ((fsm_cg hv n (fun i hi => h i (by omega))).add (h n (by omega)))
theorem sg_eq : ∀ i, sg i = if i % 2 = 1 then -1 else 1
  | 0 => rfl
  | i + 1 => by
    rw [sg, sg_eq i]
    by_cases h : i % 2 = 1
    · rw [if_pos h, if_neg (by omega)]; rfl
    · rw [if_neg h, if_pos (by omega)]
theorem rdt_cg {p : Int} (hv : vld p = true) : ∀ k f, cg p (rdt p k f) (dt k f)
  | 0, _ => cg.refl _ _
  | k + 1, f => by
    unfold rdt dt
    refine fsm_cg hv (k + 1) fun i _ => ?_
    have h1 := (cg_mul hv (f i 0) (rdt p k (mnr f i))).trans ((cg.refl p _).mul (rdt_cg hv k (mnr f i)))
    unfold tmS
    rw [sg_eq]
    by_cases h : i % 2 = 1
    · rw [if_pos h, if_pos h]
      exact ((cg_neg hv _).trans h1.neg).trans (cg.of_eq (by grind))
    · rw [if_neg h, if_neg h]
      exact h1.trans (cg.of_eq (by grind))
/-- The rows but row i, of the first k. -/
def rl (i : Nat) : Nat → List Nat
  | 0 => []
  | k + 1 => if k = i then rl i k else rl i k ++ [k]
theorem rl_len (i : Nat) : ∀ k, (rl i k).length = if i < k then k - 1 else k
  | 0 => rfl
  | k + 1 => by
    rw [rl]
    have := rl_len i k
    by_cases e : k = i
    · subst e
      rw [if_neg (by omega)] at this
      rw [if_pos rfl, this, if_pos (by omega)]; omega
    · rw [if_neg e, List.length_append, this]
      by_cases h : i < k
      · rw [if_pos h, if_pos (by omega)]; simp; omega
      · rw [if_neg h, if_neg (by omega)]; simp
theorem rl_at (i : Nat) : ∀ k r, r < (rl i k).length → (rl i k)[r]? = some (if r < i then r else r + 1)
  | 0, r, h => by simp [rl] at h
  | k + 1, r, h => by
    rw [rl] at h ⊢
    have hl := rl_len i k
    by_cases e : k = i
    · rw [if_pos e] at h ⊢; exact rl_at i k r h
    · rw [if_neg e] at h ⊢
      rw [List.length_append, List.length_singleton] at h
      by_cases h1 : r < (rl i k).length
      · rw [List.getElem?_append_left h1]; exact rl_at i k r h1
      · have h2 : r = (rl i k).length := by omega
        rw [h2, List.getElem?_append_right (Nat.le_refl _), Nat.sub_self, hl]
        by_cases h3 : i < k
        · rw [if_pos h3, if_neg (by omega)]; simp; omega
        · rw [if_neg h3, if_pos (by omega)]; rfl
/-- The matrix of a list of rows. -/
def lf (ls : List (List Int)) : Nat → Nat → Int := fun i j => (ls.getD i []).getD j 0
def mls (ls : List (List Int)) (i k : Nat) : List (List Int) := (rl i k).map fun r => (ls.getD r []).drop 1
theorem mls_len (ls : List (List Int)) {i n : Nat} (h : i < n) : (mls ls i n).length = n - 1 := by rw [mls, List.length_map, rl_len, if_pos h]
theorem mls_lf (ls : List (List Int)) {i n r c : Nat} (h : i < n) (hr : r < n - 1) : lf (mls ls i n) r c = mnr (lf ls) i r c := by
  unfold lf mnr mls
  have := rl_at i n r (by rw [rl_len, if_pos h]; exact hr)
  simp only [List.getD, List.getElem?_map, this, Option.map_some, Option.getD_some, List.getElem?_drop]
  rw [Nat.add_comm 1 c]
end Go.Proofs.Ytjnlnbkdnjainaa
