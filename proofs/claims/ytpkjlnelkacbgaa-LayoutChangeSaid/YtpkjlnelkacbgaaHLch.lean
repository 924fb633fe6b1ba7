/- A changed element of the messages shows in the sum exactly if its coefficient is not 0. -/
import Derived.Test.YtpkjlnelkacbgaaHL24c
namespace Go.Proofs.Ytpkjlnelkacbgaa
open Go.RowKit Go.Sort Go.ChangeShapes Go.WideShapes Go.ChangeAt

set_option maxRecDepth 100000
section
variable {W : World} {base : Nat} {v : Value}
theorem open_u16 (h : Value.okWide Try.prog W .any base 59 v) : ∃ n, v = .int .u16 n ∧ 0 ≤ n ∧ n ≤ 65535 := by
  simp only [Value.okWide, Try.underlying59, Cell.okWide] at h
  cases v <;> simp_all [Cell.ok]
  obtain ⟨rfl, h1, h2⟩ := h
  exact ⟨h1, by simp [IntKind.max, IntKind.signed, IntKind.bits] at h2; omega⟩
end
theorem fsum_set {f g : Nat → Int} {d : Nat} {x : Int} : ∀ {n : Nat}, d < n → (∀ i, i ≠ d → g i = f i) → g d = f d + x → fsum g n = fsum f n + x
  | 0, h, _, _ => by omega
  | n + 1, h, h1, h2 => by
    rw [fsum, fsum]
    by_cases e : d = n
    · subst e
      rw [h2, fsum_congr (f := g) (g := f) (n := d) (fun i hi => h1 i (by omega))]; omega
    · rw [fsum_set (n := n) (by omega) h1 h2, h1 n (fun h => e h.symm)]; omega
theorem idot_set {l l2 : List Int} {B k : Nat} {x : Int} (hk : k < B) (hl : l.length = B) : idot (l.set k x) l2 B = idot l l2 B + (x - l.getD k 0) * l2.getD k 0 := by
  unfold idot
  refine fsum_set hk (fun i hi => ?_) ?_
  · rw [show (l.set k x).getD i 0 = l.getD i 0 from by rw [List.getD, List.getElem?_set_ne (fun e => hi e.symm)]; rfl]
  · rw [List.getD, List.getElem?_set_self (by omega), List.getD, Option.getD_some]
    rw [← List.getD, ← Int.add_mul]
    congr 1
    show x = l.getD k 0 + (x - l.getD k 0)
    omega
theorem msum_set {p : Int} (hv : vld p = true) {C D : List (List Int)} {B N i k : Nat} {l d : List Int} {x : Int} (hc : ∀ l ∈ C, l.length = B) (hd : ∀ l ∈ D, l.length = B) (h1 : C.length = N) (h2 : D.length = N) (hi : i < N) (hk : k < B) (hl : C[i]? = some l) (hdi : D[i]? = some d) :
    msum p (C.set i (l.set k x)) D = (msum p C D + (x - l.getD k 0) * d.getD k 0) % p := by
  have hll := hc l (List.mem_of_getElem? hl)
  have hc' : ∀ l' ∈ C.set i (l.set k x), l'.length = B := fun l' hl' => by
    rcases List.mem_or_eq_of_mem_set hl' with h | h
    · exact hc l' h
    · rw [h, List.length_set, hll]
  rw [msum_i hv hc' hd (by rw [List.length_set, h1]) h2, msum_i hv hc hd h1 h2, Int.emod_add_emod]
  congr 1
  refine fsum_set hi (fun j hj => ?_) ?_
  · rw [List.getD, List.getElem?_set_ne (fun e => hj e.symm), ← List.getD]
  · rw [List.getD, List.getElem?_set_self (by omega), Option.getD_some, idot_set hk hll]
    rw [show C.getD i [] = l from by rw [List.getD, hl]; rfl, show D.getD i [] = d from by rw [List.getD, hdi]; rfl]
theorem cofM_lt {p pub : Int} {R : List Rw} {B P0 P1 S : Nat} {rho : Int} (hp : 0 < p) : ∀ l ∈ cofM p pub R B P0 P1 S rho, ∀ x ∈ l, 0 ≤ x ∧ x < p := by
  unfold cofM
  refine (cuts_good hp (fun i x hx => ?_) 4).2
  unfold cofL at hx
  split at hx
  · simp only [secL, List.mem_map] at hx
    obtain ⟨v, _, rfl⟩ := hx
    exact ⟨Int.emod_nonneg _ (by omega), Int.emod_lt_of_pos _ hp⟩
  · have := List.mem_of_mem_drop (List.mem_of_mem_take hx)
    simp only [powL, List.mem_map] at this
    obtain ⟨v, _, rfl⟩ := this
    exact ⟨Int.emod_nonneg _ (by omega), Int.emod_lt_of_pos _ hp⟩
/-- The sum with one element changed is the target exactly if the coefficient is 0. -/
theorem change_iff {p : Int} (hv : vld p = true) {C D : List (List Int)} {B N i k : Nat} {l d : List Int} {x y TV : Int} (hc : ∀ l ∈ C, l.length = B) (hd : ∀ l ∈ D, l.length = B) (h1 : C.length = N) (h2 : D.length = N) (hi : i < N) (hk : k < B) (hl : C[i]? = some l) (hdi : D[i]? = some d)
    (hy : l[k]? = some y) (hxy : 0 ≤ x ∧ x < p ∧ 0 ≤ y ∧ y < p ∧ x ≠ y) (hT : msum p C D = TV) (hTV : 0 ≤ TV ∧ TV < p) {z : Int} (hz : d[k]? = some z) (hz2 : 0 ≤ z ∧ z < p) : msum p (C.set i (l.set k x)) D = TV ↔ z = 0 := by
  rw [msum_set hv hc hd h1 h2 hi hk hl hdi, hT, show l.getD k 0 = y from by rw [List.getD, hy]; rfl, show d.getD k 0 = z from by rw [List.getD, hz]; rfl]
  constructor
  · intro h
    have h3 : ((x - y) * z) % p = 0 := by
      have e : (TV + (x - y) * z) % p = TV % p := by rw [h, Int.emod_eq_of_lt hTV.1 hTV.2]
      have := Int.emod_eq_emod_iff_emod_sub_eq_zero.1 e
      rwa [show TV + (x - y) * z - TV = (x - y) * z by omega] at this
    have h4 := no_zero_div hv _ _ h3 (fun h => by
      have : x % p = y % p := Int.emod_eq_emod_iff_emod_sub_eq_zero.2 h
      rw [Int.emod_eq_of_lt hxy.1 hxy.2.1, Int.emod_eq_of_lt hxy.2.2.1 hxy.2.2.2.1] at this
      exact hxy.2.2.2.2 this)
    rwa [Int.emod_eq_of_lt hz2.1 hz2.2] at h4
  · rintro rfl
    rw [Int.mul_zero, Int.add_zero, Int.emod_eq_of_lt hTV.1 hTV.2]
/-- The new element is another one. -/
theorem change_ne {p y b : Int} (hp : 17 ≤ p ∧ p ≤ 257) (hy : 0 ≤ y ∧ y < p) (hb : 0 ≤ b ∧ b < 18446744073709551616) (h : b % p ≠ 0) : ((y + b) % 18446744073709551616) % p ≠ y := by
  intro e
  by_cases h2 : y + b < 18446744073709551616
  · rw [Int.emod_eq_of_lt (by omega) h2] at e
    have e2 : (y + b) % p = y % p := by rw [e, Int.emod_eq_of_lt hy.1 hy.2]
    have := Int.emod_eq_emod_iff_emod_sub_eq_zero.1 e2
    rw [show y + b - y = b by omega] at this
    exact h this
  · have h3 : (y + b) % 18446744073709551616 = y + b - 18446744073709551616 := by omega
    rw [h3, Int.emod_eq_of_lt (by omega) (by omega)] at e
    omega
end Go.Proofs.Ytpkjlnelkacbgaa
