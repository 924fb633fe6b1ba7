/- The contracts of the functions of packages field and moidoreref01 that compute with single numbers: each call returns what the plain function says and lays at most new blocks. -/
import Derived.Test.YtkpkgjniicnkcaaPre
import Derived.Test.YtkpkgjniicnkcaaFld
import Derived.Test.YtkpkgjniicnkcaaDiv
namespace Go.Proofs.Ytkpkgjniicnkcaa
open Go.RowKit

theorem valid_c (p : Int) (w : World) : Calls Try.prog 73 #[.agg #[.int .u64 p]] w (Gives (.bool (vld p)) w) := by
  go_enter Try.func73, Try.ntmps73
  go_wp2
  all_goals (go_ret; exact ⟨by simp_all [vld], (by repeat (first | exact Below.refl _ _ | refine Below.later ?_ _ | refine Below.box ?_ _ | refine Below.drew ?_ | refine Below.put ?_ (by dsimp only; omega) _))⟩)

theorem reduced_c (p a : Int) (w : World) (hp : 0 < p) (ha : 0 ≤ a) : Calls Try.prog 75 #[.agg #[.int .u64 p], .int .u64 a] w (Gives (.int .u64 (a % p)) w) := by
  by_cases h : p ≤ a
  · go_enter Try.func75, Try.ntmps75
    go_wp2
    go_ret
    exact ⟨rfl, (by repeat (first | exact Below.refl _ _ | refine Below.later ?_ _ | refine Below.box ?_ _ | refine Below.drew ?_ | refine Below.put ?_ (by dsimp only; omega) _))⟩
  · have e : a % p = a := Int.emod_eq_of_lt ha (by omega)
    go_enter Try.func75, Try.ntmps75
    go_wp2
    go_ret
    exact ⟨rfl, (by repeat (first | exact Below.refl _ _ | refine Below.later ?_ _ | refine Below.box ?_ _ | refine Below.drew ?_ | refine Below.put ?_ (by dsimp only; omega) _))⟩

theorem add_c0 (p a b : Int) (w : World) (hp' : p < 18446744073709551616) (ha : 0 ≤ a) (ha' : a < p) (hb : 0 ≤ b) (hb' : b < p) : Calls Try.prog 74 #[.agg #[.int .u64 p], .int .u64 a, .int .u64 b] w (Gives (.int .u64 ((a + b) % p)) w) := by
  by_cases h1 : 18446744073709551616 ≤ a + b
  · have e1 : (a + b) / 18446744073709551616 = 1 := by omega
    have e2 : (a + b) % 18446744073709551616 = a + b - 18446744073709551616 := by omega
    have e3 : Hid ((a + b) % p = a + b - p) := by
      show _ = _
      rw [← Int.sub_emod_right]; exact Int.emod_eq_of_lt (by omega) (by omega)
    have e4 : IntKind.u64.wrap (a + b - 18446744073709551616 - p) = a + b - p := by rw [IntKind.wrap_u64]; omega
    go_enter Try.func74, Try.ntmps74
    go_wp2_with (simp only [add64 a b ha hb])
    go_ret
    exact ⟨by rw [e3.out]; rfl, (by repeat (first | exact Below.refl _ _ | refine Below.later ?_ _ | refine Below.box ?_ _ | refine Below.drew ?_ | refine Below.put ?_ (by dsimp only; omega) _))⟩
  · have e1 : (a + b) / 18446744073709551616 = 0 := by omega
    have e2 : (a + b) % 18446744073709551616 = a + b := by omega
    by_cases h2 : p ≤ a + b
    · have e3 : Hid ((a + b) % p = a + b - p) := by
        show _ = _
        rw [← Int.sub_emod_right]; exact Int.emod_eq_of_lt (by omega) (by omega)
      go_enter Try.func74, Try.ntmps74
      go_wp2_with (simp only [add64 a b ha hb])
      go_ret
      exact ⟨by rw [e3.out]; rfl, (by repeat (first | exact Below.refl _ _ | refine Below.later ?_ _ | refine Below.box ?_ _ | refine Below.drew ?_ | refine Below.put ?_ (by dsimp only; omega) _))⟩
    · have e3 : Hid ((a + b) % p = a + b) := Int.emod_eq_of_lt (by omega) (by omega)
      go_enter Try.func74, Try.ntmps74
      go_wp2_with (simp only [add64 a b ha hb])
      go_ret
      exact ⟨by rw [e3.out]; rfl, (by repeat (first | exact Below.refl _ _ | refine Below.later ?_ _ | refine Below.box ?_ _ | refine Below.drew ?_ | refine Below.put ?_ (by dsimp only; omega) _))⟩

/-- Div64: the quotient and the remainder of 128 bits by 64 bits. -/
theorem div64_c (hi lo y : Int) (w : World) (g0 : 0 ≤ hi) (h0 : 0 ≤ lo) (h0' : lo < 18446744073709551616) (hy : hi < y) (hy' : y < 18446744073709551616) :
    Calls Try.prog 32 #[.int .u64 hi, .int .u64 lo, .int .u64 y] w (Gives (.tuple #[.int .u64 ((hi * 18446744073709551616 + lo) / y), .int .u64 ((hi * 18446744073709551616 + lo) % y)]) w) := by
  by_cases h : hi = 0
  · subst h
    refine (div64_lo lo y w h0 h0' hy).mono ?_
    rintro e w' ⟨rfl, n, rfl⟩
    exact ⟨by rw [Int.zero_mul, Int.zero_add], ⟨rfl, rfl, rfl, Nat.le_refl _, fun _ _ => rfl⟩⟩
  · exact (div64_hi hi lo y w (by omega) h0 h0' hy hy').mono fun e w' ⟨he, hw⟩ => ⟨he, hw ▸ Below.refl _ _⟩

theorem mul_hi_lt {p a b : Int} (hp' : p < 18446744073709551616) (ha : 0 ≤ a) (ha' : a < p) (hb : 0 ≤ b) (hb' : b < p) : 0 ≤ a * b ∧ a * b / 18446744073709551616 < p := by
  have h0 : 0 ≤ a * b := Int.mul_nonneg ha hb
  have h1 : a * b ≤ a * 18446744073709551616 := Int.mul_le_mul_of_nonneg_left (by omega) ha
  exact ⟨h0, by omega⟩

theorem mul_c0 (p a b : Int) (w : World) (hp' : p < 18446744073709551616) (ha : 0 ≤ a) (ha' : a < p) (hb : 0 ≤ b) (hb' : b < p) : Calls Try.prog 76 #[.agg #[.int .u64 p], .int .u64 a, .int .u64 b] w (Gives (.int .u64 ((a * b) % p)) w) := by
  obtain ⟨h0, h1⟩ := mul_hi_lt hp' ha ha' hb hb'
  have h2 := Int.emod_nonneg (a * b) (b := 18446744073709551616) (by omega)
  have h3 := Int.emod_lt_of_pos (a * b) (b := 18446744073709551616) (by omega)
  have h4 : 0 ≤ a * b / 18446744073709551616 := Int.ediv_nonneg h0 (by omega)
  have e := Lib.hid (show (a * b / 18446744073709551616 * 18446744073709551616 + a * b % 18446744073709551616) = a * b from Int.ediv_mul_add_emod _ _)
  go_enter Try.func76, Try.ntmps76
  go_wp2_with (first | (go_at_call 31; with_reducible refine use0 (mul64_c a b ha (by omega) hb (by omega) _) ?_) | (go_at_call 32; (first | with_reducible refine use1 (div64_c _ _ _ _ h4 h2 h3 h1 hp') ?_ | with_reducible refine use (div64_c _ _ _ _ h4 h2 h3 h1 hp') ?_); intro pw))
  go_ret
  exact ⟨congrArg (fun x => Ending.returned (Value.int .u64 (x % p))) e.out, (by repeat (first | exact Below.refl _ _ | refine Below.later ?_ _ | refine Below.box ?_ _ | refine Below.drew ?_ | refine Below.put ?_ (by dsimp only; omega) _))⟩
end Go.Proofs.Ytkpkgjniicnkcaa
