/- The contracts of package field's exported operations on single numbers, and of powers. -/
import Derived.Test.YtgioplimemjpoaaConA
import Derived.WalkSmall
namespace Go.Proofs.Ytgioplimemjpoaa
open Go.RowKit

/-- A 64-bit number. -/
def U (x : Int) : Prop := 0 ≤ x ∧ x < 18446744073709551616

theorem emod_U {p a : Int} (h : vld p = true) : 0 ≤ a % p ∧ a % p < p := by
  have := vld_pos h
  exact ⟨Int.emod_nonneg _ (by omega), Int.emod_lt_of_pos _ (by omega)⟩

theorem emod_lt_pos (a : Int) {p : Int} (h : 0 < p) : a % p < p := Int.emod_lt_of_pos a h
theorem emod_nonneg_pos (a : Int) {p : Int} (h : 0 < p) : 0 ≤ a % p := Int.emod_nonneg a (Int.ne_of_gt h)

theorem red_c (p a : Int) (w : World) (ha : U a) : Calls Try.prog 30 #[.agg #[.int .u64 p], .int .u64 a] w (Gives (.int .u64 (fred p a)) w) := by
  obtain ⟨a0, a1⟩ := ha
  cases hv : vld p
  · go_enter Try.func30, Try.ntmps30
    go_wp2_with (first | (go_at_call 33; (first | with_reducible refine use1 (valid_c _ _) ?_ | with_reducible refine use (valid_c _ _) ?_); intro pw))
    go_ret
    exact ⟨by simp [fred, hv], (by repeat (first | exact Below.refl _ _ | refine Below.later ?_ _ | refine Below.box ?_ _ | refine Below.drew ?_ | refine Below.put ?_ (by dsimp only; omega) _))⟩
  · have hp := vld_pos hv
    go_enter Try.func30, Try.ntmps30
    go_wp2_with (first | (go_at_call 33; (first | with_reducible refine use1 (valid_c _ _) ?_ | with_reducible refine use (valid_c _ _) ?_); intro pw) | (go_at_call 34; (first | with_reducible refine use1 (reduced_c p a _ (by omega) a0) ?_ | with_reducible refine use (reduced_c p a _ (by omega) a0) ?_); intro pw))
    go_ret
    exact ⟨by simp [fred, hv], (by repeat (first | exact Below.refl _ _ | refine Below.later ?_ _ | refine Below.box ?_ _ | refine Below.drew ?_ | refine Below.put ?_ (by dsimp only; omega) _))⟩

theorem add_c (p a b : Int) (w : World) (ha : U a) (hb : U b) : Calls Try.prog 37 #[.agg #[.int .u64 p], .int .u64 a, .int .u64 b] w (Gives (.int .u64 (fadd p a b)) w) := by
  obtain ⟨a0, a1⟩ := ha
  obtain ⟨b0, b1⟩ := hb
  cases hv : vld p
  · go_enter Try.func37, Try.ntmps37
    go_wp2_with (first | (go_at_call 33; (first | with_reducible refine use1 (valid_c _ _) ?_ | with_reducible refine use (valid_c _ _) ?_); intro pw))
    go_ret
    exact ⟨by simp [fadd, hv], (by repeat (first | exact Below.refl _ _ | refine Below.later ?_ _ | refine Below.box ?_ _ | refine Below.drew ?_ | refine Below.put ?_ (by dsimp only; omega) _))⟩
  · have hp := vld_pos hv
    obtain ⟨ua0, ua1⟩ := emod_U (a := a) hv
    obtain ⟨ub0, ub1⟩ := emod_U (a := b) hv
    go_enter Try.func37, Try.ntmps37
    go_wp2_with (first | (go_at_call 33; (first | with_reducible refine use1 (valid_c _ _) ?_ | with_reducible refine use (valid_c _ _) ?_); intro pw))
    first | refine region_quiet1 (by kernel_rfl) ?_ | refine region_quiet (by kernel_rfl) ?_
    repeat (go_big_quiet_step (first | (go_at_call 34; with_reducible exact quiet (reduced_c p _ _ (by omega) (by omega))) | (go_at_call 41; with_reducible exact quiet (add_c0 p _ _ _ (by omega) ua0 ua1 ub0 ub1))))
    refine wpQuiet_nil ?_
    intro _
    go_wp2
    go_ret
    exact ⟨by simp [fadd, hv], (by repeat (first | exact Below.refl _ _ | refine Below.later ?_ _ | refine Below.box ?_ _ | refine Below.drew ?_ | refine Below.put ?_ (by dsimp only; omega) _))⟩

theorem neg_emod_pos {p a : Int} (hp : 0 < p) (h : a % p ≠ 0) : (-a) % p = p - a % p := by
  have h0 := Int.emod_nonneg a (Int.ne_of_gt hp)
  have h1 := Int.emod_lt_of_pos a hp
  rw [← em_neg, ← Int.add_emod_right, Int.emod_eq_of_lt (by omega) (by omega)]
  omega
theorem fneg_U {p a : Int} : U (fneg p a) := by
  unfold fneg; split
  · rename_i h
    have := vld_pos h
    obtain ⟨h0, h1⟩ := emod_U (a := -a) h
    exact ⟨h0, by omega⟩
  · exact ⟨by omega, by omega⟩

theorem fsub_eq (p a b : Int) : fsub p a b = fadd p a (fneg p b) := by
  unfold fsub fadd fneg
  split
  · rw [em_add_r, Int.sub_eq_add_neg]
  · rfl
theorem mul_c (p a b : Int) (w : World) (ha : U a) (hb : U b) : Calls Try.prog 35 #[.agg #[.int .u64 p], .int .u64 a, .int .u64 b] w (Gives (.int .u64 (fmul p a b)) w) := by
  obtain ⟨a0, a1⟩ := ha
  obtain ⟨b0, b1⟩ := hb
  cases hv : vld p
  · go_enter Try.func35, Try.ntmps35
    go_wp2_with (first | (go_at_call 33; (first | with_reducible refine use1 (valid_c _ _) ?_ | with_reducible refine use (valid_c _ _) ?_); intro pw))
    go_ret
    exact ⟨by simp [fmul, hv], (by repeat (first | exact Below.refl _ _ | refine Below.later ?_ _ | refine Below.box ?_ _ | refine Below.drew ?_ | refine Below.put ?_ (by dsimp only; omega) _))⟩
  · have hp := vld_pos hv
    obtain ⟨ua0, ua1⟩ := emod_U (a := a) hv
    obtain ⟨ub0, ub1⟩ := emod_U (a := b) hv
    have e : Hid ((a % p * (b % p)) % p = fmul p a b) := by show _ = _; rw [em_mul_l, em_mul_r, fmul, if_pos hv]
    go_enter Try.func35, Try.ntmps35
    go_wp2_with (first | (go_at_call 33; (first | with_reducible refine use1 (valid_c _ _) ?_ | with_reducible refine use (valid_c _ _) ?_); intro pw))
    first | refine region_quiet1 (by kernel_rfl) ?_ | refine region_quiet (by kernel_rfl) ?_
    repeat (go_big_quiet_step (first | (go_at_call 34; with_reducible exact quiet (reduced_c p _ _ (by omega) (by omega))) | (go_at_call 39; with_reducible exact quiet (mul_c0 p _ _ _ (by omega) ua0 ua1 ub0 ub1))))
    refine wpQuiet_nil ?_
    intro _
    go_wp2
    go_ret
    exact ⟨by rw [← e.out]; rfl, (by repeat (first | exact Below.refl _ _ | refine Below.later ?_ _ | refine Below.box ?_ _ | refine Below.drew ?_ | refine Below.put ?_ (by dsimp only; omega) _))⟩

theorem numbers_c (p : Int) (w : World) : Calls Try.prog 40 #[.agg #[.int .u64 p]] w (Gives (.tuple #[.int .u64 (gen p), .int .i64 (adi p), .int .u64 (expo p)]) w) := by
  go_enter Try.func40, Try.ntmps40
  go_wp2
  all_goals (go_ret3; exact ⟨by simp_all [gen, adi, expo], (by repeat (first | exact Below.refl _ _ | refine Below.later ?_ _ | refine Below.box ?_ _ | refine Below.drew ?_ | refine Below.put ?_ (by dsimp only; omega) _))⟩)
theorem gen_c (p : Int) (w : World) : Calls Try.prog 36 #[.agg #[.int .u64 p]] w (Gives (.int .u64 (gen p)) w) := by
  go_enter Try.func36, Try.ntmps36
  go_wp2_with (first | (go_at_call 40; (first | with_reducible refine use1 (numbers_c _ _) ?_ | with_reducible refine use (numbers_c _ _) ?_); intro pw))
  go_ret
  exact ⟨rfl, (by repeat (first | exact Below.refl _ _ | refine Below.later ?_ _ | refine Below.box ?_ _ | refine Below.drew ?_ | refine Below.put ?_ (by dsimp only; omega) _))⟩
end Go.Proofs.Ytgioplimemjpoaa
