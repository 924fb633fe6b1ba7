/- The contracts of package moidoreref01's functions on single numbers, over the table's row. -/
import Derived.Test.YtkpkgjniicnkcaaConD
namespace Go.Proofs.Ytkpkgjniicnkcaa
open Go.RowKit

@[go_sem] theorem index3_0 (x y z : Value) (w : World) : (Instr.index 119 (.agg #[x, y, z]) (.int .i64 0)).run Try.prog w = .ok x w := by kernel_rfl
@[go_sem] theorem index3_1 (x y z : Value) (w : World) : (Instr.index 119 (.agg #[x, y, z]) (.int .i64 1)).run Try.prog w = .ok y w := by kernel_rfl
@[go_sem] theorem index3_2 (x y z : Value) (w : World) : (Instr.index 119 (.agg #[x, y, z]) (.int .i64 2)).run Try.prog w = .ok z w := by kernel_rfl

theorem gen_pos (p : Int) : decide (0 < gen p) = vld p := by
  cases h : vld p
  · rw [(gen_none h).1]; rfl
  · rcases vld_cases h with rfl | rfl | rfl | rfl | rfl | rfl | rfl <;> rfl

theorem rvalid_c (p : Int) (w : World) : Calls Try.prog 61 #[.int .u64 p] w (Gives (.bool (vld p)) w) := by
  have e : Kept (decide (0 < gen p) = vld p) := ⟨gen_pos p⟩
  obtain ⟨g, hg⟩ : ∃ g, gen p = g := ⟨_, rfl⟩
  rw [hg] at e
  have c : Kept (∀ w, Calls Try.prog 81 #[.int .u64 p] w (Gives (.agg #[.int .u64 g, .int .u64 (adi p), .int .u64 (expo p)]) w)) := ⟨fun w => by rw [← hg]; exact row_c p w⟩
  clear hg
  go_enter Try.func61, Try.ntmps61
  go_wp2_with (first | (go_at_call 81; (first | with_reducible refine use1 (c.out _) ?_ | with_reducible refine use (c.out _) ?_); intro pw))
  go_ret
  exact ⟨by rw [← e.out]; rfl, (by repeat (first | exact Below.refl _ _ | refine Below.later ?_ _ | refine Below.box ?_ _ | refine Below.drew ?_ | refine Below.put ?_ (by dsimp only; omega) _))⟩
theorem rred_c (p a : Int) (w : World) (ha : U a) : Calls Try.prog 84 #[.int .u64 p, .int .u64 a] w (Gives (.int .u64 (fred p a)) w) := by
  obtain ⟨a0, a1⟩ := ha
  cases hv : vld p
  · go_enter Try.func84, Try.ntmps84
    go_wp2_with (first | (go_at_call 61; (first | with_reducible refine use1 (rvalid_c _ _) ?_ | with_reducible refine use (rvalid_c _ _) ?_); intro pw))
    go_ret
    exact ⟨by simp [fred, hv], (by repeat (first | exact Below.refl _ _ | refine Below.later ?_ _ | refine Below.box ?_ _ | refine Below.drew ?_ | refine Below.put ?_ (by dsimp only; omega) _))⟩
  · have hp := vld_pos hv
    go_enter Try.func84, Try.ntmps84
    go_wp2_with (first | (go_at_call 61; (first | with_reducible refine use1 (rvalid_c _ _) ?_ | with_reducible refine use (rvalid_c _ _) ?_); intro pw))
    go_ret
    exact ⟨by simp [fred, hv], (by repeat (first | exact Below.refl _ _ | refine Below.later ?_ _ | refine Below.box ?_ _ | refine Below.drew ?_ | refine Below.put ?_ (by dsimp only; omega) _))⟩

theorem radd_c (p a b : Int) (w : World) (ha : U a) (hb : U b) : Calls Try.prog 42 #[.int .u64 p, .int .u64 a, .int .u64 b] w (Gives (.int .u64 (fadd p a b)) w) := by
  obtain ⟨a0, a1⟩ := ha
  obtain ⟨b0, b1⟩ := hb
  cases hv : vld p
  · have hn : Kept (fadd p a b = 0) := ⟨by simp [fadd, hv]⟩
    go_enter Try.func42, Try.ntmps42
    go_wp2_with (first | (go_at_call 61; (first | with_reducible refine use1 (rvalid_c _ _) ?_ | with_reducible refine use (rvalid_c _ _) ?_); intro pw))
    go_ret
    exact ⟨by rw [hn.out]; rfl, (by repeat (first | exact Below.refl _ _ | refine Below.later ?_ _ | refine Below.box ?_ _ | refine Below.drew ?_ | refine Below.put ?_ (by dsimp only; omega) _))⟩
  · have hp := vld_pos hv
    obtain ⟨ua0, ua1⟩ := emod_U (a := a) hv
    obtain ⟨ub0, ub1⟩ := emod_U (a := b) hv
    obtain ⟨x, hx⟩ : ∃ x, a % p = x := ⟨_, rfl⟩
    obtain ⟨y, hy⟩ : ∃ y, b % p = y := ⟨_, rfl⟩
    have hn : Kept (fadd p a b = (x + y) % p) := ⟨by rw [← hx, ← hy, fadd, if_pos hv, ← Int.add_emod]⟩
    rw [hx] at ua0 ua1
    rw [hy] at ub0 ub1
    by_cases hc : p - y ≤ x
    · have hn2 : Kept (fadd p a b = x - (p - y)) := ⟨by
        rw [hn.out, ← Int.sub_emod_right, Int.emod_eq_of_lt (by omega) (by omega)]; omega⟩
      clear hn
      go_enter Try.func42, Try.ntmps42
      go_wp2_with (first | (go_at_call 61; (first | with_reducible refine use1 (rvalid_c _ _) ?_ | with_reducible refine use (rvalid_c _ _) ?_); intro pw))
      first | refine region_quiet1 (by kernel_rfl) ?_ | refine region_quiet (by kernel_rfl) ?_
      repeat (go_big_quiet_step (first | fail))
      refine wpQuiet_nil ?_
      intro _
      go_wp2
      go_ret
      exact ⟨by rw [hn2.out]; rfl, (by repeat (first | exact Below.refl _ _ | refine Below.later ?_ _ | refine Below.box ?_ _ | refine Below.drew ?_ | refine Below.put ?_ (by dsimp only; omega) _))⟩
    · have hn2 : Kept (fadd p a b = x + y) := ⟨by rw [hn.out, Int.emod_eq_of_lt (by omega) (by omega)]⟩
      clear hn
      go_enter Try.func42, Try.ntmps42
      go_wp2_with (first | (go_at_call 61; (first | with_reducible refine use1 (rvalid_c _ _) ?_ | with_reducible refine use (rvalid_c _ _) ?_); intro pw))
      first | refine region_quiet1 (by kernel_rfl) ?_ | refine region_quiet (by kernel_rfl) ?_
      repeat (go_big_quiet_step (first | fail))
      refine wpQuiet_nil ?_
      intro _
      go_wp2
      go_ret
      exact ⟨by rw [hn2.out]; rfl, (by repeat (first | exact Below.refl _ _ | refine Below.later ?_ _ | refine Below.box ?_ _ | refine Below.drew ?_ | refine Below.put ?_ (by dsimp only; omega) _))⟩

theorem rneg_c (p a : Int) (w : World) (ha : U a) : Calls Try.prog 67 #[.int .u64 p, .int .u64 a] w (Gives (.int .u64 (fneg p a)) w) := by
  cases hv : vld p
  · have hf : fred p a = 0 := by simp [fred, hv]
    have hn : Kept (fneg p a = 0) := ⟨by simp [fneg, hv]⟩
    go_enter Try.func67, Try.ntmps67
    go_wp2_with (first | (go_at_call 84; (first | with_reducible refine use1 (rred_c _ _ _ ha) ?_ | with_reducible refine use (rred_c _ _ _ ha) ?_); intro pw))
    go_ret
    exact ⟨by rw [hn.out]; rfl, (by repeat (first | exact Below.refl _ _ | refine Below.later ?_ _ | refine Below.box ?_ _ | refine Below.drew ?_ | refine Below.put ?_ (by dsimp only; omega) _))⟩
  · have hp := vld_pos hv
    obtain ⟨u0, u1⟩ := emod_U (a := a) hv
    obtain ⟨r, hr⟩ : ∃ r, fred p a = r := ⟨_, rfl⟩
    have hr' : Kept (r = a % p) := ⟨by rw [← hr]; simp [fred, hv]⟩
    have r0 : 0 ≤ r := by rw [hr'.out]; exact u0
    have r1 : r < p := by rw [hr'.out]; exact u1
    by_cases hz : r = 0
    · have hb : (r == 0) = true := by simp [hz]
      have hn : Kept (fneg p a = 0) := ⟨by
        have : a % p = 0 := by rw [← hr'.out, hz]
        rw [fneg, if_pos hv, ← em_neg, this]; rfl⟩
      clear hz
      go_enter Try.func67, Try.ntmps67
      go_wp2_with (first | (go_at_call 84; (first | with_reducible refine use1 (rred_c _ _ _ ha) ?_ | with_reducible refine use (rred_c _ _ _ ha) ?_); intro pw))
      go_ret
      exact ⟨by rw [hn.out]; rfl, (by repeat (first | exact Below.refl _ _ | refine Below.later ?_ _ | refine Below.box ?_ _ | refine Below.drew ?_ | refine Below.put ?_ (by dsimp only; omega) _))⟩
    · have hb : (r == 0) = false := by simp [hz]
      have hn : Kept (fneg p a = p - r) := ⟨by rw [fneg, if_pos hv, neg_emod_pos (by omega) (by rw [← hr'.out]; exact hz), hr'.out]⟩
      go_enter Try.func67, Try.ntmps67
      go_wp2_with (first | (go_at_call 84; (first | with_reducible refine use1 (rred_c _ _ _ ha) ?_ | with_reducible refine use (rred_c _ _ _ ha) ?_); intro pw))
      go_ret
      exact ⟨by rw [hn.out]; rfl, (by repeat (first | exact Below.refl _ _ | refine Below.later ?_ _ | refine Below.box ?_ _ | refine Below.drew ?_ | refine Below.put ?_ (by dsimp only; omega) _))⟩

theorem rsub_c (p a b : Int) (w : World) (ha : U a) (hb : U b) : Calls Try.prog 39 #[.int .u64 p, .int .u64 a, .int .u64 b] w (Gives (.int .u64 (fsub p a b)) w) := by
  go_enter Try.func39, Try.ntmps39
  go_wp2_with (first | (go_at_call 67; (first | with_reducible refine use1 (rneg_c p b _ hb) ?_ | with_reducible refine use (rneg_c p b _ hb) ?_); intro pw) | (go_at_call 42; (first | with_reducible refine use1 (radd_c p a _ _ ha fneg_U) ?_ | with_reducible refine use (radd_c p a _ _ ha fneg_U) ?_); intro pw))
  go_ret
  exact ⟨by rw [fsub_eq]; rfl, (by repeat (first | exact Below.refl _ _ | refine Below.later ?_ _ | refine Below.box ?_ _ | refine Below.drew ?_ | refine Below.put ?_ (by dsimp only; omega) _))⟩

theorem rmul_c (p a b : Int) (w : World) (ha : U a) (hb : U b) : Calls Try.prog 40 #[.int .u64 p, .int .u64 a, .int .u64 b] w (Gives (.int .u64 (fmul p a b)) w) := by
  obtain ⟨a0, a1⟩ := ha
  obtain ⟨b0, b1⟩ := hb
  cases hv : vld p
  · have hn : Kept (fmul p a b = 0) := ⟨by simp [fmul, hv]⟩
    go_enter Try.func40, Try.ntmps40
    go_wp2_with (first | (go_at_call 61; (first | with_reducible refine use1 (rvalid_c _ _) ?_ | with_reducible refine use (rvalid_c _ _) ?_); intro pw))
    go_ret
    exact ⟨by rw [hn.out]; rfl, (by repeat (first | exact Below.refl _ _ | refine Below.later ?_ _ | refine Below.box ?_ _ | refine Below.drew ?_ | refine Below.put ?_ (by dsimp only; omega) _))⟩
  · have hp := vld_pos hv
    obtain ⟨ua0, ua1⟩ := emod_U (a := a) hv
    obtain ⟨ub0, ub1⟩ := emod_U (a := b) hv
    have hn : Kept ((a % p) * (b % p) % p = fmul p a b) := ⟨by rw [fmul, if_pos hv, em_mul_l, em_mul_r]⟩
    obtain ⟨x, hx⟩ : ∃ x, a % p = x := ⟨_, rfl⟩
    obtain ⟨y, hy⟩ : ∃ y, b % p = y := ⟨_, rfl⟩
    rw [hx, hy] at hn
    rw [hx] at ua0 ua1
    rw [hy] at ub0 ub1
    obtain ⟨h0, h1⟩ := mul_hi_lt (by omega) ua0 ua1 ub0 ub1
    have h2 := Int.emod_nonneg (x * y) (b := 18446744073709551616) (by omega)
    have h3 := Int.emod_lt_of_pos (x * y) (b := 18446744073709551616) (by omega)
    have h4 : 0 ≤ x * y / 18446744073709551616 := Int.ediv_nonneg h0 (by omega)
    have e : Kept (x * y / 18446744073709551616 * 18446744073709551616 + x * y % 18446744073709551616 = x * y) := ⟨Int.ediv_mul_add_emod _ _⟩
    go_enter Try.func40, Try.ntmps40
    go_wp2_with (first | (go_at_call 61; (first | with_reducible refine use1 (rvalid_c _ _) ?_ | with_reducible refine use (rvalid_c _ _) ?_); intro pw))
    first | refine region_quiet1 (by kernel_rfl) ?_ | refine region_quiet (by kernel_rfl) ?_
    repeat (go_big_quiet_step (first | (go_at_call 31; with_reducible exact quiet0 (mul64_c x y ua0 (by omega) ub0 (by omega) _))))
    refine wpQuiet_nil ?_
    intro _
    go_wp2_with (first | (go_at_call 32; (first | with_reducible refine use1 (div64_c _ _ _ _ h4 h2 h3 h1 (by omega)) ?_ | with_reducible refine use (div64_c _ _ _ _ h4 h2 h3 h1 (by omega)) ?_); intro pw))
    go_ret
    exact ⟨by rw [← hn.out]; exact congrArg (fun x => Ending.returned (Value.int .u64 (x % p))) e.out, (by repeat (first | exact Below.refl _ _ | refine Below.later ?_ _ | refine Below.box ?_ _ | refine Below.drew ?_ | refine Below.put ?_ (by dsimp only; omega) _))⟩

end Go.Proofs.Ytkpkgjniicnkcaa
