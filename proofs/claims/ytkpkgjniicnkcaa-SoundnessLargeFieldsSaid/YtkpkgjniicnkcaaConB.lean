/- The contracts of package field's exported operations on single numbers, and of powers. -/
import Derived.Test.YtkpkgjniicnkcaaConA
import Derived.WalkSmall
namespace Go.Proofs.Ytkpkgjniicnkcaa
open Go.RowKit

/-- A 64-bit number. -/
def U (x : Int) : Prop := 0 ≤ x ∧ x < 18446744073709551616

theorem emod_U {p a : Int} (h : vld p = true) : 0 ≤ a % p ∧ a % p < p := by
  have := vld_pos h
  exact ⟨Int.emod_nonneg _ (by omega), Int.emod_lt_of_pos _ (by omega)⟩

theorem emod_lt_pos (a : Int) {p : Int} (h : 0 < p) : a % p < p := Int.emod_lt_of_pos a h
theorem emod_nonneg_pos (a : Int) {p : Int} (h : 0 < p) : 0 ≤ a % p := Int.emod_nonneg a (Int.ne_of_gt h)

theorem red_c (p a : Int) (w : World) (ha : U a) : Calls Try.prog 87 #[.agg #[.int .u64 p], .int .u64 a] w (Gives (.int .u64 (fred p a)) w) := by
  obtain ⟨a0, a1⟩ := ha
  cases hv : vld p
  · go_enter Try.func87, Try.ntmps87
    go_wp2_with (first | (go_at_call 73; (first | with_reducible refine use1 (valid_c _ _) ?_ | with_reducible refine use (valid_c _ _) ?_); intro pw))
    go_ret
    exact ⟨by simp [fred, hv], (by repeat (first | exact Below.refl _ _ | refine Below.later ?_ _ | refine Below.box ?_ _ | refine Below.drew ?_ | refine Below.put ?_ (by dsimp only; omega) _))⟩
  · have hp := vld_pos hv
    go_enter Try.func87, Try.ntmps87
    go_wp2_with (first | (go_at_call 73; (first | with_reducible refine use1 (valid_c _ _) ?_ | with_reducible refine use (valid_c _ _) ?_); intro pw) | (go_at_call 75; (first | with_reducible refine use1 (reduced_c p a _ (by omega) a0) ?_ | with_reducible refine use (reduced_c p a _ (by omega) a0) ?_); intro pw))
    go_ret
    exact ⟨by simp [fred, hv], (by repeat (first | exact Below.refl _ _ | refine Below.later ?_ _ | refine Below.box ?_ _ | refine Below.drew ?_ | refine Below.put ?_ (by dsimp only; omega) _))⟩

theorem add_c (p a b : Int) (w : World) (ha : U a) (hb : U b) : Calls Try.prog 51 #[.agg #[.int .u64 p], .int .u64 a, .int .u64 b] w (Gives (.int .u64 (fadd p a b)) w) := by
  obtain ⟨a0, a1⟩ := ha
  obtain ⟨b0, b1⟩ := hb
  cases hv : vld p
  · go_enter Try.func51, Try.ntmps51
    go_wp2_with (first | (go_at_call 73; (first | with_reducible refine use1 (valid_c _ _) ?_ | with_reducible refine use (valid_c _ _) ?_); intro pw))
    go_ret
    exact ⟨by simp [fadd, hv], (by repeat (first | exact Below.refl _ _ | refine Below.later ?_ _ | refine Below.box ?_ _ | refine Below.drew ?_ | refine Below.put ?_ (by dsimp only; omega) _))⟩
  · have hp := vld_pos hv
    obtain ⟨ua0, ua1⟩ := emod_U (a := a) hv
    obtain ⟨ub0, ub1⟩ := emod_U (a := b) hv
    go_enter Try.func51, Try.ntmps51
    go_wp2_with (first | (go_at_call 73; (first | with_reducible refine use1 (valid_c _ _) ?_ | with_reducible refine use (valid_c _ _) ?_); intro pw))
    first | refine region_quiet1 (by kernel_rfl) ?_ | refine region_quiet (by kernel_rfl) ?_
    repeat (go_big_quiet_step (first | (go_at_call 75; with_reducible exact quiet (reduced_c p _ _ (by omega) (by omega))) | (go_at_call 74; with_reducible exact quiet (add_c0 p _ _ _ (by omega) ua0 ua1 ub0 ub1))))
    refine wpQuiet_nil ?_
    intro _
    go_wp2
    go_ret
    exact ⟨by simp [fadd, hv], (by repeat (first | exact Below.refl _ _ | refine Below.later ?_ _ | refine Below.box ?_ _ | refine Below.drew ?_ | refine Below.put ?_ (by dsimp only; omega) _))⟩

theorem neg_emod_pos {p a : Int} (hp : 0 < p) (h : a % p ≠ 0) : (-a) % p = p - a % p := by
  have h0 := Int.emod_nonneg a (Int.ne_of_gt hp)
  have h1 := Int.emod_lt_of_pos a hp
  rw [← em_neg, ← Int.add_emod_right, Int.emod_eq_of_lt (by omega) (by omega)]
  omega
theorem fneg_U {p a : Int} : U (fneg p a) := by
  unfold fneg; split
  · rename_i h
    have := vld_pos h
    obtain ⟨h0, h1⟩ := emod_U (a := -a) h
    exact ⟨h0, by omega⟩
  · exact ⟨by omega, by omega⟩

theorem neg_c (p a : Int) (w : World) (ha : U a) : Calls Try.prog 83 #[.agg #[.int .u64 p], .int .u64 a] w (Gives (.int .u64 (fneg p a)) w) := by
  cases hv : vld p
  · have hf : fred p a = 0 := by simp [fred, hv]
    have hn : Hid (fneg p a = 0) := by simp [Hid, fneg, hv]
    go_enter Try.func83, Try.ntmps83
    go_wp2_with (first | (go_at_call 87; (first | with_reducible refine use1 (red_c _ _ _ ha) ?_ | with_reducible refine use (red_c _ _ _ ha) ?_); intro pw))
    go_ret
    exact ⟨by rw [hn.out]; rfl, (by repeat (first | exact Below.refl _ _ | refine Below.later ?_ _ | refine Below.box ?_ _ | refine Below.drew ?_ | refine Below.put ?_ (by dsimp only; omega) _))⟩
  · have hp := vld_pos hv
    obtain ⟨u0, u1⟩ := emod_U (a := a) hv
    obtain ⟨r, hr⟩ : ∃ r, fred p a = r := ⟨_, rfl⟩
    have hr' : Hid (r = a % p) := by rw [← hr]; simp [Hid, fred, hv]
    have r0 : 0 ≤ r := by rw [hr'.out]; exact u0
    have r1 : r < p := by rw [hr'.out]; exact u1
    by_cases hz : r = 0
    · have hb : (r == 0) = true := by simp [hz]
      have hn : Hid (fneg p a = 0) := by
        have : a % p = 0 := by rw [← hr'.out, hz]
        show _ = _
        rw [fneg, if_pos hv, ← em_neg, this]; rfl
      clear hz
      go_enter Try.func83, Try.ntmps83
      go_wp2_with (first | (go_at_call 87; (first | with_reducible refine use1 (red_c _ _ _ ha) ?_ | with_reducible refine use (red_c _ _ _ ha) ?_); intro pw))
      go_ret
      exact ⟨by rw [hn.out]; rfl, (by repeat (first | exact Below.refl _ _ | refine Below.later ?_ _ | refine Below.box ?_ _ | refine Below.drew ?_ | refine Below.put ?_ (by dsimp only; omega) _))⟩
    · have hb : (r == 0) = false := by simp [hz]
      have hn : Hid (fneg p a = p - r) := by
        show _ = _
        rw [fneg, if_pos hv, neg_emod_pos (by omega) (by rw [← hr'.out]; exact hz), hr'.out]
      go_enter Try.func83, Try.ntmps83
      go_wp2_with (first | (go_at_call 87; (first | with_reducible refine use1 (red_c _ _ _ ha) ?_ | with_reducible refine use (red_c _ _ _ ha) ?_); intro pw))
      go_ret
      exact ⟨by rw [hn.out]; rfl, (by repeat (first | exact Below.refl _ _ | refine Below.later ?_ _ | refine Below.box ?_ _ | refine Below.drew ?_ | refine Below.put ?_ (by dsimp only; omega) _))⟩

theorem fsub_eq (p a b : Int) : fsub p a b = fadd p a (fneg p b) := by
  unfold fsub fadd fneg
  split
  · rw [em_add_r, Int.sub_eq_add_neg]
  · rfl
theorem sub_c (p a b : Int) (w : World) (ha : U a) (hb : U b) : Calls Try.prog 65 #[.agg #[.int .u64 p], .int .u64 a, .int .u64 b] w (Gives (.int .u64 (fsub p a b)) w) := by
  go_enter Try.func65, Try.ntmps65
  go_wp2_with fail
  first | refine region_quiet1 (by kernel_rfl) ?_ | refine region_quiet (by kernel_rfl) ?_
  repeat (go_big_quiet_step (first | (go_at_call 83; with_reducible exact quiet (neg_c p b _ hb)) | (go_at_call 51; with_reducible exact quiet (add_c p a _ _ ha fneg_U))))
  refine wpQuiet_nil ?_
  intro _
  go_wp2
  go_ret
  exact ⟨by rw [fsub_eq]; rfl, (by repeat (first | exact Below.refl _ _ | refine Below.later ?_ _ | refine Below.box ?_ _ | refine Below.drew ?_ | refine Below.put ?_ (by dsimp only; omega) _))⟩

theorem mul_c (p a b : Int) (w : World) (ha : U a) (hb : U b) : Calls Try.prog 66 #[.agg #[.int .u64 p], .int .u64 a, .int .u64 b] w (Gives (.int .u64 (fmul p a b)) w) := by
  obtain ⟨a0, a1⟩ := ha
  obtain ⟨b0, b1⟩ := hb
  cases hv : vld p
  · go_enter Try.func66, Try.ntmps66
    go_wp2_with (first | (go_at_call 73; (first | with_reducible refine use1 (valid_c _ _) ?_ | with_reducible refine use (valid_c _ _) ?_); intro pw))
    go_ret
    exact ⟨by simp [fmul, hv], (by repeat (first | exact Below.refl _ _ | refine Below.later ?_ _ | refine Below.box ?_ _ | refine Below.drew ?_ | refine Below.put ?_ (by dsimp only; omega) _))⟩
  · have hp := vld_pos hv
    obtain ⟨ua0, ua1⟩ := emod_U (a := a) hv
    obtain ⟨ub0, ub1⟩ := emod_U (a := b) hv
    have e : Hid ((a % p * (b % p)) % p = fmul p a b) := by show _ = _; rw [em_mul_l, em_mul_r, fmul, if_pos hv]
    go_enter Try.func66, Try.ntmps66
    go_wp2_with (first | (go_at_call 73; (first | with_reducible refine use1 (valid_c _ _) ?_ | with_reducible refine use (valid_c _ _) ?_); intro pw))
    first | refine region_quiet1 (by kernel_rfl) ?_ | refine region_quiet (by kernel_rfl) ?_
    repeat (go_big_quiet_step (first | (go_at_call 75; with_reducible exact quiet (reduced_c p _ _ (by omega) (by omega))) | (go_at_call 76; with_reducible exact quiet (mul_c0 p _ _ _ (by omega) ua0 ua1 ub0 ub1))))
    refine wpQuiet_nil ?_
    intro _
    go_wp2
    go_ret
    exact ⟨by rw [← e.out]; rfl, (by repeat (first | exact Below.refl _ _ | refine Below.later ?_ _ | refine Below.box ?_ _ | refine Below.drew ?_ | refine Below.put ?_ (by dsimp only; omega) _))⟩

end Go.Proofs.Ytkpkgjniicnkcaa
