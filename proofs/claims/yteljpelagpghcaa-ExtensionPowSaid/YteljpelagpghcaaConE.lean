/- The contracts of package moidoreref01's functions on single numbers, over the table's row. -/
import Derived.Test.YteljpelagpghcaaConD
namespace Go.Proofs.Yteljpelagpghcaa
open Go.RowKit

@[go_sem] theorem index3_0 (x y z : Value) (w : World) : (Instr.index 53 (.agg #[x, y, z]) (.int .i64 0)).run Try.prog w = .ok x w := by kernel_rfl
@[go_sem] theorem index3_1 (x y z : Value) (w : World) : (Instr.index 53 (.agg #[x, y, z]) (.int .i64 1)).run Try.prog w = .ok y w := by kernel_rfl
@[go_sem] theorem index3_2 (x y z : Value) (w : World) : (Instr.index 53 (.agg #[x, y, z]) (.int .i64 2)).run Try.prog w = .ok z w := by kernel_rfl

theorem gen_pos (p : Int) : decide (0 < gen p) = vld p := by
  cases h : vld p
  · rw [(gen_none h).1]; rfl
  · rcases vld_cases h with rfl | rfl | rfl | rfl | rfl | rfl | rfl <;> rfl

theorem rvalid_c (p : Int) (w : World) : Calls Try.prog 31 #[.int .u64 p] w (Gives (.bool (vld p)) w) := by
  have e : Kept (decide (0 < gen p) = vld p) := ⟨gen_pos p⟩
  obtain ⟨g, hg⟩ : ∃ g, gen p = g := ⟨_, rfl⟩
  rw [hg] at e
  have c : Kept (∀ w, Calls Try.prog 48 #[.int .u64 p] w (Gives (.agg #[.int .u64 g, .int .u64 (adi p), .int .u64 (expo p)]) w)) := ⟨fun w => by rw [← hg]; exact row_c p w⟩
  clear hg
  go_enter Try.func31, Try.ntmps31
  go_wp2_with (first | (go_at_call 48; (first | with_reducible refine use1 (c.out _) ?_ | with_reducible refine use (c.out _) ?_); intro pw))
  go_ret
  exact ⟨by rw [← e.out]; rfl, (by repeat (first | exact Below.refl _ _ | refine Below.later ?_ _ | refine Below.box ?_ _ | refine Below.drew ?_ | refine Below.put ?_ (by dsimp only; omega) _))⟩
theorem rgen_c (p : Int) (w : World) : Calls Try.prog 47 #[.int .u64 p] w (Gives (.int .u64 (gen p)) w) := by
  go_enter Try.func47, Try.ntmps47
  go_wp2_with (first | (go_at_call 48; (first | with_reducible refine use1 (row_c _ _) ?_ | with_reducible refine use (row_c _ _) ?_); intro pw))
  go_ret
  exact ⟨rfl, (by repeat (first | exact Below.refl _ _ | refine Below.later ?_ _ | refine Below.box ?_ _ | refine Below.drew ?_ | refine Below.put ?_ (by dsimp only; omega) _))⟩
theorem rred_c (p a : Int) (w : World) (ha : U a) : Calls Try.prog 34 #[.int .u64 p, .int .u64 a] w (Gives (.int .u64 (fred p a)) w) := by
  obtain ⟨a0, a1⟩ := ha
  cases hv : vld p
  · go_enter Try.func34, Try.ntmps34
    go_wp2_with (first | (go_at_call 31; (first | with_reducible refine use1 (rvalid_c _ _) ?_ | with_reducible refine use (rvalid_c _ _) ?_); intro pw))
    go_ret
    exact ⟨by simp [fred, hv], (by repeat (first | exact Below.refl _ _ | refine Below.later ?_ _ | refine Below.box ?_ _ | refine Below.drew ?_ | refine Below.put ?_ (by dsimp only; omega) _))⟩
  · have hp := vld_pos hv
    go_enter Try.func34, Try.ntmps34
    go_wp2_with (first | (go_at_call 31; (first | with_reducible refine use1 (rvalid_c _ _) ?_ | with_reducible refine use (rvalid_c _ _) ?_); intro pw))
    go_ret
    exact ⟨by simp [fred, hv], (by repeat (first | exact Below.refl _ _ | refine Below.later ?_ _ | refine Below.box ?_ _ | refine Below.drew ?_ | refine Below.put ?_ (by dsimp only; omega) _))⟩

theorem radd_c (p a b : Int) (w : World) (ha : U a) (hb : U b) : Calls Try.prog 45 #[.int .u64 p, .int .u64 a, .int .u64 b] w (Gives (.int .u64 (fadd p a b)) w) := by
  obtain ⟨a0, a1⟩ := ha
  obtain ⟨b0, b1⟩ := hb
  cases hv : vld p
  · have hn : Kept (fadd p a b = 0) := ⟨by simp [fadd, hv]⟩
    go_enter Try.func45, Try.ntmps45
    go_wp2_with (first | (go_at_call 31; (first | with_reducible refine use1 (rvalid_c _ _) ?_ | with_reducible refine use (rvalid_c _ _) ?_); intro pw))
    go_ret
    exact ⟨by rw [hn.out]; rfl, (by repeat (first | exact Below.refl _ _ | refine Below.later ?_ _ | refine Below.box ?_ _ | refine Below.drew ?_ | refine Below.put ?_ (by dsimp only; omega) _))⟩
  · have hp := vld_pos hv
    obtain ⟨ua0, ua1⟩ := emod_U (a := a) hv
    obtain ⟨ub0, ub1⟩ := emod_U (a := b) hv
    obtain ⟨x, hx⟩ : ∃ x, a % p = x := ⟨_, rfl⟩
    obtain ⟨y, hy⟩ : ∃ y, b % p = y := ⟨_, rfl⟩
    have hn : Kept (fadd p a b = (x + y) % p) := ⟨by rw [← hx, ← hy, fadd, if_pos hv, ← Int.add_emod]⟩
    rw [hx] at ua0 ua1
    rw [hy] at ub0 ub1
    by_cases hc : p - y ≤ x
    · have hn2 : Kept (fadd p a b = x - (p - y)) := ⟨by
        rw [hn.out, ← Int.sub_emod_right, Int.emod_eq_of_lt (by omega) (by omega)]; omega⟩
      clear hn
      go_enter Try.func45, Try.ntmps45
      go_wp2_with (first | (go_at_call 31; (first | with_reducible refine use1 (rvalid_c _ _) ?_ | with_reducible refine use (rvalid_c _ _) ?_); intro pw))
      first | refine region_quiet1 (by kernel_rfl) ?_ | refine region_quiet (by kernel_rfl) ?_
      repeat (go_big_quiet_step (first | fail))
      refine wpQuiet_nil ?_
      intro _
      go_wp2
      go_ret
      exact ⟨by rw [hn2.out]; rfl, (by repeat (first | exact Below.refl _ _ | refine Below.later ?_ _ | refine Below.box ?_ _ | refine Below.drew ?_ | refine Below.put ?_ (by dsimp only; omega) _))⟩
    · have hn2 : Kept (fadd p a b = x + y) := ⟨by rw [hn.out, Int.emod_eq_of_lt (by omega) (by omega)]⟩
      clear hn
      go_enter Try.func45, Try.ntmps45
      go_wp2_with (first | (go_at_call 31; (first | with_reducible refine use1 (rvalid_c _ _) ?_ | with_reducible refine use (rvalid_c _ _) ?_); intro pw))
      first | refine region_quiet1 (by kernel_rfl) ?_ | refine region_quiet (by kernel_rfl) ?_
      repeat (go_big_quiet_step (first | fail))
      refine wpQuiet_nil ?_
      intro _
      go_wp2
      go_ret
      exact ⟨by rw [hn2.out]; rfl, (by repeat (first | exact Below.refl _ _ | refine Below.later ?_ _ | refine Below.box ?_ _ | refine Below.drew ?_ | refine Below.put ?_ (by dsimp only; omega) _))⟩

theorem rneg_c (p a : Int) (w : World) (ha : U a) : Calls Try.prog 35 #[.int .u64 p, .int .u64 a] w (Gives (.int .u64 (fneg p a)) w) := by
  cases hv : vld p
  · have hf : fred p a = 0 := by simp [fred, hv]
    have hn : Kept (fneg p a = 0) := ⟨by simp [fneg, hv]⟩
    go_enter Try.func35, Try.ntmps35
    go_wp2_with (first | (go_at_call 34; (first | with_reducible refine use1 (rred_c _ _ _ ha) ?_ | with_reducible refine use (rred_c _ _ _ ha) ?_); intro pw))
    go_ret
    exact ⟨by rw [hn.out]; rfl, (by repeat (first | exact Below.refl _ _ | refine Below.later ?_ _ | refine Below.box ?_ _ | refine Below.drew ?_ | refine Below.put ?_ (by dsimp only; omega) _))⟩
  · have hp := vld_pos hv
    obtain ⟨u0, u1⟩ := emod_U (a := a) hv
    obtain ⟨r, hr⟩ : ∃ r, fred p a = r := ⟨_, rfl⟩
    have hr' : Kept (r = a % p) := ⟨by rw [← hr]; simp [fred, hv]⟩
    have r0 : 0 ≤ r := by rw [hr'.out]; exact u0
    have r1 : r < p := by rw [hr'.out]; exact u1
    by_cases hz : r = 0
    · have hb : (r == 0) = true := by simp [hz]
      have hn : Kept (fneg p a = 0) := ⟨by
        have : a % p = 0 := by rw [← hr'.out, hz]
        rw [fneg, if_pos hv, ← em_neg, this]; rfl⟩
      clear hz
      go_enter Try.func35, Try.ntmps35
      go_wp2_with (first | (go_at_call 34; (first | with_reducible refine use1 (rred_c _ _ _ ha) ?_ | with_reducible refine use (rred_c _ _ _ ha) ?_); intro pw))
      go_ret
      exact ⟨by rw [hn.out]; rfl, (by repeat (first | exact Below.refl _ _ | refine Below.later ?_ _ | refine Below.box ?_ _ | refine Below.drew ?_ | refine Below.put ?_ (by dsimp only; omega) _))⟩
    · have hb : (r == 0) = false := by simp [hz]
      have hn : Kept (fneg p a = p - r) := ⟨by rw [fneg, if_pos hv, neg_emod_pos (by omega) (by rw [← hr'.out]; exact hz), hr'.out]⟩
      go_enter Try.func35, Try.ntmps35
      go_wp2_with (first | (go_at_call 34; (first | with_reducible refine use1 (rred_c _ _ _ ha) ?_ | with_reducible refine use (rred_c _ _ _ ha) ?_); intro pw))
      go_ret
      exact ⟨by rw [hn.out]; rfl, (by repeat (first | exact Below.refl _ _ | refine Below.later ?_ _ | refine Below.box ?_ _ | refine Below.drew ?_ | refine Below.put ?_ (by dsimp only; omega) _))⟩

theorem rsub_c (p a b : Int) (w : World) (ha : U a) (hb : U b) : Calls Try.prog 46 #[.int .u64 p, .int .u64 a, .int .u64 b] w (Gives (.int .u64 (fsub p a b)) w) := by
  go_enter Try.func46, Try.ntmps46
  go_wp2_with (first | (go_at_call 35; (first | with_reducible refine use1 (rneg_c p b _ hb) ?_ | with_reducible refine use (rneg_c p b _ hb) ?_); intro pw) | (go_at_call 45; (first | with_reducible refine use1 (radd_c p a _ _ ha fneg_U) ?_ | with_reducible refine use (radd_c p a _ _ ha fneg_U) ?_); intro pw))
  go_ret
  exact ⟨by rw [fsub_eq]; rfl, (by repeat (first | exact Below.refl _ _ | refine Below.later ?_ _ | refine Below.box ?_ _ | refine Below.drew ?_ | refine Below.put ?_ (by dsimp only; omega) _))⟩

theorem rmul_c (p a b : Int) (w : World) (ha : U a) (hb : U b) : Calls Try.prog 23 #[.int .u64 p, .int .u64 a, .int .u64 b] w (Gives (.int .u64 (fmul p a b)) w) := by
  obtain ⟨a0, a1⟩ := ha
  obtain ⟨b0, b1⟩ := hb
  cases hv : vld p
  · have hn : Kept (fmul p a b = 0) := ⟨by simp [fmul, hv]⟩
    go_enter Try.func23, Try.ntmps23
    go_wp2_with (first | (go_at_call 31; (first | with_reducible refine use1 (rvalid_c _ _) ?_ | with_reducible refine use (rvalid_c _ _) ?_); intro pw))
    go_ret
    exact ⟨by rw [hn.out]; rfl, (by repeat (first | exact Below.refl _ _ | refine Below.later ?_ _ | refine Below.box ?_ _ | refine Below.drew ?_ | refine Below.put ?_ (by dsimp only; omega) _))⟩
  · have hp := vld_pos hv
    obtain ⟨ua0, ua1⟩ := emod_U (a := a) hv
    obtain ⟨ub0, ub1⟩ := emod_U (a := b) hv
    have hn : Kept ((a % p) * (b % p) % p = fmul p a b) := ⟨by rw [fmul, if_pos hv, em_mul_l, em_mul_r]⟩
    obtain ⟨x, hx⟩ : ∃ x, a % p = x := ⟨_, rfl⟩
    obtain ⟨y, hy⟩ : ∃ y, b % p = y := ⟨_, rfl⟩
    rw [hx, hy] at hn
    rw [hx] at ua0 ua1
    rw [hy] at ub0 ub1
    obtain ⟨h0, h1⟩ := mul_hi_lt (by omega) ua0 ua1 ub0 ub1
    have h2 := Int.emod_nonneg (x * y) (b := 18446744073709551616) (by omega)
    have h3 := Int.emod_lt_of_pos (x * y) (b := 18446744073709551616) (by omega)
    have h4 : 0 ≤ x * y / 18446744073709551616 := Int.ediv_nonneg h0 (by omega)
    have e : Kept (x * y / 18446744073709551616 * 18446744073709551616 + x * y % 18446744073709551616 = x * y) := ⟨Int.ediv_mul_add_emod _ _⟩
    go_enter Try.func23, Try.ntmps23
    go_wp2_with (first | (go_at_call 31; (first | with_reducible refine use1 (rvalid_c _ _) ?_ | with_reducible refine use (rvalid_c _ _) ?_); intro pw))
    first | refine region_quiet1 (by kernel_rfl) ?_ | refine region_quiet (by kernel_rfl) ?_
    repeat (go_big_quiet_step (first | (go_at_call 43; with_reducible exact quiet0 (mul64_c x y ua0 (by omega) ub0 (by omega) _))))
    refine wpQuiet_nil ?_
    intro _
    go_wp2_with (first | (go_at_call 44; (first | with_reducible refine use1 (div64_c _ _ _ _ h4 h2 h3 h1 (by omega)) ?_ | with_reducible refine use (div64_c _ _ _ _ h4 h2 h3 h1 (by omega)) ?_); intro pw))
    go_ret
    exact ⟨by rw [← hn.out]; exact congrArg (fun x => Ending.returned (Value.int .u64 (x % p))) e.out, (by repeat (first | exact Below.refl _ _ | refine Below.later ?_ _ | refine Below.box ?_ _ | refine Below.drew ?_ | refine Below.put ?_ (by dsimp only; omega) _))⟩

set_option maxHeartbeats 1000000 in
theorem rpow_c (p a e : Int) (w : World) (ha : U a) (he : U e) : Calls Try.prog 54 #[.int .u64 p, .int .u64 a, .int .u64 e] w (Gives (.int .u64 (fpow p a e.toNat)) w) := by
  obtain ⟨a0, a1⟩ := ha
  obtain ⟨e0, e1⟩ := he
  obtain ⟨e, rfl⟩ := Int.eq_ofNat_of_zero_le e0
  rw [Int.toNat_natCast]
  cases hv : vld p
  · have hn : Kept (fpow p a e = 0) := ⟨by simp [fpow, hv]⟩
    clear e1 e0
    go_enter Try.func54, Try.ntmps54
    go_wp2_with (first | (go_at_call 31; (first | with_reducible refine use1 (rvalid_c _ _) ?_ | with_reducible refine use (rvalid_c _ _) ?_); intro pw))
    go_ret
    exact ⟨by rw [hn.out]; rfl, (by repeat (first | exact Below.refl _ _ | refine Below.later ?_ _ | refine Below.box ?_ _ | refine Below.drew ?_ | refine Below.put ?_ (by dsimp only; omega) _))⟩
  · have hp := vld_pos hv
    have hn : Kept (fpow p a e = (a % p) ^ e % p) := ⟨by rw [em_pow, fpow, if_pos hv]⟩
    obtain ⟨ua0, ua1⟩ := emod_U (a := a) hv
    have he : BigB e := ⟨e1⟩
    clear e1 e0
    obtain ⟨x, hx⟩ : ∃ x, a % p = x := ⟨_, rfl⟩
    rw [hx] at ua0 ua1 hn
    go_enter Try.func54, Try.ntmps54
    go_wp2_with (first | (go_at_call 31; (first | with_reducible refine use1 (rvalid_c _ _) ?_ | with_reducible refine use (rvalid_c _ _) ?_); intro pw))
    go_loopw [1, 2, 7] (fun va ve vr wr => ∃ (A R : Int) (E : Nat) (q : Regrown), va = .int .u64 A ∧ ve = .int .u64 (E : Int) ∧ vr = .int .u64 R ∧ wr = after w q ∧ 0 ≤ A ∧ A < p ∧ 0 ≤ R ∧ R < p ∧ BigB E ∧ Kept ((R * A ^ E) % p = x ^ e % p)) (fun _ ve _ _ => (intOf ve).toNat)
    case atStart => exact ⟨x, 1, e, _, by rw [hx], rfl, rfl, rfl, ua0, ua1, by omega, by omega, he, ⟨by simp⟩⟩
    case round =>
      obtain ⟨A, R, E, q, rfl, rfl, rfl, rfl, hA0, hA1, hR0, hR1, hE, hI⟩ := hrel
      clear ua0 ua1 hx
      have hwr : IntKind.u64.wrap ((E : Int) / 2) = ((E / 2 : Nat) : Int) := by have := hE.out; rw [IntKind.wrap_u64]; omega
      have hA2 := emod_lt_pos (A * A) (p := p) (by omega)
      have hA3 := emod_nonneg_pos (A * A) (p := p) (by omega)
      have hR2 := emod_lt_pos (R * A) (p := p) (by omega)
      have hR3 := emod_nonneg_pos (R * A) (p := p) (by omega)
      have cA : Kept (∀ w, Calls Try.prog 23 #[.int .u64 p, .int .u64 A, .int .u64 A] w (Gives (.int .u64 (A * A % p)) w)) := ⟨fun w => by have := rmul_c p A A w ⟨hA0, by omega⟩ ⟨hA0, by omega⟩; rw [fmul, if_pos hv] at this; exact this⟩
      have cR : Kept (∀ w, Calls Try.prog 23 #[.int .u64 p, .int .u64 R, .int .u64 A] w (Gives (.int .u64 (R * A % p)) w)) := ⟨fun w => by have := rmul_c p R A w ⟨hR0, by omega⟩ ⟨hA0, by omega⟩; rw [fmul, if_pos hv] at this; exact this⟩
      by_cases h0 : E = 0
      · subst h0
        have e0 : Kept (R = x ^ e % p) := ⟨by have := hI.out; rw [Int.pow_zero, Int.mul_one, Int.emod_eq_of_lt hR0 hR1] at this; exact this⟩
        clear hI
        go_wp2_with fail
        go_ret
        exact ⟨by rw [hn.out, ← e0.out]; rfl, (by repeat (first | exact Below.refl _ _ | refine Below.later ?_ _ | refine Below.box ?_ _ | refine Below.drew ?_ | refine Below.put ?_ (by dsimp only; omega) _))⟩
      · have h1 : (0 : Int) < (E : Int) := by omega
        by_cases ho : E % 2 = 1
        · have hand1 : ((E : Int) % 2 == 1) = true := by simp; omega
          have hI2 : Kept ((((R * A) % p) * ((A * A) % p) ^ (E / 2)) % p = x ^ e % p) := ⟨pow_odd hI.out ho⟩
          clear hI
          go_wp2_with (first | (go_at_call 23; (first | with_reducible refine use1 (cR.out _) ?_ | with_reducible refine use (cR.out _) ?_); intro pw) | (go_at_call 23; (first | with_reducible refine use1 (cA.out _) ?_ | with_reducible refine use (cA.out _) ?_); intro pw))
          go_roundw
          case rel => exact ⟨(A * A) % p, ((R * A) % p), E / 2, _, rfl, by go_num, rfl, rfl, hA3, hA2, hR3, hR2, ⟨by have := hE.out; omega⟩, hI2⟩
          case measure => first | (simp [intOf]; omega) | (simp [intOf]; done)
        · have ho : E % 2 = 0 := by omega
          have hand1 : ((E : Int) % 2 == 1) = false := by simp; omega
          have hI2 : Kept ((R * ((A * A) % p) ^ (E / 2)) % p = x ^ e % p) := ⟨pow_even hI.out ho⟩
          clear hI
          go_wp2_with (first | (go_at_call 23; (first | with_reducible refine use1 (cA.out _) ?_ | with_reducible refine use (cA.out _) ?_); intro pw))
          go_roundw
          case rel => exact ⟨(A * A) % p, R, E / 2, _, rfl, by go_num, rfl, rfl, hA3, hA2, hR0, hR1, ⟨by have := hE.out; omega⟩, hI2⟩
          case measure => first | (simp [intOf]; omega) | (simp [intOf]; done)

theorem rinv_c (p a : Int) (w : World) (hp : U p) (ha : U a) : Calls Try.prog 40 #[.int .u64 p, .int .u64 a] w (Gives (.int .u64 (finv p a)) w) := by
  obtain ⟨p0, p1⟩ := hp
  cases hv : vld p
  · have hn : Kept (finv p a = 0) := ⟨by simp [finv, fpow, hv]⟩
    go_enter Try.func40, Try.ntmps40
    go_wp2_with (first | (go_at_call 31; (first | with_reducible refine use1 (rvalid_c _ _) ?_ | with_reducible refine use (rvalid_c _ _) ?_); intro pw))
    go_ret
    exact ⟨by rw [hn.out]; rfl, (by repeat (first | exact Below.refl _ _ | refine Below.later ?_ _ | refine Below.box ?_ _ | refine Below.drew ?_ | refine Below.put ?_ (by dsimp only; omega) _))⟩
  · have hp := vld_pos hv
    have hU : U (p - 2) := ⟨by omega, by omega⟩
    go_enter Try.func40, Try.ntmps40
    go_wp2_with (first | (go_at_call 31; (first | with_reducible refine use1 (rvalid_c _ _) ?_ | with_reducible refine use (rvalid_c _ _) ?_); intro pw) | (go_at_call 54; (first | with_reducible refine use1 (rpow_c p a (p - 2) _ ha hU) ?_ | with_reducible refine use (rpow_c p a (p - 2) _ ha hU) ?_); intro pw))
    go_ret
    exact ⟨rfl, (by repeat (first | exact Below.refl _ _ | refine Below.later ?_ _ | refine Below.box ?_ _ | refine Below.drew ?_ | refine Below.put ?_ (by dsimp only; omega) _))⟩
end Go.Proofs.Yteljpelagpghcaa
