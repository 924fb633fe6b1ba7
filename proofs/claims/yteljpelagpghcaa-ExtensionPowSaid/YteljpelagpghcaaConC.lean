/- The contracts of powers, inverses, quotients and roots in package field. -/
import Derived.Test.YteljpelagpghcaaConB
namespace Go.Proofs.Yteljpelagpghcaa
open Go.RowKit

/-- The power that is still to come: R * A ^ E stays what it is. -/
theorem pow_odd {p R A a : Int} {E e : Nat} (h : (R * A ^ E) % p = a ^ e % p) (ho : E % 2 = 1) : (((R * A) % p) * ((A * A) % p) ^ (E / 2)) % p = a ^ e % p := by
  rw [← h, ← em_mul_r, em_pow, em_mul_l, em_mul_r]
  congr 1
  conv => rhs; rw [show E = 2 * (E / 2) + 1 from by omega, Int.pow_succ, Int.pow_mul]
  rw [show A ^ 2 = A * A from by rw [Int.pow_succ, Int.pow_succ, Int.pow_zero, Int.one_mul], Int.mul_assoc R, Int.mul_comm A]
theorem pow_even {p R A a : Int} {E e : Nat} (h : (R * A ^ E) % p = a ^ e % p) (ho : E % 2 = 0) : (R * ((A * A) % p) ^ (E / 2)) % p = a ^ e % p := by
  rw [← h, ← em_mul_r, em_pow, em_mul_r]
  congr 1
  conv => rhs; rw [show E = 2 * (E / 2) from by omega, Int.pow_mul]
  rw [show A ^ 2 = A * A from by rw [Int.pow_succ, Int.pow_succ, Int.pow_zero, Int.one_mul]]

/-- A number below 2 to the 64, behind a name. -/
structure BigB (n : Nat) : Prop where
  out : (n : Int) < 18446744073709551616

set_option maxHeartbeats 1000000 in
theorem pow_c0 (p a : Int) (e : Nat) (w : World) (hp0 : 1 < p) (hp' : p < 18446744073709551616) (ha : 0 ≤ a) (ha' : a < p) (he : (e : Int) < 18446744073709551616) :
    Calls Try.prog 53 #[.agg #[.int .u64 p], .int .u64 a, .int .u64 e] w (Gives (.int .u64 (a ^ e % p)) w) := by
  go_enter Try.func53, Try.ntmps53
  go_wp2_with fail
  go_loopw [1, 2, 7] (fun va ve vr wr => ∃ (A R : Int) (E : Nat) (q : Regrown), va = .int .u64 A ∧ ve = .int .u64 (E : Int) ∧ vr = .int .u64 R ∧ wr = after (w.alloc (.cells #[.int .u64 p] 29)) q ∧ 0 ≤ A ∧ A < p ∧ 0 ≤ R ∧ R < p ∧ BigB E ∧ Hid ((R * A ^ E) % p = a ^ e % p)) (fun _ ve _ _ => (intOf ve).toNat)
  case atStart => exact ⟨a, 1, e, ⟨w.drawn, #[]⟩, rfl, rfl, rfl, by simp [after_eq, Go.Sort.grow_empty]; rfl, ha, ha', by omega, by omega, ⟨he⟩, by simp [Hid]⟩
  case round =>
    obtain ⟨A, R, E, q, rfl, rfl, rfl, rfl, hA0, hA1, hR0, hR1, hE, hI⟩ := hrel
    clear he ha ha'
    have hand : bits .and .u64 (E : Int) 1 = ((E % 2 : Nat) : Int) := by have := hE.out; rw [and_one_u64 _ (by omega) (by omega)]; omega
    have hA2 := emod_lt_pos (A * A) (p := p) (by omega)
    have hA3 := emod_nonneg_pos (A * A) (p := p) (by omega)
    have hR2 := emod_lt_pos (R * A) (p := p) (by omega)
    have hR3 := emod_nonneg_pos (R * A) (p := p) (by omega)
    by_cases h0 : E = 0
    · subst h0
      have e0 : Hid (R = a ^ e % p) := by have := hI.out; rw [Int.pow_zero, Int.mul_one, Int.emod_eq_of_lt hR0 hR1] at this; exact this
      clear hI hand
      go_wp2_with fail
      go_ret
      exact ⟨by rw [← e0.out]; rfl, (by repeat (first | exact Below.refl _ _ | refine Below.later ?_ _ | refine Below.box ?_ _ | refine Below.drew ?_ | refine Below.put ?_ (by dsimp only; omega) _))⟩
    · have h1 : (0 : Int) < (E : Int) := by omega
      by_cases ho : E % 2 = 1
      · have hand1 : bits .and .u64 (E : Int) 1 = 1 := by rw [hand, ho]; rfl
        clear hand
        have hI2 : Hid ((((R * A) % p) * ((A * A) % p) ^ (E / 2)) % p = a ^ e % p) := pow_odd hI.out ho
        by_cases h2 : E / 2 = 0
        · have hI3 : Hid ((((R * A) % p) * A ^ (E / 2)) % p = a ^ e % p) := by have := hI2.out; rw [h2, Int.pow_zero] at this; rw [h2, Int.pow_zero]; exact this
          have h3 : ¬ (0 : Int) < (E : Int) / 2 := by omega
          clear hI hI2
          go_wp2_with (first | (go_at_call 51; (first | with_reducible refine use1 (mul_c0 p R A _ hp' hR0 hR1 hA0 hA1) ?_ | with_reducible refine use (mul_c0 p R A _ hp' hR0 hR1 hA0 hA1) ?_); intro pw) | (go_at_call 51; (first | with_reducible refine use1 (mul_c0 p A A _ hp' hA0 hA1 hA0 hA1) ?_ | with_reducible refine use (mul_c0 p A A _ hp' hA0 hA1 hA0 hA1) ?_); intro pw))
          go_roundw
          case rel => exact ⟨A, ((R * A) % p), E / 2, _, rfl, by go_num, rfl, rfl, by assumption, by assumption, by assumption, by assumption, ⟨by have := hE.out; omega⟩, hI3⟩
          case measure => first | (simp [intOf]; omega) | (simp [intOf]; done)
        · have h3 : (0 : Int) < (E : Int) / 2 := by omega
          clear hI
          go_wp2_with (first | (go_at_call 51; (first | with_reducible refine use1 (mul_c0 p R A _ hp' hR0 hR1 hA0 hA1) ?_ | with_reducible refine use (mul_c0 p R A _ hp' hR0 hR1 hA0 hA1) ?_); intro pw) | (go_at_call 51; (first | with_reducible refine use1 (mul_c0 p A A _ hp' hA0 hA1 hA0 hA1) ?_ | with_reducible refine use (mul_c0 p A A _ hp' hA0 hA1 hA0 hA1) ?_); intro pw))
          go_roundw
          case rel => exact ⟨(A * A) % p, ((R * A) % p), E / 2, _, rfl, by go_num, rfl, rfl, by assumption, by assumption, by assumption, by assumption, ⟨by have := hE.out; omega⟩, hI2⟩
          case measure => first | (simp [intOf]; omega) | (simp [intOf]; done)
      · have ho : E % 2 = 0 := by omega
        have hand1 : bits .and .u64 (E : Int) 1 = 0 := by rw [hand, ho]; rfl
        clear hand
        have hI2 : Hid ((R * ((A * A) % p) ^ (E / 2)) % p = a ^ e % p) := pow_even hI.out ho
        by_cases h2 : E / 2 = 0
        · exfalso; omega
        · have h3 : (0 : Int) < (E : Int) / 2 := by omega
          clear hI
          go_wp2_with (first | (go_at_call 51; (first | with_reducible refine use1 (mul_c0 p R A _ hp' hR0 hR1 hA0 hA1) ?_ | with_reducible refine use (mul_c0 p R A _ hp' hR0 hR1 hA0 hA1) ?_); intro pw) | (go_at_call 51; (first | with_reducible refine use1 (mul_c0 p A A _ hp' hA0 hA1 hA0 hA1) ?_ | with_reducible refine use (mul_c0 p A A _ hp' hA0 hA1 hA0 hA1) ?_); intro pw))
          go_roundw
          case rel => exact ⟨(A * A) % p, R, E / 2, _, rfl, by go_num, rfl, rfl, by assumption, by assumption, by assumption, by assumption, ⟨by have := hE.out; omega⟩, hI2⟩
          case measure => first | (simp [intOf]; omega) | (simp [intOf]; done)

theorem inv_c (p a : Int) (w : World) (hp : U p) (ha : U a) : Calls Try.prog 39 #[.agg #[.int .u64 p], .int .u64 a] w (Gives (.int .u64 (finv p a)) w) := by
  obtain ⟨a0, a1⟩ := ha
  obtain ⟨p0, p1⟩ := hp
  cases hv : vld p
  · have hn : Kept (finv p a = 0) := ⟨by simp [finv, fpow, hv]⟩
    go_enter Try.func39, Try.ntmps39
    go_wp2_with (first | (go_at_call 49; (first | with_reducible refine use1 (valid_c _ _) ?_ | with_reducible refine use (valid_c _ _) ?_); intro pw))
    go_ret
    exact ⟨by rw [hn.out]; rfl, (by repeat (first | exact Below.refl _ _ | refine Below.later ?_ _ | refine Below.box ?_ _ | refine Below.drew ?_ | refine Below.put ?_ (by dsimp only; omega) _))⟩
  · have hp := vld_pos hv
    obtain ⟨e, he⟩ : ∃ e : Nat, (e : Int) = p - 2 := ⟨(p - 2).toNat, by omega⟩
    have hn : Kept ((a % p) ^ e % p = finv p a) := ⟨by rw [em_pow, finv, fpow, if_pos hv]; congr 2; omega⟩
    obtain ⟨ua0, ua1⟩ := emod_U (a := a) hv
    have c : Kept (∀ w, Calls Try.prog 53 #[.agg #[.int .u64 p], .int .u64 (a % p), .int .u64 (p - 2)] w (Gives (.int .u64 ((a % p) ^ e % p)) w)) :=
      ⟨fun w => by rw [← he]; exact pow_c0 p (a % p) e w (by omega) (by omega) ua0 ua1 (by omega)⟩
    clear he
    go_enter Try.func39, Try.ntmps39
    go_wp2_with (first | (go_at_call 49; (first | with_reducible refine use1 (valid_c _ _) ?_ | with_reducible refine use (valid_c _ _) ?_); intro pw))
    first | refine region_quiet1 (by kernel_rfl) ?_ | refine region_quiet (by kernel_rfl) ?_
    repeat (go_big_quiet_step (first | (go_at_call 50; with_reducible exact quiet (reduced_c p _ _ (by omega) (by omega))) | (go_at_call 53; with_reducible exact quiet (c.out _))))
    refine wpQuiet_nil ?_
    intro _
    go_wp2
    go_ret
    exact ⟨by rw [← hn.out]; rfl, (by repeat (first | exact Below.refl _ _ | refine Below.later ?_ _ | refine Below.box ?_ _ | refine Below.drew ?_ | refine Below.put ?_ (by dsimp only; omega) _))⟩

theorem fpow_U {p a : Int} {e : Nat} : U (fpow p a e) := by
  unfold fpow; split
  · rename_i h
    have := vld_pos h
    obtain ⟨h0, h1⟩ := emod_U (a := a ^ e) h
    exact ⟨h0, by omega⟩
  · exact ⟨by omega, by omega⟩
theorem finv_U {p a : Int} : U (finv p a) := fpow_U
theorem fmul_U {p a b : Int} : U (fmul p a b) := by
  unfold fmul; split
  · rename_i h
    have := vld_pos h
    obtain ⟨h0, h1⟩ := emod_U (a := a * b) h
    exact ⟨h0, by omega⟩
  · exact ⟨by omega, by omega⟩
theorem fadd_U {p a b : Int} : U (fadd p a b) := by
  unfold fadd; split
  · rename_i h
    have := vld_pos h
    obtain ⟨h0, h1⟩ := emod_U (a := a + b) h
    exact ⟨h0, by omega⟩
  · exact ⟨by omega, by omega⟩
theorem fsub_U {p a b : Int} : U (fsub p a b) := by rw [fsub_eq]; exact fadd_U
theorem fred_U {p a : Int} : U (fred p a) := by
  unfold fred; split
  · rename_i h
    have := vld_pos h
    obtain ⟨h0, h1⟩ := emod_U (a := a) h
    exact ⟨h0, by omega⟩
  · exact ⟨by omega, by omega⟩
theorem gen_U {p : Int} : U (gen p) := by
  unfold gen
  (repeat' split) <;> exact ⟨by omega, by omega⟩

end Go.Proofs.Yteljpelagpghcaa
