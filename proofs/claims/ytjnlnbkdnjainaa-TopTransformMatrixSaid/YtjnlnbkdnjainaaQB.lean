/- Lemmas of several texts in one file: ConA, ConB, ConC, ConD, ConE. -/
import Derived.Test.YtjnlnbkdnjainaaQA
import Derived.Test.YtjnlnbkdnjainaaHDiv
import Derived.WalkSmall
/- The contracts of the functions of packages field and moidoreref01 that compute with single numbers: each call returns what the plain function says and lays at most new blocks. -/
namespace Go.Proofs.Ytjnlnbkdnjainaa
open Go.RowKit

theorem valid_c (p : Int) (w : World) : Calls Try.prog 50 #[.agg #[.int .u64 p]] w (Gives (.bool (vld p)) w) := by
  go_enter Try.func50, Try.ntmps50
  go_wp2
  all_goals (go_ret; exact ⟨by simp_all [vld], (by repeat (first | exact Below.refl _ _ | refine Below.later ?_ _ | refine Below.box ?_ _ | refine Below.drew ?_ | refine Below.put ?_ (by dsimp only; omega) _))⟩)

theorem reduced_c (p a : Int) (w : World) (hp : 0 < p) (ha : 0 ≤ a) : Calls Try.prog 51 #[.agg #[.int .u64 p], .int .u64 a] w (Gives (.int .u64 (a % p)) w) := by
  by_cases h : p ≤ a
  · go_enter Try.func51, Try.ntmps51
    go_wp2
    go_ret
    exact ⟨rfl, (by repeat (first | exact Below.refl _ _ | refine Below.later ?_ _ | refine Below.box ?_ _ | refine Below.drew ?_ | refine Below.put ?_ (by dsimp only; omega) _))⟩
  · have e : a % p = a := Int.emod_eq_of_lt ha (by omega)
    go_enter Try.func51, Try.ntmps51
    go_wp2
    go_ret
    exact ⟨rfl, (by repeat (first | exact Below.refl _ _ | refine Below.later ?_ _ | refine Below.box ?_ _ | refine Below.drew ?_ | refine Below.put ?_ (by dsimp only; omega) _))⟩

theorem add_c0 (p a b : Int) (w : World) (hp' : p < 18446744073709551616) (ha : 0 ≤ a) (ha' : a < p) (hb : 0 ≤ b) (hb' : b < p) : Calls Try.prog 77 #[.agg #[.int .u64 p], .int .u64 a, .int .u64 b] w (Gives (.int .u64 ((a + b) % p)) w) := by
  by_cases h1 : 18446744073709551616 ≤ a + b
  · have e1 : (a + b) / 18446744073709551616 = 1 := by omega
    have e2 : (a + b) % 18446744073709551616 = a + b - 18446744073709551616 := by omega
    have e3 : Hid ((a + b) % p = a + b - p) := by
      show _ = _
      rw [← Int.sub_emod_right]; exact Int.emod_eq_of_lt (by omega) (by omega)
    have e4 : IntKind.u64.wrap (a + b - 18446744073709551616 - p) = a + b - p := by rw [IntKind.wrap_u64]; omega
    go_enter Try.func77, Try.ntmps77
    go_wp2_with (simp only [add64 a b ha hb])
    go_ret
    exact ⟨by rw [e3.out]; rfl, (by repeat (first | exact Below.refl _ _ | refine Below.later ?_ _ | refine Below.box ?_ _ | refine Below.drew ?_ | refine Below.put ?_ (by dsimp only; omega) _))⟩
  · have e1 : (a + b) / 18446744073709551616 = 0 := by omega
    have e2 : (a + b) % 18446744073709551616 = a + b := by omega
    by_cases h2 : p ≤ a + b
    · have e3 : Hid ((a + b) % p = a + b - p) := by
        show _ = _
        rw [← Int.sub_emod_right]; exact Int.emod_eq_of_lt (by omega) (by omega)
      go_enter Try.func77, Try.ntmps77
      go_wp2_with (simp only [add64 a b ha hb])
      go_ret
      exact ⟨by rw [e3.out]; rfl, (by repeat (first | exact Below.refl _ _ | refine Below.later ?_ _ | refine Below.box ?_ _ | refine Below.drew ?_ | refine Below.put ?_ (by dsimp only; omega) _))⟩
    · have e3 : Hid ((a + b) % p = a + b) := Int.emod_eq_of_lt (by omega) (by omega)
      go_enter Try.func77, Try.ntmps77
      go_wp2_with (simp only [add64 a b ha hb])
      go_ret
      exact ⟨by rw [e3.out]; rfl, (by repeat (first | exact Below.refl _ _ | refine Below.later ?_ _ | refine Below.box ?_ _ | refine Below.drew ?_ | refine Below.put ?_ (by dsimp only; omega) _))⟩

/-- Div64: the quotient and the remainder of 128 bits by 64 bits. -/
theorem div64_c (hi lo y : Int) (w : World) (g0 : 0 ≤ hi) (h0 : 0 ≤ lo) (h0' : lo < 18446744073709551616) (hy : hi < y) (hy' : y < 18446744073709551616) :
    Calls Try.prog 76 #[.int .u64 hi, .int .u64 lo, .int .u64 y] w (Gives (.tuple #[.int .u64 ((hi * 18446744073709551616 + lo) / y), .int .u64 ((hi * 18446744073709551616 + lo) % y)]) w) := by
  by_cases h : hi = 0
  · subst h
    refine (div64_lo lo y w h0 h0' hy).mono ?_
    rintro e w' ⟨rfl, n, rfl⟩
    exact ⟨by rw [Int.zero_mul, Int.zero_add], ⟨rfl, rfl, rfl, Nat.le_refl _, fun _ _ => rfl⟩⟩
  · exact (div64_hi hi lo y w (by omega) h0 h0' hy hy').mono fun e w' ⟨he, hw⟩ => ⟨he, hw ▸ Below.refl _ _⟩

theorem mul_hi_lt {p a b : Int} (hp' : p < 18446744073709551616) (ha : 0 ≤ a) (ha' : a < p) (hb : 0 ≤ b) (hb' : b < p) : 0 ≤ a * b ∧ a * b / 18446744073709551616 < p := by
  have h0 : 0 ≤ a * b := Int.mul_nonneg ha hb
  have h1 : a * b ≤ a * 18446744073709551616 := Int.mul_le_mul_of_nonneg_left (by omega) ha
  exact ⟨h0, by omega⟩

theorem mul_c0 (p a b : Int) (w : World) (hp' : p < 18446744073709551616) (ha : 0 ≤ a) (ha' : a < p) (hb : 0 ≤ b) (hb' : b < p) : Calls Try.prog 52 #[.agg #[.int .u64 p], .int .u64 a, .int .u64 b] w (Gives (.int .u64 ((a * b) % p)) w) := by
  obtain ⟨h0, h1⟩ := mul_hi_lt hp' ha ha' hb hb'
  have h2 := Int.emod_nonneg (a * b) (b := 18446744073709551616) (by omega)
  have h3 := Int.emod_lt_of_pos (a * b) (b := 18446744073709551616) (by omega)
  have h4 : 0 ≤ a * b / 18446744073709551616 := Int.ediv_nonneg h0 (by omega)
  have e := Lib.hid (show (a * b / 18446744073709551616 * 18446744073709551616 + a * b % 18446744073709551616) = a * b from Int.ediv_mul_add_emod _ _)
  go_enter Try.func52, Try.ntmps52
  go_wp2_with (first | (go_at_call 75; with_reducible refine use0 (mul64_c a b ha (by omega) hb (by omega) _) ?_) | (go_at_call 76; (first | with_reducible refine use1 (div64_c _ _ _ _ h4 h2 h3 h1 hp') ?_ | with_reducible refine use (div64_c _ _ _ _ h4 h2 h3 h1 hp') ?_); intro pw))
  go_ret
  exact ⟨congrArg (fun x => Ending.returned (Value.int .u64 (x % p))) e.out, (by repeat (first | exact Below.refl _ _ | refine Below.later ?_ _ | refine Below.box ?_ _ | refine Below.drew ?_ | refine Below.put ?_ (by dsimp only; omega) _))⟩
end Go.Proofs.Ytjnlnbkdnjainaa

/- The contracts of package field's exported operations on single numbers, and of powers. -/
namespace Go.Proofs.Ytjnlnbkdnjainaa
open Go.RowKit

/-- A 64-bit number. -/
def U (x : Int) : Prop := 0 ≤ x ∧ x < 18446744073709551616

theorem emod_U {p a : Int} (h : vld p = true) : 0 ≤ a % p ∧ a % p < p := by
  have := vld_pos h
  exact ⟨Int.emod_nonneg _ (by omega), Int.emod_lt_of_pos _ (by omega)⟩

theorem emod_lt_pos (a : Int) {p : Int} (h : 0 < p) : a % p < p := Int.emod_lt_of_pos a h
theorem emod_nonneg_pos (a : Int) {p : Int} (h : 0 < p) : 0 ≤ a % p := Int.emod_nonneg a (Int.ne_of_gt h)

theorem red_c (p a : Int) (w : World) (ha : U a) : Calls Try.prog 14 #[.agg #[.int .u64 p], .int .u64 a] w (Gives (.int .u64 (fred p a)) w) := by
  obtain ⟨a0, a1⟩ := ha
  cases hv : vld p
  · go_enter Try.func14, Try.ntmps14
    go_wp2_with (first | (go_at_call 50; (first | with_reducible refine use1 (valid_c _ _) ?_ | with_reducible refine use (valid_c _ _) ?_); intro pw))
    go_ret
    exact ⟨by simp [fred, hv], (by repeat (first | exact Below.refl _ _ | refine Below.later ?_ _ | refine Below.box ?_ _ | refine Below.drew ?_ | refine Below.put ?_ (by dsimp only; omega) _))⟩
  · have hp := vld_pos hv
    go_enter Try.func14, Try.ntmps14
    go_wp2_with (first | (go_at_call 50; (first | with_reducible refine use1 (valid_c _ _) ?_ | with_reducible refine use (valid_c _ _) ?_); intro pw) | (go_at_call 51; (first | with_reducible refine use1 (reduced_c p a _ (by omega) a0) ?_ | with_reducible refine use (reduced_c p a _ (by omega) a0) ?_); intro pw))
    go_ret
    exact ⟨by simp [fred, hv], (by repeat (first | exact Below.refl _ _ | refine Below.later ?_ _ | refine Below.box ?_ _ | refine Below.drew ?_ | refine Below.put ?_ (by dsimp only; omega) _))⟩

theorem add_c (p a b : Int) (w : World) (ha : U a) (hb : U b) : Calls Try.prog 56 #[.agg #[.int .u64 p], .int .u64 a, .int .u64 b] w (Gives (.int .u64 (fadd p a b)) w) := by
  obtain ⟨a0, a1⟩ := ha
  obtain ⟨b0, b1⟩ := hb
  cases hv : vld p
  · go_enter Try.func56, Try.ntmps56
    go_wp2_with (first | (go_at_call 50; (first | with_reducible refine use1 (valid_c _ _) ?_ | with_reducible refine use (valid_c _ _) ?_); intro pw))
    go_ret
    exact ⟨by simp [fadd, hv], (by repeat (first | exact Below.refl _ _ | refine Below.later ?_ _ | refine Below.box ?_ _ | refine Below.drew ?_ | refine Below.put ?_ (by dsimp only; omega) _))⟩
  · have hp := vld_pos hv
    obtain ⟨ua0, ua1⟩ := emod_U (a := a) hv
    obtain ⟨ub0, ub1⟩ := emod_U (a := b) hv
    go_enter Try.func56, Try.ntmps56
    go_wp2_with (first | (go_at_call 50; (first | with_reducible refine use1 (valid_c _ _) ?_ | with_reducible refine use (valid_c _ _) ?_); intro pw))
    first | refine region_quiet1 (by kernel_rfl) ?_ | refine region_quiet (by kernel_rfl) ?_
    repeat (go_big_quiet_step (first | (go_at_call 51; with_reducible exact quiet (reduced_c p _ _ (by omega) (by omega))) | (go_at_call 77; with_reducible exact quiet (add_c0 p _ _ _ (by omega) ua0 ua1 ub0 ub1))))
    refine wpQuiet_nil ?_
    intro _
    go_wp2
    go_ret
    exact ⟨by simp [fadd, hv], (by repeat (first | exact Below.refl _ _ | refine Below.later ?_ _ | refine Below.box ?_ _ | refine Below.drew ?_ | refine Below.put ?_ (by dsimp only; omega) _))⟩

theorem neg_emod_pos {p a : Int} (hp : 0 < p) (h : a % p ≠ 0) : (-a) % p = p - a % p := by
  have h0 := Int.emod_nonneg a (Int.ne_of_gt hp)
  have h1 := Int.emod_lt_of_pos a hp
  rw [← em_neg, ← Int.add_emod_right, Int.emod_eq_of_lt (by omega) (by omega)]
  omega
theorem fneg_U {p a : Int} : U (fneg p a) := by
  unfold fneg; split
  · rename_i h
    have := vld_pos h
    obtain ⟨h0, h1⟩ := emod_U (a := -a) h
    exact ⟨h0, by omega⟩
  · exact ⟨by omega, by omega⟩

theorem neg_c (p a : Int) (w : World) (ha : U a) : Calls Try.prog 68 #[.agg #[.int .u64 p], .int .u64 a] w (Gives (.int .u64 (fneg p a)) w) := by
  cases hv : vld p
  · have hf : fred p a = 0 := by simp [fred, hv]
    have hn : Hid (fneg p a = 0) := by simp [Hid, fneg, hv]
    go_enter Try.func68, Try.ntmps68
    go_wp2_with (first | (go_at_call 14; (first | with_reducible refine use1 (red_c _ _ _ ha) ?_ | with_reducible refine use (red_c _ _ _ ha) ?_); intro pw))
    go_ret
    exact ⟨by rw [hn.out]; rfl, (by repeat (first | exact Below.refl _ _ | refine Below.later ?_ _ | refine Below.box ?_ _ | refine Below.drew ?_ | refine Below.put ?_ (by dsimp only; omega) _))⟩
  · have hp := vld_pos hv
    obtain ⟨u0, u1⟩ := emod_U (a := a) hv
    obtain ⟨r, hr⟩ : ∃ r, fred p a = r := ⟨_, rfl⟩
    have hr' : Hid (r = a % p) := by rw [← hr]; simp [Hid, fred, hv]
    have r0 : 0 ≤ r := by rw [hr'.out]; exact u0
    have r1 : r < p := by rw [hr'.out]; exact u1
    by_cases hz : r = 0
    · have hb : (r == 0) = true := by simp [hz]
      have hn : Hid (fneg p a = 0) := by
        have : a % p = 0 := by rw [← hr'.out, hz]
        show _ = _
        rw [fneg, if_pos hv, ← em_neg, this]; rfl
      clear hz
      go_enter Try.func68, Try.ntmps68
      go_wp2_with (first | (go_at_call 14; (first | with_reducible refine use1 (red_c _ _ _ ha) ?_ | with_reducible refine use (red_c _ _ _ ha) ?_); intro pw))
      go_ret
      exact ⟨by rw [hn.out]; rfl, (by repeat (first | exact Below.refl _ _ | refine Below.later ?_ _ | refine Below.box ?_ _ | refine Below.drew ?_ | refine Below.put ?_ (by dsimp only; omega) _))⟩
    · have hb : (r == 0) = false := by simp [hz]
      have hn : Hid (fneg p a = p - r) := by
        show _ = _
        rw [fneg, if_pos hv, neg_emod_pos (by omega) (by rw [← hr'.out]; exact hz), hr'.out]
      go_enter Try.func68, Try.ntmps68
      go_wp2_with (first | (go_at_call 14; (first | with_reducible refine use1 (red_c _ _ _ ha) ?_ | with_reducible refine use (red_c _ _ _ ha) ?_); intro pw))
      go_ret
      exact ⟨by rw [hn.out]; rfl, (by repeat (first | exact Below.refl _ _ | refine Below.later ?_ _ | refine Below.box ?_ _ | refine Below.drew ?_ | refine Below.put ?_ (by dsimp only; omega) _))⟩

theorem fsub_eq (p a b : Int) : fsub p a b = fadd p a (fneg p b) := by
  unfold fsub fadd fneg
  split
  · rw [em_add_r, Int.sub_eq_add_neg]
  · rfl
theorem sub_c (p a b : Int) (w : World) (ha : U a) (hb : U b) : Calls Try.prog 59 #[.agg #[.int .u64 p], .int .u64 a, .int .u64 b] w (Gives (.int .u64 (fsub p a b)) w) := by
  go_enter Try.func59, Try.ntmps59
  go_wp2_with fail
  first | refine region_quiet1 (by kernel_rfl) ?_ | refine region_quiet (by kernel_rfl) ?_
  repeat (go_big_quiet_step (first | (go_at_call 68; with_reducible exact quiet (neg_c p b _ hb)) | (go_at_call 56; with_reducible exact quiet (add_c p a _ _ ha fneg_U))))
  refine wpQuiet_nil ?_
  intro _
  go_wp2
  go_ret
  exact ⟨by rw [fsub_eq]; rfl, (by repeat (first | exact Below.refl _ _ | refine Below.later ?_ _ | refine Below.box ?_ _ | refine Below.drew ?_ | refine Below.put ?_ (by dsimp only; omega) _))⟩

theorem mul_c (p a b : Int) (w : World) (ha : U a) (hb : U b) : Calls Try.prog 15 #[.agg #[.int .u64 p], .int .u64 a, .int .u64 b] w (Gives (.int .u64 (fmul p a b)) w) := by
  obtain ⟨a0, a1⟩ := ha
  obtain ⟨b0, b1⟩ := hb
  cases hv : vld p
  · go_enter Try.func15, Try.ntmps15
    go_wp2_with (first | (go_at_call 50; (first | with_reducible refine use1 (valid_c _ _) ?_ | with_reducible refine use (valid_c _ _) ?_); intro pw))
    go_ret
    exact ⟨by simp [fmul, hv], (by repeat (first | exact Below.refl _ _ | refine Below.later ?_ _ | refine Below.box ?_ _ | refine Below.drew ?_ | refine Below.put ?_ (by dsimp only; omega) _))⟩
  · have hp := vld_pos hv
    obtain ⟨ua0, ua1⟩ := emod_U (a := a) hv
    obtain ⟨ub0, ub1⟩ := emod_U (a := b) hv
    have e : Hid ((a % p * (b % p)) % p = fmul p a b) := by show _ = _; rw [em_mul_l, em_mul_r, fmul, if_pos hv]
    go_enter Try.func15, Try.ntmps15
    go_wp2_with (first | (go_at_call 50; (first | with_reducible refine use1 (valid_c _ _) ?_ | with_reducible refine use (valid_c _ _) ?_); intro pw))
    first | refine region_quiet1 (by kernel_rfl) ?_ | refine region_quiet (by kernel_rfl) ?_
    repeat (go_big_quiet_step (first | (go_at_call 51; with_reducible exact quiet (reduced_c p _ _ (by omega) (by omega))) | (go_at_call 52; with_reducible exact quiet (mul_c0 p _ _ _ (by omega) ua0 ua1 ub0 ub1))))
    refine wpQuiet_nil ?_
    intro _
    go_wp2
    go_ret
    exact ⟨by rw [← e.out]; rfl, (by repeat (first | exact Below.refl _ _ | refine Below.later ?_ _ | refine Below.box ?_ _ | refine Below.drew ?_ | refine Below.put ?_ (by dsimp only; omega) _))⟩

theorem numbers_c (p : Int) (w : World) : Calls Try.prog 53 #[.agg #[.int .u64 p]] w (Gives (.tuple #[.int .u64 (gen p), .int .i64 (adi p), .int .u64 (expo p)]) w) := by
  go_enter Try.func53, Try.ntmps53
  go_wp2
  all_goals (go_ret3; exact ⟨by simp_all [gen, adi, expo], (by repeat (first | exact Below.refl _ _ | refine Below.later ?_ _ | refine Below.box ?_ _ | refine Below.drew ?_ | refine Below.put ?_ (by dsimp only; omega) _))⟩)
theorem gen_c (p : Int) (w : World) : Calls Try.prog 16 #[.agg #[.int .u64 p]] w (Gives (.int .u64 (gen p)) w) := by
  go_enter Try.func16, Try.ntmps16
  go_wp2_with (first | (go_at_call 53; (first | with_reducible refine use1 (numbers_c _ _) ?_ | with_reducible refine use (numbers_c _ _) ?_); intro pw))
  go_ret
  exact ⟨rfl, (by repeat (first | exact Below.refl _ _ | refine Below.later ?_ _ | refine Below.box ?_ _ | refine Below.drew ?_ | refine Below.put ?_ (by dsimp only; omega) _))⟩
end Go.Proofs.Ytjnlnbkdnjainaa

/- The contracts of powers, inverses, quotients and roots in package field. -/
namespace Go.Proofs.Ytjnlnbkdnjainaa
open Go.RowKit

/-- The power that is still to come: R * A ^ E stays what it is. -/
theorem pow_odd {p R A a : Int} {E e : Nat} (h : (R * A ^ E) % p = a ^ e % p) (ho : E % 2 = 1) : (((R * A) % p) * ((A * A) % p) ^ (E / 2)) % p = a ^ e % p := by
  rw [← h, ← em_mul_r, em_pow, em_mul_l, em_mul_r]
  congr 1
  conv => rhs; rw [show E = 2 * (E / 2) + 1 from by omega, Int.pow_succ, Int.pow_mul]
  rw [show A ^ 2 = A * A from by rw [Int.pow_succ, Int.pow_succ, Int.pow_zero, Int.one_mul], Int.mul_assoc R, Int.mul_comm A]
theorem pow_even {p R A a : Int} {E e : Nat} (h : (R * A ^ E) % p = a ^ e % p) (ho : E % 2 = 0) : (R * ((A * A) % p) ^ (E / 2)) % p = a ^ e % p := by
  rw [← h, ← em_mul_r, em_pow, em_mul_r]
  congr 1
  conv => rhs; rw [show E = 2 * (E / 2) from by omega, Int.pow_mul]
  rw [show A ^ 2 = A * A from by rw [Int.pow_succ, Int.pow_succ, Int.pow_zero, Int.one_mul]]

/-- A number below 2 to the 64, behind a name. -/
structure BigB (n : Nat) : Prop where
  out : (n : Int) < 18446744073709551616

set_option maxHeartbeats 1000000 in
theorem pow_c0 (p a : Int) (e : Nat) (w : World) (hp0 : 1 < p) (hp' : p < 18446744073709551616) (ha : 0 ≤ a) (ha' : a < p) (he : (e : Int) < 18446744073709551616) :
    Calls Try.prog 78 #[.agg #[.int .u64 p], .int .u64 a, .int .u64 e] w (Gives (.int .u64 (a ^ e % p)) w) := by
  go_enter Try.func78, Try.ntmps78
  go_wp2_with fail
  go_loopw [1, 2, 7] (fun va ve vr wr => ∃ (A R : Int) (E : Nat) (q : Regrown), va = .int .u64 A ∧ ve = .int .u64 (E : Int) ∧ vr = .int .u64 R ∧ wr = after (w.alloc (.cells #[.int .u64 p] 27)) q ∧ 0 ≤ A ∧ A < p ∧ 0 ≤ R ∧ R < p ∧ BigB E ∧ Hid ((R * A ^ E) % p = a ^ e % p)) (fun _ ve _ _ => (intOf ve).toNat)
  case atStart => exact ⟨a, 1, e, ⟨w.drawn, #[]⟩, rfl, rfl, rfl, by simp [after_eq, Go.Sort.grow_empty]; rfl, ha, ha', by omega, by omega, ⟨he⟩, by simp [Hid]⟩
  case round =>
    obtain ⟨A, R, E, q, rfl, rfl, rfl, rfl, hA0, hA1, hR0, hR1, hE, hI⟩ := hrel
    clear he ha ha'
    have hand : bits .and .u64 (E : Int) 1 = ((E % 2 : Nat) : Int) := by have := hE.out; rw [and_one_u64 _ (by omega) (by omega)]; omega
    have hA2 := emod_lt_pos (A * A) (p := p) (by omega)
    have hA3 := emod_nonneg_pos (A * A) (p := p) (by omega)
    have hR2 := emod_lt_pos (R * A) (p := p) (by omega)
    have hR3 := emod_nonneg_pos (R * A) (p := p) (by omega)
    by_cases h0 : E = 0
    · subst h0
      have e0 : Hid (R = a ^ e % p) := by have := hI.out; rw [Int.pow_zero, Int.mul_one, Int.emod_eq_of_lt hR0 hR1] at this; exact this
      clear hI hand
      go_wp2_with fail
      go_ret
      exact ⟨by rw [← e0.out]; rfl, (by repeat (first | exact Below.refl _ _ | refine Below.later ?_ _ | refine Below.box ?_ _ | refine Below.drew ?_ | refine Below.put ?_ (by dsimp only; omega) _))⟩
    · have h1 : (0 : Int) < (E : Int) := by omega
      by_cases ho : E % 2 = 1
      · have hand1 : bits .and .u64 (E : Int) 1 = 1 := by rw [hand, ho]; rfl
        clear hand
        have hI2 : Hid ((((R * A) % p) * ((A * A) % p) ^ (E / 2)) % p = a ^ e % p) := pow_odd hI.out ho
        by_cases h2 : E / 2 = 0
        · have hI3 : Hid ((((R * A) % p) * A ^ (E / 2)) % p = a ^ e % p) := by have := hI2.out; rw [h2, Int.pow_zero] at this; rw [h2, Int.pow_zero]; exact this
          have h3 : ¬ (0 : Int) < (E : Int) / 2 := by omega
          clear hI hI2
          go_wp2_with (first | (go_at_call 52; (first | with_reducible refine use1 (mul_c0 p R A _ hp' hR0 hR1 hA0 hA1) ?_ | with_reducible refine use (mul_c0 p R A _ hp' hR0 hR1 hA0 hA1) ?_); intro pw) | (go_at_call 52; (first | with_reducible refine use1 (mul_c0 p A A _ hp' hA0 hA1 hA0 hA1) ?_ | with_reducible refine use (mul_c0 p A A _ hp' hA0 hA1 hA0 hA1) ?_); intro pw))
          go_roundw
          case rel => exact ⟨A, ((R * A) % p), E / 2, _, rfl, by go_num, rfl, rfl, by assumption, by assumption, by assumption, by assumption, ⟨by have := hE.out; omega⟩, hI3⟩
          case measure => first | (simp [intOf]; omega) | (simp [intOf]; done)
        · have h3 : (0 : Int) < (E : Int) / 2 := by omega
          clear hI
          go_wp2_with (first | (go_at_call 52; (first | with_reducible refine use1 (mul_c0 p R A _ hp' hR0 hR1 hA0 hA1) ?_ | with_reducible refine use (mul_c0 p R A _ hp' hR0 hR1 hA0 hA1) ?_); intro pw) | (go_at_call 52; (first | with_reducible refine use1 (mul_c0 p A A _ hp' hA0 hA1 hA0 hA1) ?_ | with_reducible refine use (mul_c0 p A A _ hp' hA0 hA1 hA0 hA1) ?_); intro pw))
          go_roundw
          case rel => exact ⟨(A * A) % p, ((R * A) % p), E / 2, _, rfl, by go_num, rfl, rfl, by assumption, by assumption, by assumption, by assumption, ⟨by have := hE.out; omega⟩, hI2⟩
          case measure => first | (simp [intOf]; omega) | (simp [intOf]; done)
      · have ho : E % 2 = 0 := by omega
        have hand1 : bits .and .u64 (E : Int) 1 = 0 := by rw [hand, ho]; rfl
        clear hand
        have hI2 : Hid ((R * ((A * A) % p) ^ (E / 2)) % p = a ^ e % p) := pow_even hI.out ho
        by_cases h2 : E / 2 = 0
        · exfalso; omega
        · have h3 : (0 : Int) < (E : Int) / 2 := by omega
          clear hI
          go_wp2_with (first | (go_at_call 52; (first | with_reducible refine use1 (mul_c0 p R A _ hp' hR0 hR1 hA0 hA1) ?_ | with_reducible refine use (mul_c0 p R A _ hp' hR0 hR1 hA0 hA1) ?_); intro pw) | (go_at_call 52; (first | with_reducible refine use1 (mul_c0 p A A _ hp' hA0 hA1 hA0 hA1) ?_ | with_reducible refine use (mul_c0 p A A _ hp' hA0 hA1 hA0 hA1) ?_); intro pw))
          go_roundw
          case rel => exact ⟨(A * A) % p, R, E / 2, _, rfl, by go_num, rfl, rfl, by assumption, by assumption, by assumption, by assumption, ⟨by have := hE.out; omega⟩, hI2⟩
          case measure => first | (simp [intOf]; omega) | (simp [intOf]; done)

theorem inv_c (p a : Int) (w : World) (hp : U p) (ha : U a) : Calls Try.prog 62 #[.agg #[.int .u64 p], .int .u64 a] w (Gives (.int .u64 (finv p a)) w) := by
  obtain ⟨a0, a1⟩ := ha
  obtain ⟨p0, p1⟩ := hp
  cases hv : vld p
  · have hn : Kept (finv p a = 0) := ⟨by simp [finv, fpow, hv]⟩
    go_enter Try.func62, Try.ntmps62
    go_wp2_with (first | (go_at_call 50; (first | with_reducible refine use1 (valid_c _ _) ?_ | with_reducible refine use (valid_c _ _) ?_); intro pw))
    go_ret
    exact ⟨by rw [hn.out]; rfl, (by repeat (first | exact Below.refl _ _ | refine Below.later ?_ _ | refine Below.box ?_ _ | refine Below.drew ?_ | refine Below.put ?_ (by dsimp only; omega) _))⟩
  · have hp := vld_pos hv
    obtain ⟨e, he⟩ : ∃ e : Nat, (e : Int) = p - 2 := ⟨(p - 2).toNat, by omega⟩
    have hn : Kept ((a % p) ^ e % p = finv p a) := ⟨by rw [em_pow, finv, fpow, if_pos hv]; congr 2; omega⟩
    obtain ⟨ua0, ua1⟩ := emod_U (a := a) hv
    have c : Kept (∀ w, Calls Try.prog 78 #[.agg #[.int .u64 p], .int .u64 (a % p), .int .u64 (p - 2)] w (Gives (.int .u64 ((a % p) ^ e % p)) w)) :=
      ⟨fun w => by rw [← he]; exact pow_c0 p (a % p) e w (by omega) (by omega) ua0 ua1 (by omega)⟩
    clear he
    go_enter Try.func62, Try.ntmps62
    go_wp2_with (first | (go_at_call 50; (first | with_reducible refine use1 (valid_c _ _) ?_ | with_reducible refine use (valid_c _ _) ?_); intro pw))
    first | refine region_quiet1 (by kernel_rfl) ?_ | refine region_quiet (by kernel_rfl) ?_
    repeat (go_big_quiet_step (first | (go_at_call 51; with_reducible exact quiet (reduced_c p _ _ (by omega) (by omega))) | (go_at_call 78; with_reducible exact quiet (c.out _))))
    refine wpQuiet_nil ?_
    intro _
    go_wp2
    go_ret
    exact ⟨by rw [← hn.out]; rfl, (by repeat (first | exact Below.refl _ _ | refine Below.later ?_ _ | refine Below.box ?_ _ | refine Below.drew ?_ | refine Below.put ?_ (by dsimp only; omega) _))⟩

theorem fpow_U {p a : Int} {e : Nat} : U (fpow p a e) := by
  unfold fpow; split
  · rename_i h
    have := vld_pos h
    obtain ⟨h0, h1⟩ := emod_U (a := a ^ e) h
    exact ⟨h0, by omega⟩
  · exact ⟨by omega, by omega⟩
theorem finv_U {p a : Int} : U (finv p a) := fpow_U
theorem fmul_U {p a b : Int} : U (fmul p a b) := by
  unfold fmul; split
  · rename_i h
    have := vld_pos h
    obtain ⟨h0, h1⟩ := emod_U (a := a * b) h
    exact ⟨h0, by omega⟩
  · exact ⟨by omega, by omega⟩
theorem fadd_U {p a b : Int} : U (fadd p a b) := by
  unfold fadd; split
  · rename_i h
    have := vld_pos h
    obtain ⟨h0, h1⟩ := emod_U (a := a + b) h
    exact ⟨h0, by omega⟩
  · exact ⟨by omega, by omega⟩
theorem fsub_U {p a b : Int} : U (fsub p a b) := by rw [fsub_eq]; exact fadd_U
theorem fred_U {p a : Int} : U (fred p a) := by
  unfold fred; split
  · rename_i h
    have := vld_pos h
    obtain ⟨h0, h1⟩ := emod_U (a := a) h
    exact ⟨h0, by omega⟩
  · exact ⟨by omega, by omega⟩
theorem gen_U {p : Int} : U (gen p) := by
  unfold gen
  (repeat' split) <;> exact ⟨by omega, by omega⟩

end Go.Proofs.Ytjnlnbkdnjainaa

/- The contracts of package moidoreref01's functions on single numbers. -/
namespace Go.Proofs.Ytjnlnbkdnjainaa
open Go.RowKit

theorem row_17 (w : World) : Calls Try.prog 82 #[.int .u64 17] w (Gives (.agg #[.int .u64 3, .int .u64 4, .int .u64 3]) w) := by
  go_enter Try.func82, Try.ntmps82
  go_wp2
  exact bodyPost_ret (v := .agg #[.int .u64 3, .int .u64 4, .int .u64 3]) (by simp [results, Try.results82, go_sem]) rfl ⟨rfl, (by repeat (first | exact Below.refl _ _ | refine Below.later ?_ _ | refine Below.box ?_ _ | refine Below.drew ?_ | refine Below.put ?_ (by dsimp only; omega) _))⟩
theorem row_97 (w : World) : Calls Try.prog 82 #[.int .u64 97] w (Gives (.agg #[.int .u64 5, .int .u64 5, .int .u64 5]) w) := by
  go_enter Try.func82, Try.ntmps82
  go_wp2
  exact bodyPost_ret (v := .agg #[.int .u64 5, .int .u64 5, .int .u64 5]) (by simp [results, Try.results82, go_sem]) rfl ⟨rfl, (by repeat (first | exact Below.refl _ _ | refine Below.later ?_ _ | refine Below.box ?_ _ | refine Below.drew ?_ | refine Below.put ?_ (by dsimp only; omega) _))⟩
theorem row_193 (w : World) : Calls Try.prog 82 #[.int .u64 193] w (Gives (.agg #[.int .u64 5, .int .u64 6, .int .u64 5]) w) := by
  go_enter Try.func82, Try.ntmps82
  go_wp2
  exact bodyPost_ret (v := .agg #[.int .u64 5, .int .u64 6, .int .u64 5]) (by simp [results, Try.results82, go_sem]) rfl ⟨rfl, (by repeat (first | exact Below.refl _ _ | refine Below.later ?_ _ | refine Below.box ?_ _ | refine Below.drew ?_ | refine Below.put ?_ (by dsimp only; omega) _))⟩
theorem row_257 (w : World) : Calls Try.prog 82 #[.int .u64 257] w (Gives (.agg #[.int .u64 3, .int .u64 8, .int .u64 3]) w) := by
  go_enter Try.func82, Try.ntmps82
  go_wp2
  exact bodyPost_ret (v := .agg #[.int .u64 3, .int .u64 8, .int .u64 3]) (by simp [results, Try.results82, go_sem]) rfl ⟨rfl, (by repeat (first | exact Below.refl _ _ | refine Below.later ?_ _ | refine Below.box ?_ _ | refine Below.drew ?_ | refine Below.put ?_ (by dsimp only; omega) _))⟩
theorem row_12289 (w : World) : Calls Try.prog 82 #[.int .u64 12289] w (Gives (.agg #[.int .u64 11, .int .u64 12, .int .u64 5]) w) := by
  go_enter Try.func82, Try.ntmps82
  go_wp2
  exact bodyPost_ret (v := .agg #[.int .u64 11, .int .u64 12, .int .u64 5]) (by simp [results, Try.results82, go_sem]) rfl ⟨rfl, (by repeat (first | exact Below.refl _ _ | refine Below.later ?_ _ | refine Below.box ?_ _ | refine Below.drew ?_ | refine Below.put ?_ (by dsimp only; omega) _))⟩
theorem row_65537 (w : World) : Calls Try.prog 82 #[.int .u64 65537] w (Gives (.agg #[.int .u64 3, .int .u64 16, .int .u64 3]) w) := by
  go_enter Try.func82, Try.ntmps82
  go_wp2
  exact bodyPost_ret (v := .agg #[.int .u64 3, .int .u64 16, .int .u64 3]) (by simp [results, Try.results82, go_sem]) rfl ⟨rfl, (by repeat (first | exact Below.refl _ _ | refine Below.later ?_ _ | refine Below.box ?_ _ | refine Below.drew ?_ | refine Below.put ?_ (by dsimp only; omega) _))⟩
theorem row_18446744069414584321 (w : World) : Calls Try.prog 82 #[.int .u64 18446744069414584321] w (Gives (.agg #[.int .u64 7, .int .u64 32, .int .u64 7]) w) := by
  go_enter Try.func82, Try.ntmps82
  go_wp2
  exact bodyPost_ret (v := .agg #[.int .u64 7, .int .u64 32, .int .u64 7]) (by simp [results, Try.results82, go_sem]) rfl ⟨rfl, (by repeat (first | exact Below.refl _ _ | refine Below.later ?_ _ | refine Below.box ?_ _ | refine Below.drew ?_ | refine Below.put ?_ (by dsimp only; omega) _))⟩
theorem row_none (p : Int) (w : World) (h : vld p = false) : Calls Try.prog 82 #[.int .u64 p] w (Gives (.agg #[.int .u64 0, .int .u64 0, .int .u64 0]) w) := by
  simp only [vld, Bool.or_eq_false_iff] at h
  obtain ⟨⟨⟨⟨⟨⟨h1, h2⟩, h3⟩, h4⟩, h5⟩, h6⟩, h7⟩ := h
  go_enter Try.func82, Try.ntmps82
  go_wp2
  exact bodyPost_ret (v := .agg #[.int .u64 0, .int .u64 0, .int .u64 0]) (by simp [results, Try.results82, go_sem]) rfl ⟨rfl, (by repeat (first | exact Below.refl _ _ | refine Below.later ?_ _ | refine Below.box ?_ _ | refine Below.drew ?_ | refine Below.put ?_ (by dsimp only; omega) _))⟩
theorem gen_none {p : Int} (h : vld p = false) : gen p = 0 ∧ adi p = 0 ∧ expo p = 0 := by
  simp [vld] at h
  simp [gen, adi, expo, h]
theorem row_c (p : Int) (w : World) : Calls Try.prog 82 #[.int .u64 p] w (Gives (.agg #[.int .u64 (gen p), .int .u64 (adi p), .int .u64 (expo p)]) w) := by
  cases h : vld p
  · obtain ⟨e1, e2, e3⟩ := gen_none h
    rw [e1, e2, e3]; exact row_none p w h
  · rcases vld_cases h with rfl | rfl | rfl | rfl | rfl | rfl | rfl
    · exact row_17 w
    · exact row_97 w
    · exact row_193 w
    · exact row_257 w
    · exact row_12289 w
    · exact row_65537 w
    · exact row_18446744069414584321 w
end Go.Proofs.Ytjnlnbkdnjainaa

/- The contracts of package moidoreref01's functions on single numbers, over the table's row. -/
namespace Go.Proofs.Ytjnlnbkdnjainaa
open Go.RowKit

@[go_sem] theorem index3_0 (x y z : Value) (w : World) : (Instr.index 90 (.agg #[x, y, z]) (.int .i64 0)).run Try.prog w = .ok x w := by kernel_rfl
@[go_sem] theorem index3_1 (x y z : Value) (w : World) : (Instr.index 90 (.agg #[x, y, z]) (.int .i64 1)).run Try.prog w = .ok y w := by kernel_rfl
@[go_sem] theorem index3_2 (x y z : Value) (w : World) : (Instr.index 90 (.agg #[x, y, z]) (.int .i64 2)).run Try.prog w = .ok z w := by kernel_rfl

theorem gen_pos (p : Int) : decide (0 < gen p) = vld p := by
  cases h : vld p
  · rw [(gen_none h).1]; rfl
  · rcases vld_cases h with rfl | rfl | rfl | rfl | rfl | rfl | rfl <;> rfl

theorem rvalid_c (p : Int) (w : World) : Calls Try.prog 74 #[.int .u64 p] w (Gives (.bool (vld p)) w) := by
  have e : Kept (decide (0 < gen p) = vld p) := ⟨gen_pos p⟩
  obtain ⟨g, hg⟩ : ∃ g, gen p = g := ⟨_, rfl⟩
  rw [hg] at e
  have c : Kept (∀ w, Calls Try.prog 82 #[.int .u64 p] w (Gives (.agg #[.int .u64 g, .int .u64 (adi p), .int .u64 (expo p)]) w)) := ⟨fun w => by rw [← hg]; exact row_c p w⟩
  clear hg
  go_enter Try.func74, Try.ntmps74
  go_wp2_with (first | (go_at_call 82; (first | with_reducible refine use1 (c.out _) ?_ | with_reducible refine use (c.out _) ?_); intro pw))
  go_ret
  exact ⟨by rw [← e.out]; rfl, (by repeat (first | exact Below.refl _ _ | refine Below.later ?_ _ | refine Below.box ?_ _ | refine Below.drew ?_ | refine Below.put ?_ (by dsimp only; omega) _))⟩
theorem rred_c (p a : Int) (w : World) (ha : U a) : Calls Try.prog 80 #[.int .u64 p, .int .u64 a] w (Gives (.int .u64 (fred p a)) w) := by
  obtain ⟨a0, a1⟩ := ha
  cases hv : vld p
  · go_enter Try.func80, Try.ntmps80
    go_wp2_with (first | (go_at_call 74; (first | with_reducible refine use1 (rvalid_c _ _) ?_ | with_reducible refine use (rvalid_c _ _) ?_); intro pw))
    go_ret
    exact ⟨by simp [fred, hv], (by repeat (first | exact Below.refl _ _ | refine Below.later ?_ _ | refine Below.box ?_ _ | refine Below.drew ?_ | refine Below.put ?_ (by dsimp only; omega) _))⟩
  · have hp := vld_pos hv
    go_enter Try.func80, Try.ntmps80
    go_wp2_with (first | (go_at_call 74; (first | with_reducible refine use1 (rvalid_c _ _) ?_ | with_reducible refine use (rvalid_c _ _) ?_); intro pw))
    go_ret
    exact ⟨by simp [fred, hv], (by repeat (first | exact Below.refl _ _ | refine Below.later ?_ _ | refine Below.box ?_ _ | refine Below.drew ?_ | refine Below.put ?_ (by dsimp only; omega) _))⟩

theorem radd_c (p a b : Int) (w : World) (ha : U a) (hb : U b) : Calls Try.prog 72 #[.int .u64 p, .int .u64 a, .int .u64 b] w (Gives (.int .u64 (fadd p a b)) w) := by
  obtain ⟨a0, a1⟩ := ha
  obtain ⟨b0, b1⟩ := hb
  cases hv : vld p
  · have hn : Kept (fadd p a b = 0) := ⟨by simp [fadd, hv]⟩
    go_enter Try.func72, Try.ntmps72
    go_wp2_with (first | (go_at_call 74; (first | with_reducible refine use1 (rvalid_c _ _) ?_ | with_reducible refine use (rvalid_c _ _) ?_); intro pw))
    go_ret
    exact ⟨by rw [hn.out]; rfl, (by repeat (first | exact Below.refl _ _ | refine Below.later ?_ _ | refine Below.box ?_ _ | refine Below.drew ?_ | refine Below.put ?_ (by dsimp only; omega) _))⟩
  · have hp := vld_pos hv
    obtain ⟨ua0, ua1⟩ := emod_U (a := a) hv
    obtain ⟨ub0, ub1⟩ := emod_U (a := b) hv
    obtain ⟨x, hx⟩ : ∃ x, a % p = x := ⟨_, rfl⟩
    obtain ⟨y, hy⟩ : ∃ y, b % p = y := ⟨_, rfl⟩
    have hn : Kept (fadd p a b = (x + y) % p) := ⟨by rw [← hx, ← hy, fadd, if_pos hv, ← Int.add_emod]⟩
    rw [hx] at ua0 ua1
    rw [hy] at ub0 ub1
    by_cases hc : p - y ≤ x
    · have hn2 : Kept (fadd p a b = x - (p - y)) := ⟨by
        rw [hn.out, ← Int.sub_emod_right, Int.emod_eq_of_lt (by omega) (by omega)]; omega⟩
      clear hn
      go_enter Try.func72, Try.ntmps72
      go_wp2_with (first | (go_at_call 74; (first | with_reducible refine use1 (rvalid_c _ _) ?_ | with_reducible refine use (rvalid_c _ _) ?_); intro pw))
      first | refine region_quiet1 (by kernel_rfl) ?_ | refine region_quiet (by kernel_rfl) ?_
      repeat (go_big_quiet_step (first | fail))
      refine wpQuiet_nil ?_
      intro _
      go_wp2
      go_ret
      exact ⟨by rw [hn2.out]; rfl, (by repeat (first | exact Below.refl _ _ | refine Below.later ?_ _ | refine Below.box ?_ _ | refine Below.drew ?_ | refine Below.put ?_ (by dsimp only; omega) _))⟩
    · have hn2 : Kept (fadd p a b = x + y) := ⟨by rw [hn.out, Int.emod_eq_of_lt (by omega) (by omega)]⟩
      clear hn
      go_enter Try.func72, Try.ntmps72
      go_wp2_with (first | (go_at_call 74; (first | with_reducible refine use1 (rvalid_c _ _) ?_ | with_reducible refine use (rvalid_c _ _) ?_); intro pw))
      first | refine region_quiet1 (by kernel_rfl) ?_ | refine region_quiet (by kernel_rfl) ?_
      repeat (go_big_quiet_step (first | fail))
      refine wpQuiet_nil ?_
      intro _
      go_wp2
      go_ret
      exact ⟨by rw [hn2.out]; rfl, (by repeat (first | exact Below.refl _ _ | refine Below.later ?_ _ | refine Below.box ?_ _ | refine Below.drew ?_ | refine Below.put ?_ (by dsimp only; omega) _))⟩

theorem rneg_c (p a : Int) (w : World) (ha : U a) : Calls Try.prog 69 #[.int .u64 p, .int .u64 a] w (Gives (.int .u64 (fneg p a)) w) := by
  cases hv : vld p
  · have hf : fred p a = 0 := by simp [fred, hv]
    have hn : Kept (fneg p a = 0) := ⟨by simp [fneg, hv]⟩
    go_enter Try.func69, Try.ntmps69
    go_wp2_with (first | (go_at_call 80; (first | with_reducible refine use1 (rred_c _ _ _ ha) ?_ | with_reducible refine use (rred_c _ _ _ ha) ?_); intro pw))
    go_ret
    exact ⟨by rw [hn.out]; rfl, (by repeat (first | exact Below.refl _ _ | refine Below.later ?_ _ | refine Below.box ?_ _ | refine Below.drew ?_ | refine Below.put ?_ (by dsimp only; omega) _))⟩
  · have hp := vld_pos hv
    obtain ⟨u0, u1⟩ := emod_U (a := a) hv
    obtain ⟨r, hr⟩ : ∃ r, fred p a = r := ⟨_, rfl⟩
    have hr' : Kept (r = a % p) := ⟨by rw [← hr]; simp [fred, hv]⟩
    have r0 : 0 ≤ r := by rw [hr'.out]; exact u0
    have r1 : r < p := by rw [hr'.out]; exact u1
    by_cases hz : r = 0
    · have hb : (r == 0) = true := by simp [hz]
      have hn : Kept (fneg p a = 0) := ⟨by
        have : a % p = 0 := by rw [← hr'.out, hz]
        rw [fneg, if_pos hv, ← em_neg, this]; rfl⟩
      clear hz
      go_enter Try.func69, Try.ntmps69
      go_wp2_with (first | (go_at_call 80; (first | with_reducible refine use1 (rred_c _ _ _ ha) ?_ | with_reducible refine use (rred_c _ _ _ ha) ?_); intro pw))
      go_ret
      exact ⟨by rw [hn.out]; rfl, (by repeat (first | exact Below.refl _ _ | refine Below.later ?_ _ | refine Below.box ?_ _ | refine Below.drew ?_ | refine Below.put ?_ (by dsimp only; omega) _))⟩
    · have hb : (r == 0) = false := by simp [hz]
      have hn : Kept (fneg p a = p - r) := ⟨by rw [fneg, if_pos hv, neg_emod_pos (by omega) (by rw [← hr'.out]; exact hz), hr'.out]⟩
      go_enter Try.func69, Try.ntmps69
      go_wp2_with (first | (go_at_call 80; (first | with_reducible refine use1 (rred_c _ _ _ ha) ?_ | with_reducible refine use (rred_c _ _ _ ha) ?_); intro pw))
      go_ret
      exact ⟨by rw [hn.out]; rfl, (by repeat (first | exact Below.refl _ _ | refine Below.later ?_ _ | refine Below.box ?_ _ | refine Below.drew ?_ | refine Below.put ?_ (by dsimp only; omega) _))⟩

theorem rsub_c (p a b : Int) (w : World) (ha : U a) (hb : U b) : Calls Try.prog 42 #[.int .u64 p, .int .u64 a, .int .u64 b] w (Gives (.int .u64 (fsub p a b)) w) := by
  go_enter Try.func42, Try.ntmps42
  go_wp2_with (first | (go_at_call 69; (first | with_reducible refine use1 (rneg_c p b _ hb) ?_ | with_reducible refine use (rneg_c p b _ hb) ?_); intro pw) | (go_at_call 72; (first | with_reducible refine use1 (radd_c p a _ _ ha fneg_U) ?_ | with_reducible refine use (radd_c p a _ _ ha fneg_U) ?_); intro pw))
  go_ret
  exact ⟨by rw [fsub_eq]; rfl, (by repeat (first | exact Below.refl _ _ | refine Below.later ?_ _ | refine Below.box ?_ _ | refine Below.drew ?_ | refine Below.put ?_ (by dsimp only; omega) _))⟩

theorem rmul_c (p a b : Int) (w : World) (ha : U a) (hb : U b) : Calls Try.prog 43 #[.int .u64 p, .int .u64 a, .int .u64 b] w (Gives (.int .u64 (fmul p a b)) w) := by
  obtain ⟨a0, a1⟩ := ha
  obtain ⟨b0, b1⟩ := hb
  cases hv : vld p
  · have hn : Kept (fmul p a b = 0) := ⟨by simp [fmul, hv]⟩
    go_enter Try.func43, Try.ntmps43
    go_wp2_with (first | (go_at_call 74; (first | with_reducible refine use1 (rvalid_c _ _) ?_ | with_reducible refine use (rvalid_c _ _) ?_); intro pw))
    go_ret
    exact ⟨by rw [hn.out]; rfl, (by repeat (first | exact Below.refl _ _ | refine Below.later ?_ _ | refine Below.box ?_ _ | refine Below.drew ?_ | refine Below.put ?_ (by dsimp only; omega) _))⟩
  · have hp := vld_pos hv
    obtain ⟨ua0, ua1⟩ := emod_U (a := a) hv
    obtain ⟨ub0, ub1⟩ := emod_U (a := b) hv
    have hn : Kept ((a % p) * (b % p) % p = fmul p a b) := ⟨by rw [fmul, if_pos hv, em_mul_l, em_mul_r]⟩
    obtain ⟨x, hx⟩ : ∃ x, a % p = x := ⟨_, rfl⟩
    obtain ⟨y, hy⟩ : ∃ y, b % p = y := ⟨_, rfl⟩
    rw [hx, hy] at hn
    rw [hx] at ua0 ua1
    rw [hy] at ub0 ub1
    obtain ⟨h0, h1⟩ := mul_hi_lt (by omega) ua0 ua1 ub0 ub1
    have h2 := Int.emod_nonneg (x * y) (b := 18446744073709551616) (by omega)
    have h3 := Int.emod_lt_of_pos (x * y) (b := 18446744073709551616) (by omega)
    have h4 : 0 ≤ x * y / 18446744073709551616 := Int.ediv_nonneg h0 (by omega)
    have e : Kept (x * y / 18446744073709551616 * 18446744073709551616 + x * y % 18446744073709551616 = x * y) := ⟨Int.ediv_mul_add_emod _ _⟩
    go_enter Try.func43, Try.ntmps43
    go_wp2_with (first | (go_at_call 74; (first | with_reducible refine use1 (rvalid_c _ _) ?_ | with_reducible refine use (rvalid_c _ _) ?_); intro pw))
    first | refine region_quiet1 (by kernel_rfl) ?_ | refine region_quiet (by kernel_rfl) ?_
    repeat (go_big_quiet_step (first | (go_at_call 75; with_reducible exact quiet0 (mul64_c x y ua0 (by omega) ub0 (by omega) _))))
    refine wpQuiet_nil ?_
    intro _
    go_wp2_with (first | (go_at_call 76; (first | with_reducible refine use1 (div64_c _ _ _ _ h4 h2 h3 h1 (by omega)) ?_ | with_reducible refine use (div64_c _ _ _ _ h4 h2 h3 h1 (by omega)) ?_); intro pw))
    go_ret
    exact ⟨by rw [← hn.out]; exact congrArg (fun x => Ending.returned (Value.int .u64 (x % p))) e.out, (by repeat (first | exact Below.refl _ _ | refine Below.later ?_ _ | refine Below.box ?_ _ | refine Below.drew ?_ | refine Below.put ?_ (by dsimp only; omega) _))⟩

set_option maxHeartbeats 1000000 in
theorem rpow_c (p a e : Int) (w : World) (ha : U a) (he : U e) : Calls Try.prog 85 #[.int .u64 p, .int .u64 a, .int .u64 e] w (Gives (.int .u64 (fpow p a e.toNat)) w) := by
  obtain ⟨a0, a1⟩ := ha
  obtain ⟨e0, e1⟩ := he
  obtain ⟨e, rfl⟩ := Int.eq_ofNat_of_zero_le e0
  rw [Int.toNat_natCast]
  cases hv : vld p
  · have hn : Kept (fpow p a e = 0) := ⟨by simp [fpow, hv]⟩
    clear e1 e0
    go_enter Try.func85, Try.ntmps85
    go_wp2_with (first | (go_at_call 74; (first | with_reducible refine use1 (rvalid_c _ _) ?_ | with_reducible refine use (rvalid_c _ _) ?_); intro pw))
    go_ret
    exact ⟨by rw [hn.out]; rfl, (by repeat (first | exact Below.refl _ _ | refine Below.later ?_ _ | refine Below.box ?_ _ | refine Below.drew ?_ | refine Below.put ?_ (by dsimp only; omega) _))⟩
  · have hp := vld_pos hv
    have hn : Kept (fpow p a e = (a % p) ^ e % p) := ⟨by rw [em_pow, fpow, if_pos hv]⟩
    obtain ⟨ua0, ua1⟩ := emod_U (a := a) hv
    have he : BigB e := ⟨e1⟩
    clear e1 e0
    obtain ⟨x, hx⟩ : ∃ x, a % p = x := ⟨_, rfl⟩
    rw [hx] at ua0 ua1 hn
    go_enter Try.func85, Try.ntmps85
    go_wp2_with (first | (go_at_call 74; (first | with_reducible refine use1 (rvalid_c _ _) ?_ | with_reducible refine use (rvalid_c _ _) ?_); intro pw))
    go_loopw [1, 2, 7] (fun va ve vr wr => ∃ (A R : Int) (E : Nat) (q : Regrown), va = .int .u64 A ∧ ve = .int .u64 (E : Int) ∧ vr = .int .u64 R ∧ wr = after w q ∧ 0 ≤ A ∧ A < p ∧ 0 ≤ R ∧ R < p ∧ BigB E ∧ Kept ((R * A ^ E) % p = x ^ e % p)) (fun _ ve _ _ => (intOf ve).toNat)
    case atStart => exact ⟨x, 1, e, _, by rw [hx], rfl, rfl, rfl, ua0, ua1, by omega, by omega, he, ⟨by simp⟩⟩
    case round =>
      obtain ⟨A, R, E, q, rfl, rfl, rfl, rfl, hA0, hA1, hR0, hR1, hE, hI⟩ := hrel
      clear ua0 ua1 hx
      have hwr : IntKind.u64.wrap ((E : Int) / 2) = ((E / 2 : Nat) : Int) := by have := hE.out; rw [IntKind.wrap_u64]; omega
      have hA2 := emod_lt_pos (A * A) (p := p) (by omega)
      have hA3 := emod_nonneg_pos (A * A) (p := p) (by omega)
      have hR2 := emod_lt_pos (R * A) (p := p) (by omega)
      have hR3 := emod_nonneg_pos (R * A) (p := p) (by omega)
      have cA : Kept (∀ w, Calls Try.prog 43 #[.int .u64 p, .int .u64 A, .int .u64 A] w (Gives (.int .u64 (A * A % p)) w)) := ⟨fun w => by have := rmul_c p A A w ⟨hA0, by omega⟩ ⟨hA0, by omega⟩; rw [fmul, if_pos hv] at this; exact this⟩
      have cR : Kept (∀ w, Calls Try.prog 43 #[.int .u64 p, .int .u64 R, .int .u64 A] w (Gives (.int .u64 (R * A % p)) w)) := ⟨fun w => by have := rmul_c p R A w ⟨hR0, by omega⟩ ⟨hA0, by omega⟩; rw [fmul, if_pos hv] at this; exact this⟩
      by_cases h0 : E = 0
      · subst h0
        have e0 : Kept (R = x ^ e % p) := ⟨by have := hI.out; rw [Int.pow_zero, Int.mul_one, Int.emod_eq_of_lt hR0 hR1] at this; exact this⟩
        clear hI
        go_wp2_with fail
        go_ret
        exact ⟨by rw [hn.out, ← e0.out]; rfl, (by repeat (first | exact Below.refl _ _ | refine Below.later ?_ _ | refine Below.box ?_ _ | refine Below.drew ?_ | refine Below.put ?_ (by dsimp only; omega) _))⟩
      · have h1 : (0 : Int) < (E : Int) := by omega
        by_cases ho : E % 2 = 1
        · have hand1 : ((E : Int) % 2 == 1) = true := by simp; omega
          have hI2 : Kept ((((R * A) % p) * ((A * A) % p) ^ (E / 2)) % p = x ^ e % p) := ⟨pow_odd hI.out ho⟩
          clear hI
          go_wp2_with (first | (go_at_call 43; (first | with_reducible refine use1 (cR.out _) ?_ | with_reducible refine use (cR.out _) ?_); intro pw) | (go_at_call 43; (first | with_reducible refine use1 (cA.out _) ?_ | with_reducible refine use (cA.out _) ?_); intro pw))
          go_roundw
          case rel => exact ⟨(A * A) % p, ((R * A) % p), E / 2, _, rfl, by go_num, rfl, rfl, hA3, hA2, hR3, hR2, ⟨by have := hE.out; omega⟩, hI2⟩
          case measure => first | (simp [intOf]; omega) | (simp [intOf]; done)
        · have ho : E % 2 = 0 := by omega
          have hand1 : ((E : Int) % 2 == 1) = false := by simp; omega
          have hI2 : Kept ((R * ((A * A) % p) ^ (E / 2)) % p = x ^ e % p) := ⟨pow_even hI.out ho⟩
          clear hI
          go_wp2_with (first | (go_at_call 43; (first | with_reducible refine use1 (cA.out _) ?_ | with_reducible refine use (cA.out _) ?_); intro pw))
          go_roundw
          case rel => exact ⟨(A * A) % p, R, E / 2, _, rfl, by go_num, rfl, rfl, hA3, hA2, hR0, hR1, ⟨by have := hE.out; omega⟩, hI2⟩
          case measure => first | (simp [intOf]; omega) | (simp [intOf]; done)

theorem rinv_c (p a : Int) (w : World) (hp : U p) (ha : U a) : Calls Try.prog 81 #[.int .u64 p, .int .u64 a] w (Gives (.int .u64 (finv p a)) w) := by
  obtain ⟨p0, p1⟩ := hp
  cases hv : vld p
  · have hn : Kept (finv p a = 0) := ⟨by simp [finv, fpow, hv]⟩
    go_enter Try.func81, Try.ntmps81
    go_wp2_with (first | (go_at_call 74; (first | with_reducible refine use1 (rvalid_c _ _) ?_ | with_reducible refine use (rvalid_c _ _) ?_); intro pw))
    go_ret
    exact ⟨by rw [hn.out]; rfl, (by repeat (first | exact Below.refl _ _ | refine Below.later ?_ _ | refine Below.box ?_ _ | refine Below.drew ?_ | refine Below.put ?_ (by dsimp only; omega) _))⟩
  · have hp := vld_pos hv
    have hU : U (p - 2) := ⟨by omega, by omega⟩
    go_enter Try.func81, Try.ntmps81
    go_wp2_with (first | (go_at_call 74; (first | with_reducible refine use1 (rvalid_c _ _) ?_ | with_reducible refine use (rvalid_c _ _) ?_); intro pw) | (go_at_call 85; (first | with_reducible refine use1 (rpow_c p a (p - 2) _ ha hU) ?_ | with_reducible refine use (rpow_c p a (p - 2) _ ha hU) ?_); intro pw))
    go_ret
    exact ⟨rfl, (by repeat (first | exact Below.refl _ _ | refine Below.later ?_ _ | refine Below.box ?_ _ | refine Below.drew ?_ | refine Below.put ?_ (by dsimp only; omega) _))⟩
end Go.Proofs.Ytjnlnbkdnjainaa
