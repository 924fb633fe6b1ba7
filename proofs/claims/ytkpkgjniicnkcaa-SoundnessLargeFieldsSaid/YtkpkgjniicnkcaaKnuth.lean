/- The arithmetic of the division of 128 bits by 64 bits, two digits of 32 bits at a time. No program in sight. -/
namespace Go.Proofs.Ytkpkgjniicnkcaa

/-- One digit: q is at least the digit, r belongs to it. -/
structure Knuth (U u1 Y y1 q r : Int) : Prop where
  sum : q * y1 + r = U
  r0 : 0 ≤ r
  q0 : 0 ≤ q
  q2 : q ≤ 4294967297
  over : U * 4294967296 + u1 < (q + 1) * Y

theorem div_unique {a b q : Int} (hb : 0 < b) (h1 : q * b ≤ a) (h2 : a < (q + 1) * b) : a / b = q := by
  have e1 : q ≤ a / b := (Int.le_ediv_iff_mul_le hb).2 h1
  have e2 : a / b < q + 1 := (Int.ediv_lt_iff_lt_mul hb).2 h2
  omega

theorem knuth_parts {Y y1 y0 : Int} (hY : Y = y1 * 4294967296 + y0) (q : Int) : q * Y = q * y1 * 4294967296 + q * y0 := by
  rw [hY, Int.mul_add, Int.mul_assoc]

theorem knuth_start {U u1 Y y1 y0 : Int} (hY : Y = y1 * 4294967296 + y0) (h0 : 0 ≤ y0) (h0' : y0 < 4294967296) (h1 : 2147483648 ≤ y1) (_h1' : y1 < 4294967296)
    (hU0 : 0 ≤ U) (hU : U < Y) (_hu0 : 0 ≤ u1) (hu : u1 < 4294967296) : Knuth U u1 Y y1 (U / y1) (U % y1) := by
  have hpos : 0 < y1 := by omega
  have hd : y1 * (U / y1) + U % y1 = U := Int.mul_ediv_add_emod U y1
  have hr0 := Int.emod_nonneg U (Int.ne_of_gt hpos)
  have hr1 := Int.emod_lt_of_pos U hpos
  have hq0 : 0 ≤ U / y1 := Int.ediv_nonneg hU0 (by omega)
  have hq2 : U / y1 < 4294967298 := (Int.ediv_lt_iff_lt_mul hpos).2 (by omega)
  refine ⟨by rw [Int.mul_comm]; exact hd, hr0, hq0, by omega, ?_⟩
  rw [Int.add_mul, Int.one_mul, knuth_parts hY]
  rw [Int.mul_comm] at hd
  have hb : 0 ≤ U / y1 * y0 := Int.mul_nonneg hq0 h0
  generalize U / y1 * y1 = A at *
  generalize U / y1 * y0 = B at *
  omega

theorem knuth_next {U u1 Y y1 y0 q r : Int} (hY : Y = y1 * 4294967296 + y0) (_h0 : 0 ≤ y0) (_h0' : y0 < 4294967296) (h1 : 2147483648 ≤ y1) (_h1' : y1 < 4294967296)
    (hU0 : 0 ≤ U) (hU : U < Y) (hu0 : 0 ≤ u1) (hu : u1 < 4294967296) (h : Knuth U u1 Y y1 q r) (ht : 4294967296 ≤ q ∨ 4294967296 * r + u1 < q * y0) : Knuth U u1 Y y1 (q - 1) (r + y1) := by
  obtain ⟨hs, hr, hq0, hq2, hov⟩ := h
  have hq1 : 1 ≤ q := by
    rcases ht with ht | ht
    · omega
    · rcases Int.lt_or_le q 1 with h | h
      · have : q = 0 := by omega
        subst this; rw [Int.zero_mul] at ht; omega
      · exact h
  refine ⟨by rw [Int.sub_mul]; omega, by omega, by omega, by omega, ?_⟩
  rw [show q - 1 + 1 = q from by omega, knuth_parts hY]
  rcases ht with ht | ht
  · have : U + 1 ≤ Y := by omega
    have e : 4294967296 * Y ≤ q * Y := Int.mul_le_mul_of_nonneg_right ht (by omega)
    rw [knuth_parts hY q] at e
    omega
  · have e : q * y1 * 4294967296 = (U - r) * 4294967296 := by rw [show q * y1 = U - r from by omega]
    rw [e]; omega

theorem knuth_stop1 {U u1 Y y1 y0 q r : Int} (hY : Y = y1 * 4294967296 + y0) (hYp : 0 < Y) (h : Knuth U u1 Y y1 q r) (ht : q * y0 ≤ 4294967296 * r + u1) : (U * 4294967296 + u1) / Y = q := by
  obtain ⟨hs, hr, hq0, hq2, hov⟩ := h
  refine div_unique hYp ?_ hov
  rw [knuth_parts hY q]
  have e : q * y1 * 4294967296 = (U - r) * 4294967296 := by rw [show q * y1 = U - r from by omega]
  rw [e]; omega

theorem knuth_stop2 {U u1 Y y1 y0 q r : Int} (hY : Y = y1 * 4294967296 + y0) (h0 : 0 ≤ y0) (h0' : y0 < 4294967296) (hYp : 0 < Y) (hu0 : 0 ≤ u1) (h : Knuth U u1 Y y1 q r) (hq : q ≤ 4294967296) (hr : 4294967296 ≤ r) : (U * 4294967296 + u1) / Y = q := by
  refine knuth_stop1 hY hYp h ?_
  have e : q * y0 ≤ 4294967296 * y0 := Int.mul_le_mul_of_nonneg_right hq h0
  omega

theorem digit_lt {U u1 Y : Int} (hYp : 0 < Y) (hU : U < Y) (hu : u1 < 4294967296) : (U * 4294967296 + u1) / Y < 4294967296 :=
  (Int.ediv_lt_iff_lt_mul hYp).2 (by omega)
theorem digit_nonneg {U u1 Y : Int} (hYp : 0 < Y) (hU0 : 0 ≤ U) (hu0 : 0 ≤ u1) : 0 ≤ (U * 4294967296 + u1) / Y :=
  Int.ediv_nonneg (by omega) (by omega)

/-- The two digits together. -/
theorem two_digits {U u1 u0 Y : Int} (hYp : 0 < Y) :
    (U * 18446744073709551616 + u1 * 4294967296 + u0) / Y = (U * 4294967296 + u1) / Y * 4294967296 + ((U * 4294967296 + u1) % Y * 4294967296 + u0) / Y ∧
    (U * 18446744073709551616 + u1 * 4294967296 + u0) % Y = ((U * 4294967296 + u1) % Y * 4294967296 + u0) % Y := by
  have hd : Y * ((U * 4294967296 + u1) / Y) + (U * 4294967296 + u1) % Y = U * 4294967296 + u1 := Int.mul_ediv_add_emod _ Y
  have e : U * 18446744073709551616 + u1 * 4294967296 + u0 = ((U * 4294967296 + u1) % Y * 4294967296 + u0) + Y * ((U * 4294967296 + u1) / Y * 4294967296) := by
    rw [← Int.mul_assoc]; omega
  rw [e]
  refine ⟨?_, ?_⟩
  · rw [Int.add_mul_ediv_left _ _ (by omega)]; omega
  · rw [Int.add_mul_emod_self_left]

/-- Both sides shifted by s bits. -/
theorem shifted {N y k : Int} (hk : 0 < k) : (N * k) / (y * k) = N / y ∧ (N * k) % (y * k) / k = N % y := by
  refine ⟨Int.mul_ediv_mul_of_pos_left N y hk, ?_⟩
  rw [Int.mul_comm N k, Int.mul_comm y k, Int.mul_emod_mul_of_pos N y hk]
  exact Int.mul_ediv_cancel_left _ (Int.ne_of_gt hk)
end Go.Proofs.Ytkpkgjniicnkcaa
