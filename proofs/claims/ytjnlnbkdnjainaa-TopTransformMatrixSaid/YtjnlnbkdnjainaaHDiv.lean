/- math/bits.Div64. -/
import Derived.Test.YtjnlnbkdnjainaaQA
import Derived.Test.YtjnlnbkdnjainaaHLen
import Derived.Lib.Hide
import Derived.WalkKit
import Derived.WalkSpells
import Derived.Outline
import Derived.BigQuiet
import Derived.Deep.LoopGhost
import Derived.Deep.DeepCutAuto
import Derived.Deep.CutBlock
import Derived.Deep.Cut
import Derived.Deep.Light
namespace Go.Proofs.Ytjnlnbkdnjainaa
open Go.RowKit Go.Lib

theorem lead64_s (y : Int) (s : Nat) (w : World) (h0 : 0 ≤ y) (h1 : y ≤ 18446744073709551615) (hs : Lib.bitLen y.toNat + s = 64) :
    Calls Try.prog 83 #[.int .u64 y] w fun e w' => e = .returned (.int .i64 (s : Int)) ∧ w = w' := by
  have := lead64_c y w h0 h1
  rw [show (64 : Int) - (Lib.bitLen y.toNat : Int) = (s : Int) from by omega] at this
  exact this

theorem div64_lo (lo y : Int) (w : World) (h0 : 0 ≤ lo) (h0' : lo < 18446744073709551616) (hy : 0 < y) :
    Calls Try.prog 76 #[.int .u64 0, .int .u64 lo, .int .u64 y] w fun e w' => e = .returned (.tuple #[.int .u64 (lo / y), .int .u64 (lo % y)]) ∧ ∃ n, w' = w.drewN n := by
  have h1 : (y == 0) = false := by rw [beq_eq_false_iff_ne]; omega
  have h2 : ¬ y = 0 := by omega
  have h3 : IntKind.u64.wrap (lo.tdiv y) = lo / y := by
    have a1 : 0 ≤ lo / y := Int.ediv_nonneg h0 (by omega)
    have a2 : lo / y ≤ lo := Int.ediv_le_self y h0
    rw [Int.tdiv_eq_ediv_of_nonneg h0, IntKind.wrap_u64]; omega
  go_enter Try.func76, Try.ntmps76
  go_wp2
  go_quiet (fail)
  go_wp2
  go_ret2
  exact ⟨rfl, _, rfl⟩


set_option maxHeartbeats 2000000 in
theorem div64_core (hi lo y : Int) (s : Nat) (w : World) (g0 : 0 < hi) (_h0 : 0 ≤ lo) (_h0' : lo < 18446744073709551616) (hy : hi < y) (hy' : y < 18446744073709551616)
    (hs : Lib.bitLen y.toNat + s = 64) (hs63 : s ≤ 63) (Y y1 y0 U T u1 u0 q r : Int) (hY : IntKind.u64.wrap (y * 2 ^ s) = Y) (hYn : 9223372036854775808 ≤ Y) (hYm : Y < 18446744073709551616)
    (hy1 : Y / 4294967296 = y1) (hy0 : bits .and .u64 Y 4294967295 = y0) (hYy : Hid (Y = y1 * 4294967296 + y0)) (hU : bits .or .u64 (IntKind.u64.wrap (hi * 2 ^ s)) (lo / 2 ^ (64 - s)) = U) (hT : IntKind.u64.wrap (lo * 2 ^ s) = T)
    (hu1 : T / 4294967296 = u1) (hu0 : bits .and .u64 T 4294967295 = u0) (hq : IntKind.u64.wrap (U.tdiv y1) = q) (hr : IntKind.u64.wrap (U - IntKind.u64.wrap (q * y1)) = r)
    (b1 : 2147483648 ≤ y1) (b1' : y1 < 4294967296) (b0 : 0 ≤ y0) (b0' : y0 < 4294967296) (bu1 : 0 ≤ u1) (bu1' : u1 < 4294967296) (bu0 : 0 ≤ u0) (bu0' : u0 < 4294967296) (bU : 0 ≤ U) (bU' : U < Y)
    (bq : 0 ≤ q) (bq' : q ≤ 4294967297) (br : 0 ≤ r) (br' : r < 4294967296) (hk : Hid (Knuth U u1 Y y1 q r))
    (Q1 R1 q2 r2 Q0 R0 : Int) (hQ1 : Hid ((U * 4294967296 + u1) / Y = Q1)) (bQ1 : 0 ≤ Q1) (bQ1' : Q1 < 4294967296)
    (hR1 : IntKind.u64.wrap (IntKind.u64.wrap (IntKind.u64.wrap (U * 4294967296) + u1) - IntKind.u64.wrap (Q1 * Y)) = R1) (bR : 0 ≤ R1) (bR' : R1 < Y)
    (hq2 : IntKind.u64.wrap (R1.tdiv y1) = q2) (hr2 : IntKind.u64.wrap (R1 - IntKind.u64.wrap (q2 * y1)) = r2) (bq2 : 0 ≤ q2) (bq2' : q2 ≤ 4294967297) (br2 : 0 ≤ r2) (br2' : r2 < 4294967296) (hk20 : Hid (Knuth R1 u0 Y y1 q2 r2))
    (hQ0 : Hid ((R1 * 4294967296 + u0) / Y = Q0)) (bQ0 : 0 ≤ Q0) (bQ0' : Q0 < 4294967296)
    (hR0 : IntKind.u64.wrap (IntKind.u64.wrap (IntKind.u64.wrap (R1 * 4294967296) + u0) - IntKind.u64.wrap (Q0 * Y)) = R0) (_bR0 : 0 ≤ R0) (_bR0' : R0 < Y)
    (fin1 : Hid (Q1 * 4294967296 + Q0 = (hi * 18446744073709551616 + lo) / y)) (fin2 : Hid (R0 / 2 ^ s = (hi * 18446744073709551616 + lo) % y)) :
    Calls Try.prog 76 #[.int .u64 hi, .int .u64 lo, .int .u64 y] w fun e w' => e = .returned (.tuple #[.int .u64 ((hi * 18446744073709551616 + lo) / y), .int .u64 ((hi * 18446744073709551616 + lo) % y)]) ∧ w' = w := by
  have h1 : (y == 0) = false := by rw [beq_eq_false_iff_ne]; omega
  have h2 : ¬ y = 0 := by omega
  have h3 : (hi == 0) = false := by rw [beq_eq_false_iff_ne]; omega
  have hm : min s 64 = s := by omega
  have hQ12 : Q1 * 4294967296 + Q0 = Q1 * 4294967296 + Q0 := rfl
  clear hQ12
  rw [← fin1.out, ← fin2.out]
  go_enter Try.func76, Try.ntmps76
  go_upto_block 0 with (go_at_call 83; refine (lead64_s y s _ (by omega) (by omega) hs).mono ?_; rintro e w' ⟨rfl, rfl⟩)
  go_cut [15] (fun v wx => v = .int .u64 Q1 ∧ wx = w)
  case first =>
    go_wp2
    go_loop [15, 16] (fun a b => ∃ q r : Int, a = .int .u64 q ∧ b = .int .u64 r ∧ 0 ≤ q ∧ q ≤ 4294967297 ∧ 0 ≤ r ∧ r < 4294967296 ∧ Hid (Knuth U u1 Y y1 q r)) (fun a _ => (RowKit.intOf a).toNat)
    case atStart => exact ⟨_, _, rfl, rfl, by omega, by omega, by omega, by omega, hk⟩
    case round =>
      obtain ⟨q', r', rfl, rfl, c1, c2, c3, c4, hk'⟩ := hrel
      clear hq hr hk hR1 hq2 hr2 hR0 hk20
      by_cases k1 : 4294967296 ≤ q'
      · have hk2 : Hid (Knuth U u1 Y y1 (q' - 1) (r' + y1)) := knuth_next hYy.out b0 b0' b1 b1' bU bU' bu1 bu1' hk'.out (.inl k1)
        by_cases k2 : r' + y1 < 4294967296
        · go_wp2
          go_round
          case rel => exact ⟨_, _, rfl, rfl, by omega, by omega, by omega, by omega, hk2⟩
          case measure => simp [RowKit.intOf]; omega
        · go_wp2
          go_meet
          case rel => go_light; exact ⟨by rw [← hQ1.out, knuth_stop2 hYy.out b0 b0' (by omega) bu1 hk2 (by omega) (by omega)], rfl⟩
      · obtain ⟨M, hM⟩ : ∃ M, IntKind.u64.wrap (q' * y0) = M := ⟨_, rfl⟩
        have hM' : Hid (q' * y0 = M) := by
          have e1 : q' * y0 ≤ 4294967296 * y0 := Int.mul_le_mul_of_nonneg_right (by omega) b0
          have e2 : 0 ≤ q' * y0 := Int.mul_nonneg c1 b0
          rw [IntKind.wrap_u64] at hM
          show _ = _
          omega
        by_cases k3 : 4294967296 * r' + u1 < M
        · have hk2 : Hid (Knuth U u1 Y y1 (q' - 1) (r' + y1)) := knuth_next hYy.out b0 b0' b1 b1' bU bU' bu1 bu1' hk'.out (.inr (by rw [hM'.out]; exact k3))
          have c5 : 1 ≤ q' := by have := hk2.q0; omega
          by_cases k2 : r' + y1 < 4294967296
          · go_wp2
            go_round
            case rel => exact ⟨_, _, rfl, rfl, by omega, by omega, by omega, by omega, hk2⟩
            case measure => simp [RowKit.intOf]; omega
          · go_wp2
            go_meet
            case rel => go_light; exact ⟨by rw [← hQ1.out, knuth_stop2 hYy.out b0 b0' (by omega) bu1 hk2 (by omega) (by omega)], rfl⟩
        · go_wp2
          go_meet
          case rel => go_light; exact ⟨by rw [← hQ1.out, knuth_stop1 hYy.out (by omega) hk'.out (by rw [hM'.out]; omega)], rfl⟩
  case rest =>
    obtain ⟨rfl, rfl⟩ := hcut
    clear hq hr hk
    go_upto_block 2 with fail
    go_cut [18] (fun v wx => v = .int .u64 Q0 ∧ wx = wc)
    case first =>
      go_wp2
      go_loop [18, 16] (fun a b => ∃ q r : Int, a = .int .u64 q ∧ b = .int .u64 r ∧ 0 ≤ q ∧ q ≤ 4294967297 ∧ 0 ≤ r ∧ r < 4294967296 ∧ Hid (Knuth R1 u0 Y y1 q r)) (fun a _ => (RowKit.intOf a).toNat)
      case atStart => exact ⟨_, _, rfl, rfl, by omega, by omega, by omega, by omega, hk20⟩
      case round =>
        obtain ⟨q', r', rfl, rfl, c1, c2, c3, c4, hk'⟩ := hrel
        clear hR1 hq2 hr2 hk20 hR0
        by_cases k1 : 4294967296 ≤ q'
        · have hk2 : Hid (Knuth R1 u0 Y y1 (q' - 1) (r' + y1)) := knuth_next hYy.out b0 b0' b1 b1' bR bR' bu0 bu0' hk'.out (.inl k1)
          by_cases k2 : r' + y1 < 4294967296
          · go_wp2
            go_round
            case rel => exact ⟨_, _, rfl, rfl, by omega, by omega, by omega, by omega, hk2⟩
            case measure => simp [RowKit.intOf]; omega
          · go_wp2
            go_meet
            case rel => go_light; exact ⟨by rw [← hQ0.out, knuth_stop2 hYy.out b0 b0' (by omega) bu0 hk2 (by omega) (by omega)], rfl⟩
        · obtain ⟨M, hM⟩ : ∃ M, IntKind.u64.wrap (q' * y0) = M := ⟨_, rfl⟩
          have hM' : Hid (q' * y0 = M) := by
            have e1 : q' * y0 ≤ 4294967296 * y0 := Int.mul_le_mul_of_nonneg_right (by omega) b0
            have e2 : 0 ≤ q' * y0 := Int.mul_nonneg c1 b0
            rw [IntKind.wrap_u64] at hM
            show _ = _
            omega
          by_cases k3 : 4294967296 * r' + u0 < M
          · have hk2 : Hid (Knuth R1 u0 Y y1 (q' - 1) (r' + y1)) := knuth_next hYy.out b0 b0' b1 b1' bR bR' bu0 bu0' hk'.out (.inr (by rw [hM'.out]; exact k3))
            have c5 : 1 ≤ q' := by have := hk2.q0; omega
            by_cases k2 : r' + y1 < 4294967296
            · go_wp2
              go_round
              case rel => exact ⟨_, _, rfl, rfl, by omega, by omega, by omega, by omega, hk2⟩
              case measure => simp [RowKit.intOf]; omega
            · go_wp2
              go_meet
              case rel => go_light; exact ⟨by rw [← hQ0.out, knuth_stop2 hYy.out b0 b0' (by omega) bu0 hk2 (by omega) (by omega)], rfl⟩
          · go_wp2
            go_meet
            case rel => go_light; exact ⟨by rw [← hQ0.out, knuth_stop1 hYy.out (by omega) hk'.out (by rw [hM'.out]; omega)], rfl⟩
    case rest =>
      obtain ⟨rfl, rfl⟩ := hcut
      clear hq2 hr2 hk20 hR1
      go_wp2
      go_ret2
      exact ⟨rfl, rfl⟩

theorem bitLen_bounds (x : Nat) (h0 : x ≠ 0) (h : x < 2 ^ 64) : ∀ s, Lib.bitLen x + s = 64 → s ≤ 63 ∧ 2 ^ 63 ≤ x * 2 ^ s ∧ x * 2 ^ s < 2 ^ 64 := by
  have key : ∀ n x, x ≠ 0 → x < 2 ^ 64 → x < 2 ^ n → Lib.bitLen x ≤ n → 1 ≤ Lib.bitLen x ∧ 2 ^ (Lib.bitLen x - 1) ≤ x ∧ x < 2 ^ Lib.bitLen x := by
    intro n
    induction n with
    | zero => intro x h0 _ h1 _; rw [Nat.pow_zero] at h1; omega
    | succ n ih =>
      intro x h0 h hn hl
      rw [Lib.bitLen_half x h0 h] at hl ⊢
      by_cases h2 : x / 2 = 0
      · rw [h2]
        have : Lib.bitLen 0 = 0 := by decide
        rw [this]
        refine ⟨by omega, ?_, ?_⟩ <;> simp <;> omega
      · obtain ⟨a1, a2, a3⟩ := ih (x / 2) h2 (by omega) (by rw [Nat.pow_succ] at hn; omega) (by omega)
        refine ⟨by omega, ?_, ?_⟩
        · rw [show 1 + Lib.bitLen (x / 2) - 1 = (Lib.bitLen (x / 2) - 1) + 1 from by omega, Nat.pow_succ]; omega
        · rw [Nat.add_comm, Nat.pow_succ]; omega
  intro s hs
  obtain ⟨a1, a2, a3⟩ := key 64 x h0 h h (Lib.bitLen_le x 64 (Nat.le_refl _) h)
  refine ⟨by omega, ?_, ?_⟩
  · have : 2 ^ 63 = 2 ^ (Lib.bitLen x - 1) * 2 ^ s := by rw [← Nat.pow_add]; congr 1; omega
    rw [this]; exact Nat.mul_le_mul_right _ a2
  · have : 2 ^ 64 = 2 ^ Lib.bitLen x * 2 ^ s := by rw [← Nat.pow_add]; congr 1; omega
    rw [this]; exact Nat.mul_lt_mul_of_pos_right a3 (Nat.two_pow_pos s)

theorem or_add (s a b : Nat) (hb : b < 2 ^ s) : a * 2 ^ s ||| b = a * 2 ^ s + b := by
  rw [Nat.mul_comm, ← Nat.two_pow_add_eq_or_of_lt hb]

theorem wrap_u64_of {x : Int} (h0 : 0 ≤ x) (h1 : x < 18446744073709551616) : IntKind.u64.wrap x = x := by rw [IntKind.wrap_u64]; omega

theorem wrap_quot {U y1 : Int} (hU0 : 0 ≤ U) (hU : U < 18446744073709551616) (h1 : 0 < y1) : IntKind.u64.wrap (U.tdiv y1) = U / y1 ∧ IntKind.u64.wrap (U - IntKind.u64.wrap (U / y1 * y1)) = U % y1 := by
  have a1 : 0 ≤ U / y1 := Int.ediv_nonneg hU0 (by omega)
  have a2 : U / y1 ≤ U := Int.ediv_le_self y1 hU0
  have hd : y1 * (U / y1) + U % y1 = U := Int.mul_ediv_add_emod U y1
  have hr0 := Int.emod_nonneg U (Int.ne_of_gt h1)
  have hr1 := Int.emod_lt_of_pos U h1
  refine ⟨by rw [Int.tdiv_eq_ediv_of_nonneg hU0]; exact wrap_u64_of a1 (by omega), ?_⟩
  have e0 : 0 ≤ U / y1 * y1 := Int.mul_nonneg a1 (by omega)
  rw [Int.mul_comm] at hd
  rw [wrap_u64_of e0 (by omega), wrap_u64_of (by omega) (by omega)]
  omega

theorem wrap_rem {U u1 Y : Int} (hY : 0 < Y) (hY' : Y < 18446744073709551616) :
    IntKind.u64.wrap (IntKind.u64.wrap (IntKind.u64.wrap (U * 4294967296) + u1) - IntKind.u64.wrap ((U * 4294967296 + u1) / Y * Y)) = (U * 4294967296 + u1) % Y := by
  have hd : Y * ((U * 4294967296 + u1) / Y) + (U * 4294967296 + u1) % Y = U * 4294967296 + u1 := Int.mul_ediv_add_emod _ Y
  have hr0 := Int.emod_nonneg (U * 4294967296 + u1) (Int.ne_of_gt hY)
  have hr1 := Int.emod_lt_of_pos (U * 4294967296 + u1) hY
  rw [Int.mul_comm] at hd
  generalize (U * 4294967296 + u1) / Y * Y = A at *
  simp only [IntKind.wrap_u64]
  omega

theorem div64_hi (hi lo y : Int) (w : World) (g0 : 0 < hi) (h0 : 0 ≤ lo) (h0' : lo < 18446744073709551616) (hy : hi < y) (hy' : y < 18446744073709551616) :
    Calls Try.prog 76 #[.int .u64 hi, .int .u64 lo, .int .u64 y] w fun e w' => e = .returned (.tuple #[.int .u64 ((hi * 18446744073709551616 + lo) / y), .int .u64 ((hi * 18446744073709551616 + lo) % y)]) ∧ w' = w := by
  obtain ⟨hiN, rfl⟩ := Int.eq_ofNat_of_zero_le (a := hi) (by omega)
  obtain ⟨loN, rfl⟩ := Int.eq_ofNat_of_zero_le h0
  obtain ⟨yN, rfl⟩ := Int.eq_ofNat_of_zero_le (a := y) (by omega)
  have hl : Lib.bitLen yN ≤ 64 := Lib.bitLen_le yN 64 (Nat.le_refl _) (by omega)
  obtain ⟨s, hs⟩ : ∃ s, Lib.bitLen yN + s = 64 := ⟨64 - Lib.bitLen yN, by omega⟩
  obtain ⟨hs63, hlo, hhi⟩ := bitLen_bounds yN (by omega) (by omega) s hs
  have hK : 2 ^ s * 2 ^ (64 - s) = 18446744073709551616 := by rw [← Nat.pow_add, show s + (64 - s) = 64 from by omega]
  have hKp : 0 < 2 ^ s := Nat.two_pow_pos s
  have hKp' : 0 < 2 ^ (64 - s) := Nat.two_pow_pos (64 - s)
  have hcast : ((2 : Int) ^ s) = ((2 ^ s : Nat) : Int) := by rw [Int.natCast_pow]; rfl
  have hcast' : ((2 : Int) ^ (64 - s)) = ((2 ^ (64 - s) : Nat) : Int) := by rw [Int.natCast_pow]; rfl
  have hdl : loN / 2 ^ (64 - s) < 2 ^ s := (Nat.div_lt_iff_lt_mul hKp').2 (by rw [hK]; omega)
  have hiy : hiN * 2 ^ s + 2 ^ s ≤ yN * 2 ^ s := by rw [← Nat.succ_mul]; exact Nat.mul_le_mul_right _ (by omega)
  have hsplit : loN * 2 ^ s = loN / 2 ^ (64 - s) * 18446744073709551616 + loN * 2 ^ s % 18446744073709551616 := by
    have e : loN * 2 ^ s / 18446744073709551616 = loN / 2 ^ (64 - s) := by
      rw [← hK, Nat.mul_comm loN, Nat.mul_div_mul_left _ _ hKp]
    have := Nat.div_add_mod (loN * 2 ^ s) 18446744073709551616
    rw [e] at this; omega
  have hY : IntKind.u64.wrap ((yN : Int) * 2 ^ s) = ((yN * 2 ^ s : Nat) : Int) := by
    rw [hcast, ← Int.natCast_mul]; exact wrapN _ hhi
  have hU : bits .or .u64 (IntKind.u64.wrap ((hiN : Int) * 2 ^ s)) ((loN : Int) / 2 ^ (64 - s)) = ((hiN * 2 ^ s + loN / 2 ^ (64 - s) : Nat) : Int) := by
    rw [hcast, hcast', ← Int.natCast_mul, wrapN _ (by omega), ← Int.natCast_ediv, bits_or_u64_nat _ _ (by omega) (by omega), or_add _ _ _ hdl]
  have hT : IntKind.u64.wrap ((loN : Int) * 2 ^ s) = ((loN * 2 ^ s % 18446744073709551616 : Nat) : Int) := by
    rw [hcast, ← Int.natCast_mul, wrapM]
  have hN : ((hiN : Int) * 18446744073709551616 + loN) * ((2 ^ s : Nat) : Int) = ((hiN * 2 ^ s + loN / 2 ^ (64 - s) : Nat) : Int) * 18446744073709551616 + ((loN * 2 ^ s % 18446744073709551616 : Nat) : Int) / 4294967296 * 4294967296 + ((loN * 2 ^ s % 18446744073709551616 : Nat) : Int) % 4294967296 := by
    have e : (hiN * 18446744073709551616 + loN) * 2 ^ s = hiN * 2 ^ s * 18446744073709551616 + loN * 2 ^ s := by rw [Nat.add_mul, Nat.mul_right_comm]
    have e' : ((hiN : Int) * 18446744073709551616 + loN) * ((2 ^ s : Nat) : Int) = (((hiN * 18446744073709551616 + loN) * 2 ^ s : Nat) : Int) := by
      rw [Int.natCast_mul, Int.natCast_add, Int.natCast_mul]; rfl
    rw [e', e]
    generalize hiN * 2 ^ s = A at *
    generalize loN * 2 ^ s = B at *
    generalize loN / 2 ^ (64 - s) = C at *
    omega
  have hYpos : (0 : Int) < ((yN * 2 ^ s : Nat) : Int) := by omega
  have hb0 := maskN (yN * 2 ^ s) hhi
  have ht0 := maskN (loN * 2 ^ s % 18446744073709551616) (by omega)
  have hUlt : hiN * 2 ^ s + loN / 2 ^ (64 - s) < yN * 2 ^ s := by omega
  have hTlt : loN * 2 ^ s % 18446744073709551616 < 18446744073709551616 := by omega
  obtain ⟨Y, hYe⟩ : ∃ Y, yN * 2 ^ s = Y := ⟨_, rfl⟩
  obtain ⟨U, hUe⟩ : ∃ U, hiN * 2 ^ s + loN / 2 ^ (64 - s) = U := ⟨_, rfl⟩
  obtain ⟨T, hTe⟩ : ∃ T, loN * 2 ^ s % 18446744073709551616 = T := ⟨_, rfl⟩
  have hsh := @shifted ((hiN : Int) * 18446744073709551616 + loN) (yN : Int) ((2 ^ s : Nat) : Int) (by omega)
  rw [hN, ← Int.natCast_mul, hYe, hUe, hTe] at hsh
  rw [hYe] at hlo hhi hY hYpos hb0 hUlt
  rw [hUe] at hU hUlt
  rw [hTe] at hT ht0 hTlt
  clear hN hsplit hiy hdl hYe hUe hTe
  have hYy : (Y : Int) = (Y : Int) / 4294967296 * 4294967296 + ((Y % 4294967296 : Nat) : Int) := by omega
  have q1 := wrap_quot (U := (U : Int)) (y1 := (Y : Int) / 4294967296) (by omega) (by omega) (by omega)
  have k1 := knuth_start (U := (U : Int)) (u1 := (T : Int) / 4294967296) hYy (by omega) (by omega) (by omega) (by omega) (by omega) (by omega) (by omega) (by omega)
  have r1 := wrap_rem (U := (U : Int)) (u1 := (T : Int) / 4294967296) hYpos (by omega)
  have R1a := Int.emod_nonneg ((U : Int) * 4294967296 + (T : Int) / 4294967296) (Int.ne_of_gt hYpos)
  have R1b := Int.emod_lt_of_pos ((U : Int) * 4294967296 + (T : Int) / 4294967296) hYpos
  have d1a := digit_nonneg (U := (U : Int)) (u1 := (T : Int) / 4294967296) hYpos (by omega) (by omega)
  have d1b := digit_lt (U := (U : Int)) (u1 := (T : Int) / 4294967296) hYpos (by omega) (by omega)
  have td := two_digits (U := (U : Int)) (u1 := (T : Int) / 4294967296) (u0 := (T : Int) % 4294967296) hYpos
  generalize hQ1 : ((U : Int) * 4294967296 + (T : Int) / 4294967296) / (Y : Int) = Q1 at *
  generalize hR1 : ((U : Int) * 4294967296 + (T : Int) / 4294967296) % (Y : Int) = R1 at *
  have q0 := wrap_quot (U := R1) (y1 := (Y : Int) / 4294967296) (by omega) (by omega) (by omega)
  have k0 := knuth_start (U := R1) (u1 := (T : Int) % 4294967296) hYy (by omega) (by omega) (by omega) (by omega) (by omega) (by omega) (by omega) (by omega)
  have r0 := wrap_rem (U := R1) (u1 := (T : Int) % 4294967296) hYpos (by omega)
  have R0a := Int.emod_nonneg (R1 * 4294967296 + (T : Int) % 4294967296) (Int.ne_of_gt hYpos)
  have R0b := Int.emod_lt_of_pos (R1 * 4294967296 + (T : Int) % 4294967296) hYpos
  have d0a := digit_nonneg (U := R1) (u1 := (T : Int) % 4294967296) hYpos (by omega) (by omega)
  have d0b := digit_lt (U := R1) (u1 := (T : Int) % 4294967296) hYpos (by omega) (by omega)
  have e1 := Int.emod_lt_of_pos (U : Int) (b := (Y : Int) / 4294967296) (by omega)
  have e2 := Int.emod_nonneg (U : Int) (b := (Y : Int) / 4294967296) (by omega)
  have e3 := Int.emod_lt_of_pos R1 (b := (Y : Int) / 4294967296) (by omega)
  have e4 := Int.emod_nonneg R1 (b := (Y : Int) / 4294967296) (by omega)
  exact div64_core hiN loN yN s w g0 h0 h0' hy hy' hs hs63 Y _ _ U T _ _ _ _ hY (by omega) (by omega) rfl hb0 hYy hU hT rfl ht0 q1.1 q1.2
    (by omega) (by omega) (by omega) (by omega) (by omega) (by omega) (by omega) (by omega) (by omega) (by omega) k1.q0 k1.q2 (by omega) (by omega) (by rw [show ((T % 4294967296 : Nat) : Int) = (T : Int) % 4294967296 from by omega] at *; exact k1)
    Q1 R1 _ _ _ _ hQ1 d1a d1b r1 R1a R1b q0.1 q0.2 k0.q0 k0.q2 (by omega) (by omega) k0 rfl d0a d0b r0 R0a R0b
    (by rw [← hsh.1, td.1]; rfl) (by rw [← hsh.2, td.2, hcast]; rfl)
end Go.Proofs.Ytjnlnbkdnjainaa
