/- layout.belongs, where the layout is the table's. -/
import Derived.Test.YtpkjlnelkacbgaaHSat
import Derived.Test.YtpkjlnelkacbgaaHTabT
namespace Go.Proofs.Ytpkjlnelkacbgaa
open Go.RowKit Go.Sort

set_option maxRecDepth 100000
theorem size11i (w : World) : (sizeOf 3).run Try.prog w = .ok 1 w := by kernel_rfl
@[go_sem] theorem eq4i (a b c d a' b' c' d' : Int) (w : World) : (Op.equalIn 10000 30 (.agg #[.int .i64 a, .int .i64 b, .int .i64 c, .int .i64 d]) (.agg #[.int .i64 a', .int .i64 b', .int .i64 c', .int .i64 d'])).run Try.prog w = .ok (a == a' && b == b' && c == c' && d == d') w := by
  unfold Op.equalIn
  simp only [Sem.run_bind, run_underlying Try.underlying30, Result.andThen_ok, size11i]
  rw [Std.Legacy.Range.forIn_eq_forIn_range']
  simp [Std.Legacy.Range.size, List.range', go_sem]
  by_cases h1 : a = a' <;> by_cases h2 : b = b' <;> by_cases h3 : c = c' <;> by_cases h4 : d = d' <;> simp [h1, h2, h3, h4]

set_option maxHeartbeats 4000000 in
theorem belongs_c (p b q k n s P0 P1 pub vs : Int) (m : Nat) (u : Option Addr) (c : Nat) (w : World) (hv : vld p = true) (hb : 1 ≤ b ∧ b ≤ 256) (hm : m ≤ 16384) (hpub : 0 ≤ pub) (hs : 0 ≤ s ∧ s = vs - 1 - pub) (hvs : vs ≤ 65536)
    (hP0 : (s + b - 1) / b = P0) (hP1 : ((m : Int) + b - 1) / b = P1) :
    Calls Try.prog 37 #[.agg #[.int .u64 p, .int .i64 b, .int .i64 q, .int .i64 k, .int .i64 n, .int .i64 s, .int .i64 (m : Int), .int .i64 P0, .int .i64 P1, .int .i64 P1, .int .i64 P1], .agg #[.int .u64 p, .int .i64 pub, .int .i64 vs, .slice u m c]] w (Gives (.bool true) w) := by
  have cv : Kept (∀ w, Calls Try.prog 59 #[.agg #[.int .u64 p]] w (Gives (.bool true) w)) := ⟨fun w => by have := valid_c p w; rw [hv] at this; exact this⟩
  have c1 : Kept (∀ w', Calls Try.prog 32 #[.int .i64 s, .int .i64 b] w' (Gives (.int .i64 P0) w')) := ⟨fun w' => (parts_c s b w' hs.1 (by omega) (by omega) (by omega)).mono fun e w'' ⟨he, hw⟩ => ⟨by rw [he, hP0], by rw [hw]; exact Below.refl _ _⟩⟩
  have c2 : Kept (∀ w', Calls Try.prog 32 #[.int .i64 (m : Int), .int .i64 b] w' (Gives (.int .i64 P1) w')) := ⟨fun w' => (parts_c m b w' (by omega) (by omega) (by omega) (by omega)).mono fun e w'' ⟨he, hw⟩ => ⟨by rw [he, hP1], by rw [hw]; exact Below.refl _ _⟩⟩
  have t1 : decide (b < 1) = false := by simp; omega
  have t2 : decide ((m : Int) > 16384) = false := by simp; omega
  have t3 : decide (pub < 0) = false := by simp; omega
  have t4 : decide (s < 0) = false := by simp; omega
  obtain ⟨hs1, hs2⟩ := hs
  subst hs2
  clear hP0 hP1 hv
  go_enter Try.func37, Try.ntmps37
  go_wp2_with (first | (go_at_call 59; (first | with_reducible refine use1 (cv.out _) ?_ | with_reducible refine use (cv.out _) ?_); intro pw) | (go_at_call 32; (first | with_reducible refine use1 (c2.out _) ?_ | with_reducible refine use (c2.out _) ?_); intro pw))
  first | refine region_quiet1 (by kernel_rfl) ?_ | refine region_quiet (by kernel_rfl) ?_
  repeat (go_big_quiet_step (first | (go_at_call 32; with_reducible exact quiet (c1.out _))))
  refine wpQuiet_nil ?_
  intro _
  go_wp2
  go_ret
  exact ⟨by simp, (by repeat (first | exact Below.refl _ _ | refine Below.later ?_ _ | refine Below.box ?_ _ | refine Below.drew ?_ | refine Below.put ?_ (by dsimp only; omega) _))⟩
end Go.Proofs.Ytpkjlnelkacbgaa
