/- The examples of layer 32 hold. -/
import Derived.Test.YtgioplimemjpoaaConG
import Derived.Test.YtgioplimemjpoaaEq
namespace Go.Proofs.Ytgioplimemjpoaa
open Go.RowKit

theorem big_of {x : Int} (h : U x) : BigB x.toNat := ⟨by have := h.1; have := h.2; omega⟩
theorem awake32_c (w : World) : Calls Try.prog 11 #[] w (Gives (.bool true) w) := by
  have p1 : Kept (∀ w, Calls Try.prog 10 #[.int .u64 1] w (Gives (.agg #[.int .u64 2, .int .u64 1]) w)) := ⟨fun w => by
    have := public_c 1 w ⟨by decide⟩; rw [show gpow (2, 1) 1 = (2, 1) from by decide +kernel] at this; exact this⟩
  have p2 : Kept (∀ w, Calls Try.prog 10 #[.int .u64 2] w (Gives (.agg #[.int .u64 11, .int .u64 4]) w)) := ⟨fun w => by
    have := public_c 2 w ⟨by decide⟩; rw [show gpow (2, 1) 2 = (11, 4) from by decide +kernel] at this; exact this⟩
  have p0 : Kept (∀ w, Calls Try.prog 10 #[.int .u64 0] w (Gives (.agg #[.int .u64 1, .int .u64 0]) w)) := ⟨fun w => by
    have := public_c 0 w ⟨by decide⟩; rw [show gpow (2, 1) 0 = (1, 0) from by decide +kernel] at this; exact this⟩
  have s2 : Kept (∀ w, Calls Try.prog 14 #[.agg #[.int .u64 0, .int .u64 1], .int .u64 2] w (Gives (.agg #[.int .u64 7, .int .u64 0]) w)) := ⟨fun w => by
    have := shared_c (0, 1) 2 w ⟨⟨by decide, by decide⟩, ⟨by decide, by decide⟩⟩ ⟨by decide⟩; rw [show gshared (0, 1) 2 = (7, 0) from by decide +kernel] at this; exact this⟩
  go_enter Try.func11, Try.ntmps11
  go_wp2_with (first | (go_at_call 19; (first | with_reducible refine use1 (base_c _) ?_ | with_reducible refine use (base_c _) ?_); intro pw) | (go_at_call 10; (first | with_reducible refine use1 (p1.out _) ?_ | with_reducible refine use (p1.out _) ?_); intro pw) | (go_at_call 10; (first | with_reducible refine use1 (p2.out _) ?_ | with_reducible refine use (p2.out _) ?_); intro pw) | (go_at_call 10; (first | with_reducible refine use1 (p0.out _) ?_ | with_reducible refine use (p0.out _) ?_); intro pw) | (go_at_call 14; (first | with_reducible refine use1 (s2.out _) ?_ | with_reducible refine use (s2.out _) ?_); intro pw))
  go_ret
  exact ⟨rfl, (by repeat (first | exact Below.refl _ _ | refine Below.later ?_ _ | refine Below.box ?_ _ | refine Below.drew ?_ | refine Below.put ?_ (by dsimp only; omega) _))⟩
end Go.Proofs.Ytgioplimemjpoaa
