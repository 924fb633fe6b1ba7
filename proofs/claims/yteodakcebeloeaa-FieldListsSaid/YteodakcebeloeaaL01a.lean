/- The examples of layer 1 hold. -/
import Derived.Test.YteodakcebeloeaaRoot
namespace Go.Proofs.Yteodakcebeloeaa
open Go.RowKit

theorem awake01_c (w : World) : Calls Try.prog 12 #[] w (Gives (.bool true) w) := by
  have U17 : U 17 := ⟨by decide, by decide⟩
  have UBig : U 18446744069414584321 := ⟨by decide, by decide⟩
  have a1 : Kept (∀ w, Calls Try.prog 25 #[.agg #[.int .u64 17], .int .i64 4] w (Gives (.tuple #[.int .u64 13, .bool true]) w)) := ⟨fun w => by
    have := root_c 17 4 w (by decide) (by decide); rw [show rootV 17 4 = 13 from by decide +kernel, show rootOk 17 4 = true from by decide +kernel] at this; exact this⟩
  have a2 : Kept (∀ w, Calls Try.prog 15 #[.agg #[.int .u64 17], .int .u64 9, .int .u64 11] w (Gives (.int .u64 3) w)) := ⟨fun w => by
    have := add_c 17 9 11 w ⟨by decide, by decide⟩ ⟨by decide, by decide⟩; rw [show fadd 17 9 11 = 3 from by decide +kernel] at this; exact this⟩
  have a3 : Kept (∀ w, Calls Try.prog 17 #[.agg #[.int .u64 17], .int .u64 3, .int .u64 5] w (Gives (.int .u64 15) w)) := ⟨fun w => by
    have := sub_c 17 3 5 w ⟨by decide, by decide⟩ ⟨by decide, by decide⟩; rw [show fsub 17 3 5 = 15 from by decide +kernel] at this; exact this⟩
  have a4 : Kept (∀ w, Calls Try.prog 21 #[.agg #[.int .u64 17], .int .u64 5, .int .u64 7] w (Gives (.int .u64 1) w)) := ⟨fun w => by
    have := mul_c 17 5 7 w ⟨by decide, by decide⟩ ⟨by decide, by decide⟩; rw [show fmul 17 5 7 = 1 from by decide +kernel] at this; exact this⟩
  have a5 : Kept (∀ w, Calls Try.prog 28 #[.agg #[.int .u64 17], .int .u64 5] w (Gives (.int .u64 7) w)) := ⟨fun w => by
    have := inv_c 17 5 w U17 ⟨by decide, by decide⟩; rw [show finv 17 5 = 7 from by decide +kernel] at this; exact this⟩
  have a6 : Kept (∀ w, Calls Try.prog 21 #[.agg #[.int .u64 17], .int .u64 13, .int .u64 13] w (Gives (.int .u64 16) w)) := ⟨fun w => by
    have := mul_c 17 13 13 w ⟨by decide, by decide⟩ ⟨by decide, by decide⟩; rw [show fmul 17 13 13 = 16 from by decide +kernel] at this; exact this⟩
  have a7 : Kept (∀ w, Calls Try.prog 19 #[.agg #[.int .u64 18446744069414584321], .int .u64 1] w (Gives (.int .u64 18446744069414584320) w)) := ⟨fun w => by
    have := neg_c 18446744069414584321 1 w ⟨by decide, by decide⟩; rw [show fneg 18446744069414584321 1 = 18446744069414584320 from by decide +kernel] at this; exact this⟩
  have a8 : Kept (∀ w, Calls Try.prog 21 #[.agg #[.int .u64 18446744069414584321], .int .u64 4294967296, .int .u64 4294967296] w (Gives (.int .u64 4294967295) w)) := ⟨fun w => by
    have := mul_c 18446744069414584321 4294967296 4294967296 w ⟨by decide, by decide⟩ ⟨by decide, by decide⟩; rw [show fmul 18446744069414584321 4294967296 4294967296 = 4294967295 from by decide +kernel] at this; exact this⟩
  have a9 : Kept (∀ w, Calls Try.prog 23 #[.agg #[.int .u64 18446744069414584321], .int .u64 2, .int .u64 96] w (Gives (.int .u64 18446744069414584320) w)) := ⟨fun w => by
    have := pow_c 18446744069414584321 2 96 w ⟨by decide, by decide⟩ ⟨by decide, by decide⟩; rw [show fpow 18446744069414584321 2 (96 : Int).toNat = 18446744069414584320 from by decide +kernel] at this; exact this⟩
  clear U17 UBig
  go_enter Try.func12, Try.ntmps12
  go_wp2_with (first | (go_at_call 25; (first | with_reducible refine use1 (a1.out _) ?_ | with_reducible refine use (a1.out _) ?_); intro pw) | (go_at_call 15; (first | with_reducible refine use1 (a2.out _) ?_ | with_reducible refine use (a2.out _) ?_); intro pw) | (go_at_call 17; (first | with_reducible refine use1 (a3.out _) ?_ | with_reducible refine use (a3.out _) ?_); intro pw) | (go_at_call 21; (first | with_reducible refine use1 (a4.out _) ?_ | with_reducible refine use (a4.out _) ?_); intro pw) | (go_at_call 28; (first | with_reducible refine use1 (a5.out _) ?_ | with_reducible refine use (a5.out _) ?_); intro pw) | (go_at_call 21; (first | with_reducible refine use1 (a6.out _) ?_ | with_reducible refine use (a6.out _) ?_); intro pw) | (go_at_call 19; (first | with_reducible refine use1 (a7.out _) ?_ | with_reducible refine use (a7.out _) ?_); intro pw) | (go_at_call 21; (first | with_reducible refine use1 (a8.out _) ?_ | with_reducible refine use (a8.out _) ?_); intro pw) | (go_at_call 23; (first | with_reducible refine use1 (a9.out _) ?_ | with_reducible refine use (a9.out _) ?_); intro pw))
  go_ret
  exact ⟨rfl, (by repeat (first | exact Below.refl _ _ | refine Below.later ?_ _ | refine Below.box ?_ _ | refine Below.drew ?_ | refine Below.put ?_ (by dsimp only; omega) _))⟩
end Go.Proofs.Yteodakcebeloeaa
