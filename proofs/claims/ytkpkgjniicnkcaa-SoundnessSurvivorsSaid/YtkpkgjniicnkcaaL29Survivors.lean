/- SoundnessSurvivors: for any int arguments the call returns true: the program's number of sets is the reference's (by Pascal's rows), or both say that it's too great, or the arguments are out of range. No condition. -/
import Derived.Test.YtkpkgjniicnkcaaLaw
import Derived.Test.YtkpkgjniicnkcaaL29a
import Derived.Test.YtkpkgjniicnkcaaPas
namespace Go.Proofs.Ytkpkgjniicnkcaa.soundnessSurvivors
open Go.ChangeShapes Go.WideShapes Go.ChangeAt Go.RowKit Go.Sort

set_option maxHeartbeats 4000000 in
set_option maxRecDepth 100000 in
theorem walk (n : Int) (hn : -9223372036854775808 ≤ n ∧ n ≤ 9223372036854775807) (bad : Int) (hb : -9223372036854775808 ≤ bad ∧ bad ≤ 9223372036854775807) (c : Int) (hc : -9223372036854775808 ≤ c ∧ c ≤ 9223372036854775807) (w : World) :
    Calls Try.prog 4 #[.int .i64 n, .int .i64 bad, .int .i64 c] w (Gives (.bool true) w) := by
  by_cases b1 : n < 0
  · have cs : Kept (∀ w, Calls Try.prog 15 #[.int .i64 n, .int .i64 bad, .int .i64 c] w (Gives (.tuple #[.int .u64 0, .int .i64 1]) w)) := ⟨fun w => by
      have := surv_c n bad c w
      rw [surv_bad (by omega)] at this; exact this⟩
    go_enter Try.func4, Try.ntmps4
    go_wp2_with (first | (go_at_call 12; (first | with_reducible refine use1 (awake29_c _) ?_ | with_reducible refine use (awake29_c _) ?_); intro pw) | (go_at_call 15; (first | with_reducible refine use1 (cs.out _) ?_ | with_reducible refine use (cs.out _) ?_); intro pw))
    go_ret
    exact ⟨rfl, (by repeat (first | exact Below.refl _ _ | refine Below.later ?_ _ | refine Below.box ?_ _ | refine Below.drew ?_ | refine Below.put ?_ (by dsimp only; omega) _))⟩
  by_cases b2 : n > 1024
  · have cs : Kept (∀ w, Calls Try.prog 15 #[.int .i64 n, .int .i64 bad, .int .i64 c] w (Gives (.tuple #[.int .u64 0, .int .i64 1]) w)) := ⟨fun w => by
      have := surv_c n bad c w
      rw [surv_bad (by omega)] at this; exact this⟩
    go_enter Try.func4, Try.ntmps4
    go_wp2_with (first | (go_at_call 12; (first | with_reducible refine use1 (awake29_c _) ?_ | with_reducible refine use (awake29_c _) ?_); intro pw) | (go_at_call 15; (first | with_reducible refine use1 (cs.out _) ?_ | with_reducible refine use (cs.out _) ?_); intro pw))
    go_ret
    exact ⟨rfl, (by repeat (first | exact Below.refl _ _ | refine Below.later ?_ _ | refine Below.box ?_ _ | refine Below.drew ?_ | refine Below.put ?_ (by dsimp only; omega) _))⟩
  by_cases b3 : c < 0
  · have cs : Kept (∀ w, Calls Try.prog 15 #[.int .i64 n, .int .i64 bad, .int .i64 c] w (Gives (.tuple #[.int .u64 0, .int .i64 1]) w)) := ⟨fun w => by
      have := surv_c n bad c w
      rw [surv_bad (by omega)] at this; exact this⟩
    go_enter Try.func4, Try.ntmps4
    go_wp2_with (first | (go_at_call 12; (first | with_reducible refine use1 (awake29_c _) ?_ | with_reducible refine use (awake29_c _) ?_); intro pw) | (go_at_call 15; (first | with_reducible refine use1 (cs.out _) ?_ | with_reducible refine use (cs.out _) ?_); intro pw))
    go_ret
    exact ⟨rfl, (by repeat (first | exact Below.refl _ _ | refine Below.later ?_ _ | refine Below.box ?_ _ | refine Below.drew ?_ | refine Below.put ?_ (by dsimp only; omega) _))⟩
  by_cases b4 : c > 1024
  · have cs : Kept (∀ w, Calls Try.prog 15 #[.int .i64 n, .int .i64 bad, .int .i64 c] w (Gives (.tuple #[.int .u64 0, .int .i64 1]) w)) := ⟨fun w => by
      have := surv_c n bad c w
      rw [surv_bad (by omega)] at this; exact this⟩
    go_enter Try.func4, Try.ntmps4
    go_wp2_with (first | (go_at_call 12; (first | with_reducible refine use1 (awake29_c _) ?_ | with_reducible refine use (awake29_c _) ?_); intro pw) | (go_at_call 15; (first | with_reducible refine use1 (cs.out _) ?_ | with_reducible refine use (cs.out _) ?_); intro pw))
    go_ret
    exact ⟨rfl, (by repeat (first | exact Below.refl _ _ | refine Below.later ?_ _ | refine Below.box ?_ _ | refine Below.drew ?_ | refine Below.put ?_ (by dsimp only; omega) _))⟩
  by_cases b5 : bad < 0
  · have cs : Kept (∀ w, Calls Try.prog 15 #[.int .i64 n, .int .i64 bad, .int .i64 c] w (Gives (.tuple #[.int .u64 0, .int .i64 1]) w)) := ⟨fun w => by
      have := surv_c n bad c w
      rw [surv_bad (by omega)] at this; exact this⟩
    go_enter Try.func4, Try.ntmps4
    go_wp2_with (first | (go_at_call 12; (first | with_reducible refine use1 (awake29_c _) ?_ | with_reducible refine use (awake29_c _) ?_); intro pw) | (go_at_call 15; (first | with_reducible refine use1 (cs.out _) ?_ | with_reducible refine use (cs.out _) ?_); intro pw))
    go_ret
    exact ⟨rfl, (by repeat (first | exact Below.refl _ _ | refine Below.later ?_ _ | refine Below.box ?_ _ | refine Below.drew ?_ | refine Below.put ?_ (by dsimp only; omega) _))⟩
  by_cases b6 : bad > n
  · have cs : Kept (∀ w, Calls Try.prog 15 #[.int .i64 n, .int .i64 bad, .int .i64 c] w (Gives (.tuple #[.int .u64 0, .int .i64 1]) w)) := ⟨fun w => by
      have := surv_c n bad c w
      rw [surv_bad (by omega)] at this; exact this⟩
    go_enter Try.func4, Try.ntmps4
    go_wp2_with (first | (go_at_call 12; (first | with_reducible refine use1 (awake29_c _) ?_ | with_reducible refine use (awake29_c _) ?_); intro pw) | (go_at_call 15; (first | with_reducible refine use1 (cs.out _) ?_ | with_reducible refine use (cs.out _) ?_); intro pw))
    go_ret
    exact ⟨rfl, (by repeat (first | exact Below.refl _ _ | refine Below.later ?_ _ | refine Below.box ?_ _ | refine Below.drew ?_ | refine Below.put ?_ (by dsimp only; omega) _))⟩
  obtain ⟨N, hN⟩ : ∃ N : Nat, n - bad = N := ⟨(n - bad).toNat, by omega⟩
  obtain ⟨C, hC⟩ : ∃ C : Nat, c = C := ⟨c.toNat, by omega⟩
  subst hC
  have cr : Kept (∀ w, Calls Try.prog 14 #[.int .i64 (N : Int), .int .i64 (C : Int)] w (Gives (.int .u64 (sat (ch N C))) w)) := ⟨fun w => pas_c N C w (by omega) (by omega)⟩
  by_cases big : 9223372036854775808 ≤ ch N C
  · have cs : Kept (∀ w, Calls Try.prog 15 #[.int .i64 n, .int .i64 bad, .int .i64 (C : Int)] w (Gives (.tuple #[.int .u64 0, .int .i64 3]) w)) := ⟨fun w => by
      have := surv_c n bad C w
      rw [surv_big (N := N) (C := C) (by omega) (by omega) rfl big] at this; exact this⟩
    rw [sat_big big] at cr
    clear big
    skip
    go_enter Try.func4, Try.ntmps4
    go_wp2_with (first | (go_at_call 12; (first | with_reducible refine use1 (awake29_c _) ?_ | with_reducible refine use (awake29_c _) ?_); intro pw) | (go_at_call 15; (first | with_reducible refine use1 (cs.out _) ?_ | with_reducible refine use (cs.out _) ?_); intro pw) | (go_at_call 14; (first | with_reducible refine use1 (cr.out _) ?_ | with_reducible refine use (cr.out _) ?_); intro pw))
    go_ret
    exact ⟨rfl, (by repeat (first | exact Below.refl _ _ | refine Below.later ?_ _ | refine Below.box ?_ _ | refine Below.drew ?_ | refine Below.put ?_ (by dsimp only; omega) _))⟩
  · obtain ⟨z, hz⟩ : ∃ z : Int, (ch N C : Int) = z := ⟨_, rfl⟩
    have cs : Kept (∀ w, Calls Try.prog 15 #[.int .i64 n, .int .i64 bad, .int .i64 (C : Int)] w (Gives (.tuple #[.int .u64 z, .int .i64 0]) w)) := ⟨fun w => by
      have := surv_c n bad C w
      rw [surv_ok (N := N) (C := C) (by omega) (by omega) rfl big, hz] at this; exact this⟩
    rw [sat_small big, hz] at cr
    have big0 : 0 ≤ z := by omega
    have big3 : z < 9223372036854775808 := by omega
    have big2 : decide (z ≥ 9223372036854775808) = false := by simp; omega
    clear big hz
    skip
    go_enter Try.func4, Try.ntmps4
    go_wp2_with (first | (go_at_call 12; (first | with_reducible refine use1 (awake29_c _) ?_ | with_reducible refine use (awake29_c _) ?_); intro pw) | (go_at_call 15; (first | with_reducible refine use1 (cs.out _) ?_ | with_reducible refine use (cs.out _) ?_); intro pw) | (go_at_call 14; (first | with_reducible refine use1 (cr.out _) ?_ | with_reducible refine use (cr.out _) ?_); intro pw))
    go_ret
    exact ⟨rfl, (by repeat (first | exact Below.refl _ _ | refine Below.later ?_ _ | refine Below.box ?_ _ | refine Below.drew ?_ | refine Below.put ?_ (by dsimp only; omega) _))⟩

set_option maxRecDepth 100000 in
theorem lifted (os : Os) (started : os.Started) (H : Type) (enc : TypeId × Value → H) :
    ReturnsInHanded {} Try.checked os 4 .any (Rows.soundnessSurvivorsSpec.pre6 enc Try.prog Try.f4 Rows.soundnessSurvivorsRow.domain false) (Rows.soundnessSurvivorsSpec.post enc Try.prog Try.f4 false true false false) := by
  refine returnsInHanded_of_change (C := Try.checked) own started (by kernel_rfl) Try.func4
    (ChangeSpec.witness6 (enc := enc) (C := Try.checked) false ⟨#[], #[.int .i64 0, .int .i64 0, .int .i64 0], []⟩ 8 (by kernel_rfl) (by kernel_rfl) (by kernel_rfl) (by kernel_rfl)) ?_
  intro W base args ds gs before hval0 hW hcnd _
  have hval : ∀ (j : Nat) t v, Try.f4.params[j]? = some t → args[j]? = some v → Value.okWide Try.prog W .any base t v := hval0
  have hW0 : DataW.Whole enc Try.prog Try.f4.params.toList Rows.soundnessSurvivorsSpec.vars false W args.toList ds gs before := hW
  obtain ⟨p, q, hA0, hV, rfl, _, _⟩ := hW
  have hA : DataW.TrodAll enc Try.prog W 0 (fun _ => true) true Try.f4.params.toList args.toList ds p := hA0
  rw [Try.params4] at hA hval
  obtain ⟨v0, vs0, d0, ds0, p0, q0, hargs, rfl, rfl, h0, r0⟩ := trodAll_cons hA
  obtain ⟨v1, vs1, d1, ds1, p1, q1, rfl, rfl, rfl, h1, r1⟩ := trodAll_cons r0
  obtain ⟨v2, vs2, d2, ds2, p2, q2, rfl, rfl, rfl, h2, r2⟩ := trodAll_cons r1
  obtain ⟨rfl, rfl, rfl⟩ := trodAll_nil r2
  obtain rfl : args = #[v0, v1, v2] := by cases args; simp_all
  obtain ⟨rfl, rfl⟩ := trodVars_none hV
  obtain ⟨a0, rfl, u0⟩ := open_int64 (hval 0 3 v0 rfl rfl)
  obtain ⟨a1, rfl, u1⟩ := open_int64 (hval 1 3 v1 rfl rfl)
  obtain ⟨a2, rfl, u2⟩ := open_int64 (hval 2 3 v2 rfl rfl)
  clear hA0 hval0
  refine (walk a0 u0 a1 u1 a2 u2 W).mono fun e W' ⟨he, hb⟩ => ⟨.bool true, he, ?_⟩
  exact law_post (fun t ht => by have ht' : t ∈ [3, 3, 3] := ht; simp only [List.mem_cons, List.not_mem_nil, or_false] at ht'; rcases ht' with rfl | rfl | rfl <;> exact ⟨by kernel_rfl, of_decide_eq_true (by kernel_rfl)⟩) rfl rfl hW0 rfl hb

theorem over : Rows.soundnessSurvivorsRow.holds Try.pinned (OpenSpec.ofChange Rows.soundnessSurvivorsSpec) :=
  OpenClaim.holds_of_wide 4 Try.f4 rfl rfl rfl rfl rfl rfl rfl ⟨rfl, rfl, rfl, rfl, rfl⟩ rfl rfl rfl rfl rfl (by kernel_rfl) Try.func4 (by kernel_rfl)
    (of_decide_eq_true (by kernel_rfl)) (by unfold Func.isWrapper; first | (rw [if_pos (by decide +kernel)]; kernel_rfl) | (rw [if_neg (by decide +kernel)]; exact ⟨rfl, rfl⟩))
    (fun os started H enc _ => lifted os started H enc)

/-- The statement. -/
theorem proved : Rows.SoundnessSurvivorsSaid := over
#print axioms proved
end Go.Proofs.Ytkpkgjniicnkcaa.soundnessSurvivors
