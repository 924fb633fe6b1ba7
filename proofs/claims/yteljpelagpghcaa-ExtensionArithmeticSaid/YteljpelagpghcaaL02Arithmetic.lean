/- ExtensionArithmetic: for any field and any two pairs the call returns true: both implementations give the same sum, difference and product. No condition. -/
import Derived.Test.YteljpelagpghcaaLaw
import Derived.Test.YteljpelagpghcaaBig
import Derived.Test.YteljpelagpghcaaL02a
import Derived.Test.YteljpelagpghcaaExtl
namespace Go.Proofs.Yteljpelagpghcaa.extensionArithmetic
open Go.ChangeShapes Go.WideShapes Go.ChangeAt Go.RowKit

theorem walk (p k a0 a1 b0 b1 : Int) (h : (U p ∧ 0 ≤ k ∧ k ≤ 255) ∧ (U a0 ∧ U a1) ∧ (U b0 ∧ U b1)) (w : World) : Calls Try.prog 6 #[.agg #[.int .u64 p, .int .u8 k, .int .u64 a0, .int .u64 a1, .int .u64 b0, .int .u64 b1]] w (Gives (.bool true) w) := by
  obtain ⟨⟨hp, hk0, hk1⟩, ha, hb⟩ := h
  have hA : U2 (a0, a1) := ha
  have hB : U2 (b0, b1) := hb
  have c0 : Kept (∀ w, Calls Try.prog 12 #[.agg #[.int .u64 p, .int .u8 k, .int .u64 a0, .int .u64 a1, .int .u64 b0, .int .u64 b1]] w (Gives (.int .u64 (twoP p k)) w)) := ⟨fun w => two_c p k a0 a1 b0 b1 w hk0 hk1⟩
  generalize twoP p k = r at *
  have c1 : Kept (∀ w, Calls Try.prog 24 #[fv r, pv (a0, a1), pv (b0, b1)] w (Gives (pv (xadd r (a0, a1) (b0, b1))) w)) := ⟨fun w => xadd_c r _ _ w hA hB⟩
  have d1 : Kept (∀ w, Calls Try.prog 25 #[.int .u64 r, pv (a0, a1), pv (b0, b1)] w (Gives (pv (xadd r (a0, a1) (b0, b1))) w)) := ⟨fun w => rxadd_c r _ _ w hA hB⟩
  have c2 : Kept (∀ w, Calls Try.prog 26 #[fv r, pv (a0, a1), pv (b0, b1)] w (Gives (pv (xsub r (a0, a1) (b0, b1))) w)) := ⟨fun w => xsub_c r _ _ w hA hB⟩
  have d2 : Kept (∀ w, Calls Try.prog 27 #[.int .u64 r, pv (a0, a1), pv (b0, b1)] w (Gives (pv (xsub r (a0, a1) (b0, b1))) w)) := ⟨fun w => rxsub_c r _ _ w hA hB⟩
  have c3 : Kept (∀ w, Calls Try.prog 22 #[fv r, pv (a0, a1), pv (b0, b1)] w (Gives (pv (xmul r (a0, a1) (b0, b1))) w)) := ⟨fun w => xmul_c r _ _ w hA hB⟩
  have d3 : Kept (∀ w, Calls Try.prog 28 #[.int .u64 r, pv (a0, a1), pv (b0, b1)] w (Gives (pv (xmul r (a0, a1) (b0, b1))) w)) := ⟨fun w => rxmul_c r _ _ w hA hB⟩
  generalize xadd r (a0, a1) (b0, b1) = y1 at *
  generalize xsub r (a0, a1) (b0, b1) = y2 at *
  generalize xmul r (a0, a1) (b0, b1) = y3 at *
  obtain ⟨y10, y11⟩ := y1
  obtain ⟨y20, y21⟩ := y2
  obtain ⟨y30, y31⟩ := y3
  dsimp only [pv, fv] at *
  clear hA hB ha hb hp
  go_enter Try.func6, Try.ntmps6
  go_wp2_with (first | (go_at_call 11; (first | with_reducible refine use1 (awake02_c _) ?_ | with_reducible refine use (awake02_c _) ?_); intro pw) | (go_at_call 12; (first | with_reducible refine use1 (c0.out _) ?_ | with_reducible refine use (c0.out _) ?_); intro pw) | (go_at_call 24; (first | with_reducible refine use1 (c1.out _) ?_ | with_reducible refine use (c1.out _) ?_); intro pw) | (go_at_call 25; (first | with_reducible refine use1 (d1.out _) ?_ | with_reducible refine use (d1.out _) ?_); intro pw) | (go_at_call 26; (first | with_reducible refine use1 (c2.out _) ?_ | with_reducible refine use (c2.out _) ?_); intro pw) | (go_at_call 27; (first | with_reducible refine use1 (d2.out _) ?_ | with_reducible refine use (d2.out _) ?_); intro pw) | (go_at_call 22; (first | with_reducible refine use1 (c3.out _) ?_ | with_reducible refine use (c3.out _) ?_); intro pw) | (go_at_call 28; (first | with_reducible refine use1 (d3.out _) ?_ | with_reducible refine use (d3.out _) ?_); intro pw))
  repeat (
    (try dsimp only [List.append])
    (first | refine region_big1 (by kernel_rfl) ?_ | refine region_big (by kernel_rfl) ?_)
    repeat (go_big_quiet_step (first | (go_at_call 11; with_reducible exact quiet (awake02_c _)) | (go_at_call 12; with_reducible exact quiet (c0.out _)) | (go_at_call 24; with_reducible exact quiet (c1.out _)) | (go_at_call 25; with_reducible exact quiet (d1.out _)) | (go_at_call 26; with_reducible exact quiet (c2.out _)) | (go_at_call 27; with_reducible exact quiet (d2.out _)) | (go_at_call 22; with_reducible exact quiet (c3.out _)) | (go_at_call 28; with_reducible exact quiet (d3.out _))))
    refine wpQuiet_nil ?_
    intro _
    go_wp2_with (first | (go_at_call 11; (first | with_reducible refine use1 (awake02_c _) ?_ | with_reducible refine use (awake02_c _) ?_); intro pw) | (go_at_call 12; (first | with_reducible refine use1 (c0.out _) ?_ | with_reducible refine use (c0.out _) ?_); intro pw) | (go_at_call 24; (first | with_reducible refine use1 (c1.out _) ?_ | with_reducible refine use (c1.out _) ?_); intro pw) | (go_at_call 25; (first | with_reducible refine use1 (d1.out _) ?_ | with_reducible refine use (d1.out _) ?_); intro pw) | (go_at_call 26; (first | with_reducible refine use1 (c2.out _) ?_ | with_reducible refine use (c2.out _) ?_); intro pw) | (go_at_call 27; (first | with_reducible refine use1 (d2.out _) ?_ | with_reducible refine use (d2.out _) ?_); intro pw) | (go_at_call 22; (first | with_reducible refine use1 (c3.out _) ?_ | with_reducible refine use (c3.out _) ?_); intro pw) | (go_at_call 28; (first | with_reducible refine use1 (d3.out _) ?_ | with_reducible refine use (d3.out _) ?_); intro pw)))
  go_ret
  exact ⟨rfl, (by repeat (first | exact Below.refl _ _ | refine Below.later ?_ _ | refine Below.box ?_ _ | refine Below.drew ?_ | refine Below.put ?_ (by dsimp only; omega) _))⟩

set_option maxRecDepth 100000 in
theorem lifted (os : Os) (started : os.Started) (H : Type) (enc : TypeId × Value → H) :
    ReturnsInHanded {} Try.checked os 6 .any (Rows.extensionArithmeticSpec.pre6 enc Try.prog Try.f6 Rows.extensionArithmeticRow.domain false) (Rows.extensionArithmeticSpec.post enc Try.prog Try.f6 false true false false) := by
  refine returnsInHanded_of_change (C := Try.checked) own started (by kernel_rfl) Try.func6
    (ChangeSpec.witness6 (enc := enc) (C := Try.checked) false ⟨#[], #[.agg #[.int .u64 0, .int .u8 0, .int .u64 0, .int .u64 0, .int .u64 0, .int .u64 0]], []⟩ 8 (by kernel_rfl) (by kernel_rfl) (by kernel_rfl) (by kernel_rfl)) ?_
  intro W base args ds gs before hval0 hW hcnd _
  have hval : ∀ (j : Nat) t v, Try.f6.params[j]? = some t → args[j]? = some v → Value.okWide Try.prog W .any base t v := hval0
  have hW0 : DataW.Whole enc Try.prog Try.f6.params.toList Rows.extensionArithmeticSpec.vars false W args.toList ds gs before := hW
  obtain ⟨p, q, hA0, hV, rfl, _, _⟩ := hW
  have hA : DataW.TrodAll enc Try.prog W 0 (fun _ => true) true Try.f6.params.toList args.toList ds p := hA0
  rw [Try.params6] at hA hval
  obtain ⟨v0, vs0, d0, ds0, p0, q0, hargs, rfl, rfl, h0, r0⟩ := trodAll_cons hA
  obtain ⟨rfl, rfl, rfl⟩ := trodAll_nil r0
  obtain rfl : args = #[v0] := by cases args; simp_all
  obtain ⟨rfl, rfl⟩ := trodVars_none hV
  obtain ⟨a0x, a0y, a0z, a0u, a0v, a0t, rfl, u0⟩ := open_two (hval 0 25 v0 rfl rfl)
  clear hA0 hval0
  refine (walk a0x a0y a0z a0u a0v a0t u0 W).mono fun e W' ⟨he, hb⟩ => ⟨.bool true, he, ?_⟩
  exact law_post (fun t ht => by have ht' : t ∈ [25] := ht; simp only [List.mem_cons, List.not_mem_nil, or_false] at ht'; rcases ht' with rfl <;> exact ⟨by kernel_rfl, of_decide_eq_true (by kernel_rfl)⟩) rfl rfl hW0 rfl hb

theorem over : Rows.extensionArithmeticRow.holds Try.pinned (OpenSpec.ofChange Rows.extensionArithmeticSpec) :=
  OpenClaim.holds_of_wide 6 Try.f6 rfl rfl rfl rfl rfl rfl rfl ⟨rfl, rfl, rfl, rfl, rfl⟩ rfl rfl rfl rfl rfl (by kernel_rfl) Try.func6 (by kernel_rfl)
    (of_decide_eq_true (by kernel_rfl)) (by unfold Func.isWrapper; first | (rw [if_pos (by decide +kernel)]; kernel_rfl) | (rw [if_neg (by decide +kernel)]; exact ⟨rfl, rfl⟩))
    (fun os started H enc _ => lifted os started H enc)

/-- The statement. -/
theorem proved : Rows.ExtensionArithmeticSaid := over
#print axioms proved
end Go.Proofs.Yteljpelagpghcaa.extensionArithmetic
