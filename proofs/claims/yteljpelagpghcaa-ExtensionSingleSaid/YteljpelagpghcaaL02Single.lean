/- ExtensionSingle: for any field, any pair and any number the call returns true: both implementations give the same conjugate, norm, inverse and multiple. No condition. -/
import Derived.Test.YteljpelagpghcaaLaw
import Derived.Test.YteljpelagpghcaaBig
import Derived.Test.YteljpelagpghcaaL02a
import Derived.Test.YteljpelagpghcaaExtl
namespace Go.Proofs.Yteljpelagpghcaa.extensionSingle
open Go.ChangeShapes Go.WideShapes Go.ChangeAt Go.RowKit

theorem walk (p k a0 a1 b0 b1 : Int) (h : (U p ∧ 0 ≤ k ∧ k ≤ 255) ∧ (U a0 ∧ U a1) ∧ (U b0 ∧ U b1)) (n : Int) (hn : U n) (w : World) : Calls Try.prog 3 #[.agg #[.int .u64 p, .int .u8 k, .int .u64 a0, .int .u64 a1, .int .u64 b0, .int .u64 b1], .int .u64 n] w (Gives (.bool true) w) := by
  obtain ⟨⟨hp, hk0, hk1⟩, ha, hb⟩ := h
  have hA : U2 (a0, a1) := ha
  have hB : U2 (b0, b1) := hb
  have c0 : Kept (∀ w, Calls Try.prog 12 #[.agg #[.int .u64 p, .int .u8 k, .int .u64 a0, .int .u64 a1, .int .u64 b0, .int .u64 b1]] w (Gives (.int .u64 (twoP p k)) w)) := ⟨fun w => two_c p k a0 a1 b0 b1 w hk0 hk1⟩
  have hr := twoP_U (k := k) hp
  generalize twoP p k = r at *
  have c1 : Kept (∀ w, Calls Try.prog 13 #[fv r, pv (a0, a1)] w (Gives (pv (xconj r (a0, a1))) w)) := ⟨fun w => xconj_c r _ w hA⟩
  have d1 : Kept (∀ w, Calls Try.prog 14 #[.int .u64 r, pv (a0, a1)] w (Gives (pv (xconj r (a0, a1))) w)) := ⟨fun w => rxconj_c r _ w hA⟩
  have c2 : Kept (∀ w, Calls Try.prog 15 #[fv r, pv (a0, a1)] w (Gives (.int .u64 (xnorm r (a0, a1))) w)) := ⟨fun w => xnorm_c r _ w hA⟩
  have d2 : Kept (∀ w, Calls Try.prog 16 #[.int .u64 r, pv (a0, a1)] w (Gives (.int .u64 (xnorm r (a0, a1))) w)) := ⟨fun w => rxnorm_c r _ w hA⟩
  have c3 : Kept (∀ w, Calls Try.prog 17 #[fv r, pv (a0, a1)] w (Gives (pv (xinv r (a0, a1))) w)) := ⟨fun w => xinv_c r _ w hr hA⟩
  have d3 : Kept (∀ w, Calls Try.prog 18 #[.int .u64 r, pv (a0, a1)] w (Gives (pv (xinv r (a0, a1))) w)) := ⟨fun w => rxinv_c r _ w hr hA⟩
  have c4 : Kept (∀ w, Calls Try.prog 19 #[fv r, pv (a0, a1), .int .u64 n] w (Gives (pv (xscale r (a0, a1) n)) w)) := ⟨fun w => xscale_c r _ n w hA hn⟩
  have d4 : Kept (∀ w, Calls Try.prog 20 #[.int .u64 r, pv (a0, a1), .int .u64 n] w (Gives (pv (xscale r (a0, a1) n)) w)) := ⟨fun w => rxscale_c r _ n w hA hn⟩
  generalize xconj r (a0, a1) = y1 at *
  generalize xnorm r (a0, a1) = z2 at *
  generalize xinv r (a0, a1) = y3 at *
  generalize xscale r (a0, a1) n = y4 at *
  obtain ⟨y10, y11⟩ := y1
  obtain ⟨y30, y31⟩ := y3
  obtain ⟨y40, y41⟩ := y4
  dsimp only [pv, fv] at *
  clear hA hB ha hb hp hr hn
  go_enter Try.func3, Try.ntmps3
  go_wp2_with (first | (go_at_call 11; (first | with_reducible refine use1 (awake02_c _) ?_ | with_reducible refine use (awake02_c _) ?_); intro pw) | (go_at_call 12; (first | with_reducible refine use1 (c0.out _) ?_ | with_reducible refine use (c0.out _) ?_); intro pw) | (go_at_call 13; (first | with_reducible refine use1 (c1.out _) ?_ | with_reducible refine use (c1.out _) ?_); intro pw) | (go_at_call 14; (first | with_reducible refine use1 (d1.out _) ?_ | with_reducible refine use (d1.out _) ?_); intro pw) | (go_at_call 15; (first | with_reducible refine use1 (c2.out _) ?_ | with_reducible refine use (c2.out _) ?_); intro pw) | (go_at_call 16; (first | with_reducible refine use1 (d2.out _) ?_ | with_reducible refine use (d2.out _) ?_); intro pw) | (go_at_call 17; (first | with_reducible refine use1 (c3.out _) ?_ | with_reducible refine use (c3.out _) ?_); intro pw) | (go_at_call 18; (first | with_reducible refine use1 (d3.out _) ?_ | with_reducible refine use (d3.out _) ?_); intro pw) | (go_at_call 19; (first | with_reducible refine use1 (c4.out _) ?_ | with_reducible refine use (c4.out _) ?_); intro pw) | (go_at_call 20; (first | with_reducible refine use1 (d4.out _) ?_ | with_reducible refine use (d4.out _) ?_); intro pw))
  repeat (
    (try dsimp only [List.append])
    (first | refine region_big1 (by kernel_rfl) ?_ | refine region_big (by kernel_rfl) ?_)
    repeat (go_big_quiet_step (first | (go_at_call 11; with_reducible exact quiet (awake02_c _)) | (go_at_call 12; with_reducible exact quiet (c0.out _)) | (go_at_call 13; with_reducible exact quiet (c1.out _)) | (go_at_call 14; with_reducible exact quiet (d1.out _)) | (go_at_call 15; with_reducible exact quiet (c2.out _)) | (go_at_call 16; with_reducible exact quiet (d2.out _)) | (go_at_call 17; with_reducible exact quiet (c3.out _)) | (go_at_call 18; with_reducible exact quiet (d3.out _)) | (go_at_call 19; with_reducible exact quiet (c4.out _)) | (go_at_call 20; with_reducible exact quiet (d4.out _))))
    refine wpQuiet_nil ?_
    intro _
    go_wp2_with (first | (go_at_call 11; (first | with_reducible refine use1 (awake02_c _) ?_ | with_reducible refine use (awake02_c _) ?_); intro pw) | (go_at_call 12; (first | with_reducible refine use1 (c0.out _) ?_ | with_reducible refine use (c0.out _) ?_); intro pw) | (go_at_call 13; (first | with_reducible refine use1 (c1.out _) ?_ | with_reducible refine use (c1.out _) ?_); intro pw) | (go_at_call 14; (first | with_reducible refine use1 (d1.out _) ?_ | with_reducible refine use (d1.out _) ?_); intro pw) | (go_at_call 15; (first | with_reducible refine use1 (c2.out _) ?_ | with_reducible refine use (c2.out _) ?_); intro pw) | (go_at_call 16; (first | with_reducible refine use1 (d2.out _) ?_ | with_reducible refine use (d2.out _) ?_); intro pw) | (go_at_call 17; (first | with_reducible refine use1 (c3.out _) ?_ | with_reducible refine use (c3.out _) ?_); intro pw) | (go_at_call 18; (first | with_reducible refine use1 (d3.out _) ?_ | with_reducible refine use (d3.out _) ?_); intro pw) | (go_at_call 19; (first | with_reducible refine use1 (c4.out _) ?_ | with_reducible refine use (c4.out _) ?_); intro pw) | (go_at_call 20; (first | with_reducible refine use1 (d4.out _) ?_ | with_reducible refine use (d4.out _) ?_); intro pw)))
  go_ret
  exact ⟨rfl, (by repeat (first | exact Below.refl _ _ | refine Below.later ?_ _ | refine Below.box ?_ _ | refine Below.drew ?_ | refine Below.put ?_ (by dsimp only; omega) _))⟩

set_option maxRecDepth 100000 in
theorem lifted (os : Os) (started : os.Started) (H : Type) (enc : TypeId × Value → H) :
    ReturnsInHanded {} Try.checked os 3 .any (Rows.extensionSingleSpec.pre6 enc Try.prog Try.f3 Rows.extensionSingleRow.domain false) (Rows.extensionSingleSpec.post enc Try.prog Try.f3 false true false false) := by
  refine returnsInHanded_of_change (C := Try.checked) own started (by kernel_rfl) Try.func3
    (ChangeSpec.witness6 (enc := enc) (C := Try.checked) false ⟨#[], #[.agg #[.int .u64 0, .int .u8 0, .int .u64 0, .int .u64 0, .int .u64 0, .int .u64 0], .int .u64 0], []⟩ 8 (by kernel_rfl) (by kernel_rfl) (by kernel_rfl) (by kernel_rfl)) ?_
  intro W base args ds gs before hval0 hW hcnd _
  have hval : ∀ (j : Nat) t v, Try.f3.params[j]? = some t → args[j]? = some v → Value.okWide Try.prog W .any base t v := hval0
  have hW0 : DataW.Whole enc Try.prog Try.f3.params.toList Rows.extensionSingleSpec.vars false W args.toList ds gs before := hW
  obtain ⟨p, q, hA0, hV, rfl, _, _⟩ := hW
  have hA : DataW.TrodAll enc Try.prog W 0 (fun _ => true) true Try.f3.params.toList args.toList ds p := hA0
  rw [Try.params3] at hA hval
  obtain ⟨v0, vs0, d0, ds0, p0, q0, hargs, rfl, rfl, h0, r0⟩ := trodAll_cons hA
  obtain ⟨v1, vs1, d1, ds1, p1, q1, rfl, rfl, rfl, h1, r1⟩ := trodAll_cons r0
  obtain ⟨rfl, rfl, rfl⟩ := trodAll_nil r1
  obtain rfl : args = #[v0, v1] := by cases args; simp_all
  obtain ⟨rfl, rfl⟩ := trodVars_none hV
  obtain ⟨a0x, a0y, a0z, a0u, a0v, a0t, rfl, u0⟩ := open_two (hval 0 25 v0 rfl rfl)
  obtain ⟨a1, rfl, u1⟩ := open_u64 (hval 1 22 v1 rfl rfl)
  clear hA0 hval0
  refine (walk a0x a0y a0z a0u a0v a0t u0 a1 u1 W).mono fun e W' ⟨he, hb⟩ => ⟨.bool true, he, ?_⟩
  exact law_post (fun t ht => by have ht' : t ∈ [25, 22] := ht; simp only [List.mem_cons, List.not_mem_nil, or_false] at ht'; rcases ht' with rfl | rfl <;> exact ⟨by kernel_rfl, of_decide_eq_true (by kernel_rfl)⟩) rfl rfl hW0 rfl hb

theorem over : Rows.extensionSingleRow.holds Try.pinned (OpenSpec.ofChange Rows.extensionSingleSpec) :=
  OpenClaim.holds_of_wide 3 Try.f3 rfl rfl rfl rfl rfl rfl rfl ⟨rfl, rfl, rfl, rfl, rfl⟩ rfl rfl rfl rfl rfl (by kernel_rfl) Try.func3 (by kernel_rfl)
    (of_decide_eq_true (by kernel_rfl)) (by unfold Func.isWrapper; first | (rw [if_pos (by decide +kernel)]; kernel_rfl) | (rw [if_neg (by decide +kernel)]; exact ⟨rfl, rfl⟩))
    (fun os started H enc _ => lifted os started H enc)

/-- The statement. -/
theorem proved : Rows.ExtensionSingleSaid := over
#print axioms proved
end Go.Proofs.Yteljpelagpghcaa.extensionSingle
