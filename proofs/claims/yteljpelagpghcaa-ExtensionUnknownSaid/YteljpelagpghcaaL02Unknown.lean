/- ExtensionUnknown: for a prime that is not known all results are zero, for any pairs and any number. No condition. -/
import Derived.Test.YteljpelagpghcaaLaw
import Derived.Test.YteljpelagpghcaaBig
import Derived.Test.YteljpelagpghcaaL02a
import Derived.Test.YteljpelagpghcaaExtl
namespace Go.Proofs.Yteljpelagpghcaa.extensionUnknown
open Go.ChangeShapes Go.WideShapes Go.ChangeAt Go.RowKit

theorem walk (p k a0 a1 b0 b1 : Int) (h : (U p ∧ 0 ≤ k ∧ k ≤ 255) ∧ (U a0 ∧ U a1) ∧ (U b0 ∧ U b1)) (n : Int) (hn : U n) (w : World) : Calls Try.prog 10 #[.agg #[.int .u64 p, .int .u8 k, .int .u64 a0, .int .u64 a1, .int .u64 b0, .int .u64 b1], .int .u64 n] w (Gives (.bool true) w) := by
  obtain ⟨⟨hp, hk0, hk1⟩, ha, hb⟩ := h
  have hA : U2 (a0, a1) := ha
  have hB : U2 (b0, b1) := hb
  cases hv : vld p
  · have cv : Kept (∀ w, Calls Try.prog 31 #[.int .u64 p] w (Gives (.bool false) w)) := ⟨fun w => by have := rvalid_c p w; rw [hv] at this; exact this⟩
    have c1 : Kept (∀ w, Calls Try.prog 24 #[fv p, pv (a0, a1), pv (b0, b1)] w (Gives (.agg #[.int .u64 0, .int .u64 0]) w)) := ⟨fun w => by have := xadd_c p _ _ w hA hB; rw [xadd_not hv] at this; exact this⟩
    have c2 : Kept (∀ w, Calls Try.prog 26 #[fv p, pv (a0, a1), pv (b0, b1)] w (Gives (.agg #[.int .u64 0, .int .u64 0]) w)) := ⟨fun w => by have := xsub_c p _ _ w hA hB; rw [xsub_not hv] at this; exact this⟩
    have c3 : Kept (∀ w, Calls Try.prog 22 #[fv p, pv (a0, a1), pv (b0, b1)] w (Gives (.agg #[.int .u64 0, .int .u64 0]) w)) := ⟨fun w => by have := xmul_c p _ _ w hA hB; rw [xmul_not hv] at this; exact this⟩
    have c4 : Kept (∀ w, Calls Try.prog 17 #[fv p, pv (a0, a1)] w (Gives (.agg #[.int .u64 0, .int .u64 0]) w)) := ⟨fun w => by have := xinv_c p _ w hp hA; rw [xinv_not hv] at this; exact this⟩
    have c5 : Kept (∀ w, Calls Try.prog 13 #[fv p, pv (a0, a1)] w (Gives (.agg #[.int .u64 0, .int .u64 0]) w)) := ⟨fun w => by have := xconj_c p _ w hA; rw [xconj_not hv] at this; exact this⟩
    have c6 : Kept (∀ w, Calls Try.prog 15 #[fv p, pv (a0, a1)] w (Gives (.int .u64 0) w)) := ⟨fun w => by have := xnorm_c p _ w hA; rw [xnorm_not hv] at this; exact this⟩
    have c7 : Kept (∀ w, Calls Try.prog 29 #[fv p, pv (a0, a1), .int .u64 n] w (Gives (.agg #[.int .u64 0, .int .u64 0]) w)) := ⟨fun w => by have := xpow_c p (a0, a1) n.toNat w hA (big_of hn); rw [xpow_not hv, Int.toNat_of_nonneg hn.1] at this; exact this⟩
    have c8 : Kept (∀ w, Calls Try.prog 19 #[fv p, pv (a0, a1), .int .u64 n] w (Gives (.agg #[.int .u64 0, .int .u64 0]) w)) := ⟨fun w => by have := xscale_c p _ n w hA hn; rw [xscale_not hv] at this; exact this⟩
    dsimp only [pv, fv] at *
    clear hA hB ha hb hp hv hn
    go_enter Try.func10, Try.ntmps10
    go_wp2_with (first | (go_at_call 11; (first | with_reducible refine use1 (awake02_c _) ?_ | with_reducible refine use (awake02_c _) ?_); intro pw) | (go_at_call 31; (first | with_reducible refine use1 (cv.out _) ?_ | with_reducible refine use (cv.out _) ?_); intro pw) | (go_at_call 24; (first | with_reducible refine use1 (c1.out _) ?_ | with_reducible refine use (c1.out _) ?_); intro pw) | (go_at_call 26; (first | with_reducible refine use1 (c2.out _) ?_ | with_reducible refine use (c2.out _) ?_); intro pw) | (go_at_call 22; (first | with_reducible refine use1 (c3.out _) ?_ | with_reducible refine use (c3.out _) ?_); intro pw) | (go_at_call 17; (first | with_reducible refine use1 (c4.out _) ?_ | with_reducible refine use (c4.out _) ?_); intro pw) | (go_at_call 13; (first | with_reducible refine use1 (c5.out _) ?_ | with_reducible refine use (c5.out _) ?_); intro pw) | (go_at_call 15; (first | with_reducible refine use1 (c6.out _) ?_ | with_reducible refine use (c6.out _) ?_); intro pw) | (go_at_call 29; (first | with_reducible refine use1 (c7.out _) ?_ | with_reducible refine use (c7.out _) ?_); intro pw) | (go_at_call 19; (first | with_reducible refine use1 (c8.out _) ?_ | with_reducible refine use (c8.out _) ?_); intro pw))
    repeat (
      (try dsimp only [List.append])
      (first | refine region_big1 (by kernel_rfl) ?_ | refine region_big (by kernel_rfl) ?_)
      repeat (go_big_quiet_step (first | (go_at_call 11; with_reducible exact quiet (awake02_c _)) | (go_at_call 31; with_reducible exact quiet (cv.out _)) | (go_at_call 24; with_reducible exact quiet (c1.out _)) | (go_at_call 26; with_reducible exact quiet (c2.out _)) | (go_at_call 22; with_reducible exact quiet (c3.out _)) | (go_at_call 17; with_reducible exact quiet (c4.out _)) | (go_at_call 13; with_reducible exact quiet (c5.out _)) | (go_at_call 15; with_reducible exact quiet (c6.out _)) | (go_at_call 29; with_reducible exact quiet (c7.out _)) | (go_at_call 19; with_reducible exact quiet (c8.out _))))
      refine wpQuiet_nil ?_
      intro _
      go_wp2_with (first | (go_at_call 11; (first | with_reducible refine use1 (awake02_c _) ?_ | with_reducible refine use (awake02_c _) ?_); intro pw) | (go_at_call 31; (first | with_reducible refine use1 (cv.out _) ?_ | with_reducible refine use (cv.out _) ?_); intro pw) | (go_at_call 24; (first | with_reducible refine use1 (c1.out _) ?_ | with_reducible refine use (c1.out _) ?_); intro pw) | (go_at_call 26; (first | with_reducible refine use1 (c2.out _) ?_ | with_reducible refine use (c2.out _) ?_); intro pw) | (go_at_call 22; (first | with_reducible refine use1 (c3.out _) ?_ | with_reducible refine use (c3.out _) ?_); intro pw) | (go_at_call 17; (first | with_reducible refine use1 (c4.out _) ?_ | with_reducible refine use (c4.out _) ?_); intro pw) | (go_at_call 13; (first | with_reducible refine use1 (c5.out _) ?_ | with_reducible refine use (c5.out _) ?_); intro pw) | (go_at_call 15; (first | with_reducible refine use1 (c6.out _) ?_ | with_reducible refine use (c6.out _) ?_); intro pw) | (go_at_call 29; (first | with_reducible refine use1 (c7.out _) ?_ | with_reducible refine use (c7.out _) ?_); intro pw) | (go_at_call 19; (first | with_reducible refine use1 (c8.out _) ?_ | with_reducible refine use (c8.out _) ?_); intro pw)))
    go_ret
    exact ⟨rfl, (by repeat (first | exact Below.refl _ _ | refine Below.later ?_ _ | refine Below.box ?_ _ | refine Below.drew ?_ | refine Below.put ?_ (by dsimp only; omega) _))⟩
  · have cv : Kept (∀ w, Calls Try.prog 31 #[.int .u64 p] w (Gives (.bool true) w)) := ⟨fun w => by have := rvalid_c p w; rw [hv] at this; exact this⟩
    clear hA hB ha hb hp hv hn
    go_enter Try.func10, Try.ntmps10
    go_wp2_with (first | (go_at_call 11; (first | with_reducible refine use1 (awake02_c _) ?_ | with_reducible refine use (awake02_c _) ?_); intro pw) | (go_at_call 31; (first | with_reducible refine use1 (cv.out _) ?_ | with_reducible refine use (cv.out _) ?_); intro pw))
    repeat (
      (try dsimp only [List.append])
      (first | refine region_big1 (by kernel_rfl) ?_ | refine region_big (by kernel_rfl) ?_)
      repeat (go_big_quiet_step (first | (go_at_call 11; with_reducible exact quiet (awake02_c _)) | (go_at_call 31; with_reducible exact quiet (cv.out _))))
      refine wpQuiet_nil ?_
      intro _
      go_wp2_with (first | (go_at_call 11; (first | with_reducible refine use1 (awake02_c _) ?_ | with_reducible refine use (awake02_c _) ?_); intro pw) | (go_at_call 31; (first | with_reducible refine use1 (cv.out _) ?_ | with_reducible refine use (cv.out _) ?_); intro pw)))
    go_ret
    exact ⟨rfl, (by repeat (first | exact Below.refl _ _ | refine Below.later ?_ _ | refine Below.box ?_ _ | refine Below.drew ?_ | refine Below.put ?_ (by dsimp only; omega) _))⟩

set_option maxRecDepth 100000 in
theorem lifted (os : Os) (started : os.Started) (H : Type) (enc : TypeId × Value → H) :
    ReturnsInHanded {} Try.checked os 10 .any (Rows.extensionUnknownSpec.pre6 enc Try.prog Try.f10 Rows.extensionUnknownRow.domain false) (Rows.extensionUnknownSpec.post enc Try.prog Try.f10 false true false false) := by
  refine returnsInHanded_of_change (C := Try.checked) own started (by kernel_rfl) Try.func10
    (ChangeSpec.witness6 (enc := enc) (C := Try.checked) false ⟨#[], #[.agg #[.int .u64 0, .int .u8 0, .int .u64 0, .int .u64 0, .int .u64 0, .int .u64 0], .int .u64 0], []⟩ 8 (by kernel_rfl) (by kernel_rfl) (by kernel_rfl) (by kernel_rfl)) ?_
  intro W base args ds gs before hval0 hW hcnd _
  have hval : ∀ (j : Nat) t v, Try.f10.params[j]? = some t → args[j]? = some v → Value.okWide Try.prog W .any base t v := hval0
  have hW0 : DataW.Whole enc Try.prog Try.f10.params.toList Rows.extensionUnknownSpec.vars false W args.toList ds gs before := hW
  obtain ⟨p, q, hA0, hV, rfl, _, _⟩ := hW
  have hA : DataW.TrodAll enc Try.prog W 0 (fun _ => true) true Try.f10.params.toList args.toList ds p := hA0
  rw [Try.params10] at hA hval
  obtain ⟨v0, vs0, d0, ds0, p0, q0, hargs, rfl, rfl, h0, r0⟩ := trodAll_cons hA
  obtain ⟨v1, vs1, d1, ds1, p1, q1, rfl, rfl, rfl, h1, r1⟩ := trodAll_cons r0
  obtain ⟨rfl, rfl, rfl⟩ := trodAll_nil r1
  obtain rfl : args = #[v0, v1] := by cases args; simp_all
  obtain ⟨rfl, rfl⟩ := trodVars_none hV
  obtain ⟨a0x, a0y, a0z, a0u, a0v, a0t, rfl, u0⟩ := open_two (hval 0 25 v0 rfl rfl)
  obtain ⟨a1, rfl, u1⟩ := open_u64 (hval 1 22 v1 rfl rfl)
  clear hA0 hval0
  refine (walk a0x a0y a0z a0u a0v a0t u0 a1 u1 W).mono fun e W' ⟨he, hb⟩ => ⟨.bool true, he, ?_⟩
  exact law_post (fun t ht => by have ht' : t ∈ [25, 22] := ht; simp only [List.mem_cons, List.not_mem_nil, or_false] at ht'; rcases ht' with rfl | rfl <;> exact ⟨by kernel_rfl, of_decide_eq_true (by kernel_rfl)⟩) rfl rfl hW0 rfl hb

theorem over : Rows.extensionUnknownRow.holds Try.pinned (OpenSpec.ofChange Rows.extensionUnknownSpec) :=
  OpenClaim.holds_of_wide 10 Try.f10 rfl rfl rfl rfl rfl rfl rfl ⟨rfl, rfl, rfl, rfl, rfl⟩ rfl rfl rfl rfl rfl (by kernel_rfl) Try.func10 (by kernel_rfl)
    (of_decide_eq_true (by kernel_rfl)) (by unfold Func.isWrapper; first | (rw [if_pos (by decide +kernel)]; kernel_rfl) | (rw [if_neg (by decide +kernel)]; exact ⟨rfl, rfl⟩))
    (fun os started H enc _ => lifted os started H enc)

/-- The statement. -/
theorem proved : Rows.ExtensionUnknownSaid := over
#print axioms proved
end Go.Proofs.Yteljpelagpghcaa.extensionUnknown
