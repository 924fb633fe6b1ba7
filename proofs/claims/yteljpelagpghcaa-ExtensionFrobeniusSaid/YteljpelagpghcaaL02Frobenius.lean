/- ExtensionFrobenius: for any known prime and any pair the call returns true: the power with P is the conjugate; it is the element itself for the elements of the field alone. No condition. -/
import Derived.Test.YteljpelagpghcaaLaw
import Derived.Test.YteljpelagpghcaaBig
import Derived.Test.YteljpelagpghcaaL02a
import Derived.Test.YteljpelagpghcaaExtl
namespace Go.Proofs.Yteljpelagpghcaa.extensionFrobenius
open Go.ChangeShapes Go.WideShapes Go.ChangeAt Go.RowKit

theorem walk (p k a0 a1 b0 b1 : Int) (h : (U p ∧ 0 ≤ k ∧ k ≤ 255) ∧ (U a0 ∧ U a1) ∧ (U b0 ∧ U b1)) (w : World) : Calls Try.prog 9 #[.agg #[.int .u64 p, .int .u8 k, .int .u64 a0, .int .u64 a1, .int .u64 b0, .int .u64 b1]] w (Gives (.bool true) w) := by
  obtain ⟨⟨hp, hk0, hk1⟩, ha, hb⟩ := h
  have hA : U2 (a0, a1) := ha
  have hB : U2 (b0, b1) := hb
  have c0 : Kept (∀ w, Calls Try.prog 21 #[.int .u8 k] w (Gives (.int .u64 (primeOf k)) w)) := ⟨fun w => prime_c k w hk0 hk1⟩
  have hv := prime_valid k
  have hU := prime_U k
  generalize primeOf k = r at *
  have hr := vld_pos hv
  obtain ⟨_, hr1⟩ := hU
  have c1 : Kept (∀ w, Calls Try.prog 29 #[fv r, pv (a0, a1), .int .u64 r] w (Gives (pv (xconj r (a0, a1))) w)) := ⟨fun w => by have := xpow_c r (a0, a1) r.toNat w hA ⟨by omega⟩; rw [frobX hv, Int.toNat_of_nonneg (by omega)] at this; exact this⟩
  have c2 : Kept (∀ w, Calls Try.prog 13 #[fv r, pv (a0, a1)] w (Gives (pv (xconj r (a0, a1))) w)) := ⟨fun w => xconj_c r _ w hA⟩
  have ta : a0.tmod r = a0 % r := Int.tmod_eq_emod_of_nonneg ha.1.1
  have tb : a1.tmod r = a1 % r := Int.tmod_eq_emod_of_nonneg ha.2.1
  have hrz : ¬ r = 0 := by omega
  have hs := conj_same hv (a0, a1)
  have hy0 : (xconj r (a0, a1)).1 = a0 % r := by unfold xconj fred; rw [if_pos hv]
  dsimp only at hs
  generalize xconj r (a0, a1) = y at *
  obtain ⟨y0, y1⟩ := y
  dsimp only [pv, fv] at *
  have g0 : (y0 == a0.tmod r) = true := by rw [ta]; simp [hy0]
  have g0' : (y0 == a0 % r) = true := by simp [hy0]
  obtain ⟨⟨q0, q1⟩, ⟨q2, q3⟩⟩ := ha
  by_cases h1 : a1 % r = 0
  · have e1 : (a1.tmod r == 0) = true := by rw [tb]; simp [h1]
    have e1' : (a1 % r == 0) = true := by simp [h1]
    have g1 : (y1 == a1.tmod r) = true := by rw [tb]; simp; exact (hs.2 h1).2
    have g1' : (y1 == a1 % r) = true := by simp; exact (hs.2 h1).2
    clear hA hB hb hp hv hs hy0 h1 ta tb
    go_enter Try.func9, Try.ntmps9
    go_wp2_with (first | (go_at_call 11; (first | with_reducible refine use1 (awake02_c _) ?_ | with_reducible refine use (awake02_c _) ?_); intro pw) | (go_at_call 21; (first | with_reducible refine use1 (c0.out _) ?_ | with_reducible refine use (c0.out _) ?_); intro pw) | (go_at_call 29; (first | with_reducible refine use1 (c1.out _) ?_ | with_reducible refine use (c1.out _) ?_); intro pw) | (go_at_call 13; (first | with_reducible refine use1 (c2.out _) ?_ | with_reducible refine use (c2.out _) ?_); intro pw))
    repeat (
      (try dsimp only [List.append])
      (first | refine region_big1 (by kernel_rfl) ?_ | refine region_big (by kernel_rfl) ?_)
      repeat (go_big_quiet_step (first | (go_at_call 11; with_reducible exact quiet (awake02_c _)) | (go_at_call 21; with_reducible exact quiet (c0.out _)) | (go_at_call 29; with_reducible exact quiet (c1.out _)) | (go_at_call 13; with_reducible exact quiet (c2.out _))))
      refine wpQuiet_nil ?_
      intro _
      go_wp2_with (first | (go_at_call 11; (first | with_reducible refine use1 (awake02_c _) ?_ | with_reducible refine use (awake02_c _) ?_); intro pw) | (go_at_call 21; (first | with_reducible refine use1 (c0.out _) ?_ | with_reducible refine use (c0.out _) ?_); intro pw) | (go_at_call 29; (first | with_reducible refine use1 (c1.out _) ?_ | with_reducible refine use (c1.out _) ?_); intro pw) | (go_at_call 13; (first | with_reducible refine use1 (c2.out _) ?_ | with_reducible refine use (c2.out _) ?_); intro pw)))
    go_ret
    exact ⟨rfl, (by repeat (first | exact Below.refl _ _ | refine Below.later ?_ _ | refine Below.box ?_ _ | refine Below.drew ?_ | refine Below.put ?_ (by dsimp only; omega) _))⟩
  · have e1 : (a1.tmod r == 0) = false := by rw [tb]; simp [h1]
    have e1' : (a1 % r == 0) = false := by simp [h1]
    have g1 : (y1 == a1.tmod r) = false := by rw [tb]; simp; exact fun e => h1 (hs.1 ⟨hy0, e⟩)
    have g1' : (y1 == a1 % r) = false := by simp; exact fun e => h1 (hs.1 ⟨hy0, e⟩)
    clear hA hB hb hp hv hs hy0 h1 ta tb
    go_enter Try.func9, Try.ntmps9
    go_wp2_with (first | (go_at_call 11; (first | with_reducible refine use1 (awake02_c _) ?_ | with_reducible refine use (awake02_c _) ?_); intro pw) | (go_at_call 21; (first | with_reducible refine use1 (c0.out _) ?_ | with_reducible refine use (c0.out _) ?_); intro pw) | (go_at_call 29; (first | with_reducible refine use1 (c1.out _) ?_ | with_reducible refine use (c1.out _) ?_); intro pw) | (go_at_call 13; (first | with_reducible refine use1 (c2.out _) ?_ | with_reducible refine use (c2.out _) ?_); intro pw))
    repeat (
      (try dsimp only [List.append])
      (first | refine region_big1 (by kernel_rfl) ?_ | refine region_big (by kernel_rfl) ?_)
      repeat (go_big_quiet_step (first | (go_at_call 11; with_reducible exact quiet (awake02_c _)) | (go_at_call 21; with_reducible exact quiet (c0.out _)) | (go_at_call 29; with_reducible exact quiet (c1.out _)) | (go_at_call 13; with_reducible exact quiet (c2.out _))))
      refine wpQuiet_nil ?_
      intro _
      go_wp2_with (first | (go_at_call 11; (first | with_reducible refine use1 (awake02_c _) ?_ | with_reducible refine use (awake02_c _) ?_); intro pw) | (go_at_call 21; (first | with_reducible refine use1 (c0.out _) ?_ | with_reducible refine use (c0.out _) ?_); intro pw) | (go_at_call 29; (first | with_reducible refine use1 (c1.out _) ?_ | with_reducible refine use (c1.out _) ?_); intro pw) | (go_at_call 13; (first | with_reducible refine use1 (c2.out _) ?_ | with_reducible refine use (c2.out _) ?_); intro pw)))
    go_ret
    exact ⟨rfl, (by repeat (first | exact Below.refl _ _ | refine Below.later ?_ _ | refine Below.box ?_ _ | refine Below.drew ?_ | refine Below.put ?_ (by dsimp only; omega) _))⟩

set_option maxRecDepth 100000 in
theorem lifted (os : Os) (started : os.Started) (H : Type) (enc : TypeId × Value → H) :
    ReturnsInHanded {} Try.checked os 9 .any (Rows.extensionFrobeniusSpec.pre6 enc Try.prog Try.f9 Rows.extensionFrobeniusRow.domain false) (Rows.extensionFrobeniusSpec.post enc Try.prog Try.f9 false true false false) := by
  refine returnsInHanded_of_change (C := Try.checked) own started (by kernel_rfl) Try.func9
    (ChangeSpec.witness6 (enc := enc) (C := Try.checked) false ⟨#[], #[.agg #[.int .u64 0, .int .u8 0, .int .u64 0, .int .u64 0, .int .u64 0, .int .u64 0]], []⟩ 8 (by kernel_rfl) (by kernel_rfl) (by kernel_rfl) (by kernel_rfl)) ?_
  intro W base args ds gs before hval0 hW hcnd _
  have hval : ∀ (j : Nat) t v, Try.f9.params[j]? = some t → args[j]? = some v → Value.okWide Try.prog W .any base t v := hval0
  have hW0 : DataW.Whole enc Try.prog Try.f9.params.toList Rows.extensionFrobeniusSpec.vars false W args.toList ds gs before := hW
  obtain ⟨p, q, hA0, hV, rfl, _, _⟩ := hW
  have hA : DataW.TrodAll enc Try.prog W 0 (fun _ => true) true Try.f9.params.toList args.toList ds p := hA0
  rw [Try.params9] at hA hval
  obtain ⟨v0, vs0, d0, ds0, p0, q0, hargs, rfl, rfl, h0, r0⟩ := trodAll_cons hA
  obtain ⟨rfl, rfl, rfl⟩ := trodAll_nil r0
  obtain rfl : args = #[v0] := by cases args; simp_all
  obtain ⟨rfl, rfl⟩ := trodVars_none hV
  obtain ⟨a0x, a0y, a0z, a0u, a0v, a0t, rfl, u0⟩ := open_two (hval 0 25 v0 rfl rfl)
  clear hA0 hval0
  refine (walk a0x a0y a0z a0u a0v a0t u0 W).mono fun e W' ⟨he, hb⟩ => ⟨.bool true, he, ?_⟩
  exact law_post (fun t ht => by have ht' : t ∈ [25] := ht; simp only [List.mem_cons, List.not_mem_nil, or_false] at ht'; rcases ht' with rfl <;> exact ⟨by kernel_rfl, of_decide_eq_true (by kernel_rfl)⟩) rfl rfl hW0 rfl hb

theorem over : Rows.extensionFrobeniusRow.holds Try.pinned (OpenSpec.ofChange Rows.extensionFrobeniusSpec) :=
  OpenClaim.holds_of_wide 9 Try.f9 rfl rfl rfl rfl rfl rfl rfl ⟨rfl, rfl, rfl, rfl, rfl⟩ rfl rfl rfl rfl rfl (by kernel_rfl) Try.func9 (by kernel_rfl)
    (of_decide_eq_true (by kernel_rfl)) (by unfold Func.isWrapper; first | (rw [if_pos (by decide +kernel)]; kernel_rfl) | (rw [if_neg (by decide +kernel)]; exact ⟨rfl, rfl⟩))
    (fun os started H enc _ => lifted os started H enc)

/-- The statement. -/
theorem proved : Rows.ExtensionFrobeniusSaid := over
#print axioms proved
end Go.Proofs.Yteljpelagpghcaa.extensionFrobenius
