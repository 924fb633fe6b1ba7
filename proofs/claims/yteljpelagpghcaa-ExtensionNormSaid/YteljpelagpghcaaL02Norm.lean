/- ExtensionNorm: for any known prime and any two pairs the call returns true: the norm is multiplicative, is 0 for 0 alone, and is the product with the conjugate. No condition. -/
import Derived.Test.YteljpelagpghcaaLaw
import Derived.Test.YteljpelagpghcaaBig
import Derived.Test.YteljpelagpghcaaL02a
import Derived.Test.YteljpelagpghcaaExtl
namespace Go.Proofs.Yteljpelagpghcaa.extensionNorm
open Go.ChangeShapes Go.WideShapes Go.ChangeAt Go.RowKit

theorem walk (p k a0 a1 b0 b1 : Int) (h : (U p ∧ 0 ≤ k ∧ k ≤ 255) ∧ (U a0 ∧ U a1) ∧ (U b0 ∧ U b1)) (w : World) : Calls Try.prog 5 #[.agg #[.int .u64 p, .int .u8 k, .int .u64 a0, .int .u64 a1, .int .u64 b0, .int .u64 b1]] w (Gives (.bool true) w) := by
  obtain ⟨⟨hp, hk0, hk1⟩, ha, hb⟩ := h
  have hA : U2 (a0, a1) := ha
  have hB : U2 (b0, b1) := hb
  have c0 : Kept (∀ w, Calls Try.prog 21 #[.int .u8 k] w (Gives (.int .u64 (primeOf k)) w)) := ⟨fun w => prime_c k w hk0 hk1⟩
  have hv := prime_valid k
  have hU := prime_U k
  generalize primeOf k = r at *
  have hr := vld_pos hv
  obtain ⟨_, hr1⟩ := hU
  have c1 : Kept (∀ w, Calls Try.prog 15 #[fv r, pv (a0, a1)] w (Gives (.int .u64 (xnorm r (a0, a1))) w)) := ⟨fun w => xnorm_c r _ w hA⟩
  have c2 : Kept (∀ w, Calls Try.prog 15 #[fv r, pv (b0, b1)] w (Gives (.int .u64 (xnorm r (b0, b1))) w)) := ⟨fun w => xnorm_c r _ w hB⟩
  have c3 : Kept (∀ w, Calls Try.prog 22 #[fv r, pv (a0, a1), pv (b0, b1)] w (Gives (pv (xmul r (a0, a1) (b0, b1))) w)) := ⟨fun w => xmul_c r _ _ w hA hB⟩
  have c4 : Kept (∀ w, Calls Try.prog 15 #[fv r, pv (xmul r (a0, a1) (b0, b1))] w (Gives (.int .u64 (fmul r (xnorm r (a0, a1)) (xnorm r (b0, b1)))) w)) := ⟨fun w => by have := xnorm_c r _ w (xmul_U (p := r) (a := (a0, a1)) (b := (b0, b1))); rw [xnorm_mul hv] at this; exact this⟩
  have c5 : Kept (∀ w, Calls Try.prog 23 #[.int .u64 r, .int .u64 (xnorm r (a0, a1)), .int .u64 (xnorm r (b0, b1))] w (Gives (.int .u64 (fmul r (xnorm r (a0, a1)) (xnorm r (b0, b1)))) w)) := ⟨fun w => rmul_c r _ _ w xnorm_U xnorm_U⟩
  have c6 : Kept (∀ w, Calls Try.prog 13 #[fv r, pv (a0, a1)] w (Gives (pv (xconj r (a0, a1))) w)) := ⟨fun w => xconj_c r _ w hA⟩
  have c7 : Kept (∀ w, Calls Try.prog 22 #[fv r, pv (a0, a1), pv (xconj r (a0, a1))] w (Gives (.agg #[.int .u64 (xnorm r (a0, a1)), .int .u64 0]) w)) := ⟨fun w => by have := xmul_c r _ _ w hA (xconj_U (p := r) (a := (a0, a1))); rw [xmul_conj hv] at this; exact this⟩
  have ta : a0.tmod r = a0 % r := Int.tmod_eq_emod_of_nonneg ha.1.1
  have tb : a1.tmod r = a1 % r := Int.tmod_eq_emod_of_nonneg ha.2.1
  have hrz : ¬ r = 0 := by omega
  have hz := norm_zero hv (a0, a1)
  dsimp only at hz
  generalize fmul r (xnorm r (a0, a1)) (xnorm r (b0, b1)) = n3 at *
  generalize xnorm r (a0, a1) = n1 at *
  generalize xnorm r (b0, b1) = n2 at *
  generalize xmul r (a0, a1) (b0, b1) = y at *
  generalize xconj r (a0, a1) = z at *
  obtain ⟨y0, y1⟩ := y
  obtain ⟨z0, z1⟩ := z
  dsimp only [pv, fv] at *
  have f1 : ¬ a0 % r = 0 → (n1 == 0) = false := fun e => by simp; exact fun h => e (hz.1 h).1
  have f2 : ¬ a1 % r = 0 → (n1 == 0) = false := fun e => by simp; exact fun h => e (hz.1 h).2
  have f3 : a0 % r = 0 → a1 % r = 0 → (n1 == 0) = true := fun e1 e2 => by simp; exact hz.2 ⟨e1, e2⟩
  obtain ⟨⟨q0, q1⟩, ⟨q2, q3⟩⟩ := ha
  clear hA hB hb hp hv hz
  by_cases h0 : a0 % r = 0
  · have e0 : (a0.tmod r == 0) = true := by rw [ta]; simp [h0]
    have e0' : (a0 % r == 0) = true := by simp [h0]
    by_cases h1 : a1 % r = 0
    · have e1 : (a1.tmod r == 0) = true := by rw [tb]; simp [h1]
      have e1' : (a1 % r == 0) = true := by simp [h1]
      have e2 := f3 h0 h1
      clear f1 f2 f3 h0 h1 ta tb
      go_enter Try.func5, Try.ntmps5
      go_wp2_with (first | (go_at_call 11; (first | with_reducible refine use1 (awake02_c _) ?_ | with_reducible refine use (awake02_c _) ?_); intro pw) | (go_at_call 21; (first | with_reducible refine use1 (c0.out _) ?_ | with_reducible refine use (c0.out _) ?_); intro pw) | (go_at_call 15; (first | with_reducible refine use1 (c1.out _) ?_ | with_reducible refine use (c1.out _) ?_); intro pw) | (go_at_call 15; (first | with_reducible refine use1 (c2.out _) ?_ | with_reducible refine use (c2.out _) ?_); intro pw) | (go_at_call 22; (first | with_reducible refine use1 (c3.out _) ?_ | with_reducible refine use (c3.out _) ?_); intro pw) | (go_at_call 15; (first | with_reducible refine use1 (c4.out _) ?_ | with_reducible refine use (c4.out _) ?_); intro pw) | (go_at_call 23; (first | with_reducible refine use1 (c5.out _) ?_ | with_reducible refine use (c5.out _) ?_); intro pw) | (go_at_call 13; (first | with_reducible refine use1 (c6.out _) ?_ | with_reducible refine use (c6.out _) ?_); intro pw) | (go_at_call 22; (first | with_reducible refine use1 (c7.out _) ?_ | with_reducible refine use (c7.out _) ?_); intro pw))
      repeat (
        (try dsimp only [List.append])
        (first | refine region_big1 (by kernel_rfl) ?_ | refine region_big (by kernel_rfl) ?_)
        repeat (go_big_quiet_step (first | (go_at_call 11; with_reducible exact quiet (awake02_c _)) | (go_at_call 21; with_reducible exact quiet (c0.out _)) | (go_at_call 15; with_reducible exact quiet (c1.out _)) | (go_at_call 15; with_reducible exact quiet (c2.out _)) | (go_at_call 22; with_reducible exact quiet (c3.out _)) | (go_at_call 15; with_reducible exact quiet (c4.out _)) | (go_at_call 23; with_reducible exact quiet (c5.out _)) | (go_at_call 13; with_reducible exact quiet (c6.out _)) | (go_at_call 22; with_reducible exact quiet (c7.out _))))
        refine wpQuiet_nil ?_
        intro _
        go_wp2_with (first | (go_at_call 11; (first | with_reducible refine use1 (awake02_c _) ?_ | with_reducible refine use (awake02_c _) ?_); intro pw) | (go_at_call 21; (first | with_reducible refine use1 (c0.out _) ?_ | with_reducible refine use (c0.out _) ?_); intro pw) | (go_at_call 15; (first | with_reducible refine use1 (c1.out _) ?_ | with_reducible refine use (c1.out _) ?_); intro pw) | (go_at_call 15; (first | with_reducible refine use1 (c2.out _) ?_ | with_reducible refine use (c2.out _) ?_); intro pw) | (go_at_call 22; (first | with_reducible refine use1 (c3.out _) ?_ | with_reducible refine use (c3.out _) ?_); intro pw) | (go_at_call 15; (first | with_reducible refine use1 (c4.out _) ?_ | with_reducible refine use (c4.out _) ?_); intro pw) | (go_at_call 23; (first | with_reducible refine use1 (c5.out _) ?_ | with_reducible refine use (c5.out _) ?_); intro pw) | (go_at_call 13; (first | with_reducible refine use1 (c6.out _) ?_ | with_reducible refine use (c6.out _) ?_); intro pw) | (go_at_call 22; (first | with_reducible refine use1 (c7.out _) ?_ | with_reducible refine use (c7.out _) ?_); intro pw)))
      go_ret
      exact ⟨rfl, (by repeat (first | exact Below.refl _ _ | refine Below.later ?_ _ | refine Below.box ?_ _ | refine Below.drew ?_ | refine Below.put ?_ (by dsimp only; omega) _))⟩
    · have e1 : (a1.tmod r == 0) = false := by rw [tb]; simp [h1]
      have e1' : (a1 % r == 0) = false := by simp [h1]
      have e2 := f2 h1
      clear f1 f2 f3 h0 h1 ta tb
      go_enter Try.func5, Try.ntmps5
      go_wp2_with (first | (go_at_call 11; (first | with_reducible refine use1 (awake02_c _) ?_ | with_reducible refine use (awake02_c _) ?_); intro pw) | (go_at_call 21; (first | with_reducible refine use1 (c0.out _) ?_ | with_reducible refine use (c0.out _) ?_); intro pw) | (go_at_call 15; (first | with_reducible refine use1 (c1.out _) ?_ | with_reducible refine use (c1.out _) ?_); intro pw) | (go_at_call 15; (first | with_reducible refine use1 (c2.out _) ?_ | with_reducible refine use (c2.out _) ?_); intro pw) | (go_at_call 22; (first | with_reducible refine use1 (c3.out _) ?_ | with_reducible refine use (c3.out _) ?_); intro pw) | (go_at_call 15; (first | with_reducible refine use1 (c4.out _) ?_ | with_reducible refine use (c4.out _) ?_); intro pw) | (go_at_call 23; (first | with_reducible refine use1 (c5.out _) ?_ | with_reducible refine use (c5.out _) ?_); intro pw) | (go_at_call 13; (first | with_reducible refine use1 (c6.out _) ?_ | with_reducible refine use (c6.out _) ?_); intro pw) | (go_at_call 22; (first | with_reducible refine use1 (c7.out _) ?_ | with_reducible refine use (c7.out _) ?_); intro pw))
      repeat (
        (try dsimp only [List.append])
        (first | refine region_big1 (by kernel_rfl) ?_ | refine region_big (by kernel_rfl) ?_)
        repeat (go_big_quiet_step (first | (go_at_call 11; with_reducible exact quiet (awake02_c _)) | (go_at_call 21; with_reducible exact quiet (c0.out _)) | (go_at_call 15; with_reducible exact quiet (c1.out _)) | (go_at_call 15; with_reducible exact quiet (c2.out _)) | (go_at_call 22; with_reducible exact quiet (c3.out _)) | (go_at_call 15; with_reducible exact quiet (c4.out _)) | (go_at_call 23; with_reducible exact quiet (c5.out _)) | (go_at_call 13; with_reducible exact quiet (c6.out _)) | (go_at_call 22; with_reducible exact quiet (c7.out _))))
        refine wpQuiet_nil ?_
        intro _
        go_wp2_with (first | (go_at_call 11; (first | with_reducible refine use1 (awake02_c _) ?_ | with_reducible refine use (awake02_c _) ?_); intro pw) | (go_at_call 21; (first | with_reducible refine use1 (c0.out _) ?_ | with_reducible refine use (c0.out _) ?_); intro pw) | (go_at_call 15; (first | with_reducible refine use1 (c1.out _) ?_ | with_reducible refine use (c1.out _) ?_); intro pw) | (go_at_call 15; (first | with_reducible refine use1 (c2.out _) ?_ | with_reducible refine use (c2.out _) ?_); intro pw) | (go_at_call 22; (first | with_reducible refine use1 (c3.out _) ?_ | with_reducible refine use (c3.out _) ?_); intro pw) | (go_at_call 15; (first | with_reducible refine use1 (c4.out _) ?_ | with_reducible refine use (c4.out _) ?_); intro pw) | (go_at_call 23; (first | with_reducible refine use1 (c5.out _) ?_ | with_reducible refine use (c5.out _) ?_); intro pw) | (go_at_call 13; (first | with_reducible refine use1 (c6.out _) ?_ | with_reducible refine use (c6.out _) ?_); intro pw) | (go_at_call 22; (first | with_reducible refine use1 (c7.out _) ?_ | with_reducible refine use (c7.out _) ?_); intro pw)))
      go_ret
      exact ⟨rfl, (by repeat (first | exact Below.refl _ _ | refine Below.later ?_ _ | refine Below.box ?_ _ | refine Below.drew ?_ | refine Below.put ?_ (by dsimp only; omega) _))⟩
  · have e0 : (a0.tmod r == 0) = false := by rw [ta]; simp [h0]
    have e0' : (a0 % r == 0) = false := by simp [h0]
    have e2 := f1 h0
    clear f1 f2 f3 h0 ta tb
    go_enter Try.func5, Try.ntmps5
    go_wp2_with (first | (go_at_call 11; (first | with_reducible refine use1 (awake02_c _) ?_ | with_reducible refine use (awake02_c _) ?_); intro pw) | (go_at_call 21; (first | with_reducible refine use1 (c0.out _) ?_ | with_reducible refine use (c0.out _) ?_); intro pw) | (go_at_call 15; (first | with_reducible refine use1 (c1.out _) ?_ | with_reducible refine use (c1.out _) ?_); intro pw) | (go_at_call 15; (first | with_reducible refine use1 (c2.out _) ?_ | with_reducible refine use (c2.out _) ?_); intro pw) | (go_at_call 22; (first | with_reducible refine use1 (c3.out _) ?_ | with_reducible refine use (c3.out _) ?_); intro pw) | (go_at_call 15; (first | with_reducible refine use1 (c4.out _) ?_ | with_reducible refine use (c4.out _) ?_); intro pw) | (go_at_call 23; (first | with_reducible refine use1 (c5.out _) ?_ | with_reducible refine use (c5.out _) ?_); intro pw) | (go_at_call 13; (first | with_reducible refine use1 (c6.out _) ?_ | with_reducible refine use (c6.out _) ?_); intro pw) | (go_at_call 22; (first | with_reducible refine use1 (c7.out _) ?_ | with_reducible refine use (c7.out _) ?_); intro pw))
    repeat (
      (try dsimp only [List.append])
      (first | refine region_big1 (by kernel_rfl) ?_ | refine region_big (by kernel_rfl) ?_)
      repeat (go_big_quiet_step (first | (go_at_call 11; with_reducible exact quiet (awake02_c _)) | (go_at_call 21; with_reducible exact quiet (c0.out _)) | (go_at_call 15; with_reducible exact quiet (c1.out _)) | (go_at_call 15; with_reducible exact quiet (c2.out _)) | (go_at_call 22; with_reducible exact quiet (c3.out _)) | (go_at_call 15; with_reducible exact quiet (c4.out _)) | (go_at_call 23; with_reducible exact quiet (c5.out _)) | (go_at_call 13; with_reducible exact quiet (c6.out _)) | (go_at_call 22; with_reducible exact quiet (c7.out _))))
      refine wpQuiet_nil ?_
      intro _
      go_wp2_with (first | (go_at_call 11; (first | with_reducible refine use1 (awake02_c _) ?_ | with_reducible refine use (awake02_c _) ?_); intro pw) | (go_at_call 21; (first | with_reducible refine use1 (c0.out _) ?_ | with_reducible refine use (c0.out _) ?_); intro pw) | (go_at_call 15; (first | with_reducible refine use1 (c1.out _) ?_ | with_reducible refine use (c1.out _) ?_); intro pw) | (go_at_call 15; (first | with_reducible refine use1 (c2.out _) ?_ | with_reducible refine use (c2.out _) ?_); intro pw) | (go_at_call 22; (first | with_reducible refine use1 (c3.out _) ?_ | with_reducible refine use (c3.out _) ?_); intro pw) | (go_at_call 15; (first | with_reducible refine use1 (c4.out _) ?_ | with_reducible refine use (c4.out _) ?_); intro pw) | (go_at_call 23; (first | with_reducible refine use1 (c5.out _) ?_ | with_reducible refine use (c5.out _) ?_); intro pw) | (go_at_call 13; (first | with_reducible refine use1 (c6.out _) ?_ | with_reducible refine use (c6.out _) ?_); intro pw) | (go_at_call 22; (first | with_reducible refine use1 (c7.out _) ?_ | with_reducible refine use (c7.out _) ?_); intro pw)))
    go_ret
    exact ⟨rfl, (by repeat (first | exact Below.refl _ _ | refine Below.later ?_ _ | refine Below.box ?_ _ | refine Below.drew ?_ | refine Below.put ?_ (by dsimp only; omega) _))⟩

set_option maxRecDepth 100000 in
theorem lifted (os : Os) (started : os.Started) (H : Type) (enc : TypeId × Value → H) :
    ReturnsInHanded {} Try.checked os 5 .any (Rows.extensionNormSpec.pre6 enc Try.prog Try.f5 Rows.extensionNormRow.domain false) (Rows.extensionNormSpec.post enc Try.prog Try.f5 false true false false) := by
  refine returnsInHanded_of_change (C := Try.checked) own started (by kernel_rfl) Try.func5
    (ChangeSpec.witness6 (enc := enc) (C := Try.checked) false ⟨#[], #[.agg #[.int .u64 0, .int .u8 0, .int .u64 0, .int .u64 0, .int .u64 0, .int .u64 0]], []⟩ 8 (by kernel_rfl) (by kernel_rfl) (by kernel_rfl) (by kernel_rfl)) ?_
  intro W base args ds gs before hval0 hW hcnd _
  have hval : ∀ (j : Nat) t v, Try.f5.params[j]? = some t → args[j]? = some v → Value.okWide Try.prog W .any base t v := hval0
  have hW0 : DataW.Whole enc Try.prog Try.f5.params.toList Rows.extensionNormSpec.vars false W args.toList ds gs before := hW
  obtain ⟨p, q, hA0, hV, rfl, _, _⟩ := hW
  have hA : DataW.TrodAll enc Try.prog W 0 (fun _ => true) true Try.f5.params.toList args.toList ds p := hA0
  rw [Try.params5] at hA hval
  obtain ⟨v0, vs0, d0, ds0, p0, q0, hargs, rfl, rfl, h0, r0⟩ := trodAll_cons hA
  obtain ⟨rfl, rfl, rfl⟩ := trodAll_nil r0
  obtain rfl : args = #[v0] := by cases args; simp_all
  obtain ⟨rfl, rfl⟩ := trodVars_none hV
  obtain ⟨a0x, a0y, a0z, a0u, a0v, a0t, rfl, u0⟩ := open_two (hval 0 25 v0 rfl rfl)
  clear hA0 hval0
  refine (walk a0x a0y a0z a0u a0v a0t u0 W).mono fun e W' ⟨he, hb⟩ => ⟨.bool true, he, ?_⟩
  exact law_post (fun t ht => by have ht' : t ∈ [25] := ht; simp only [List.mem_cons, List.not_mem_nil, or_false] at ht'; rcases ht' with rfl <;> exact ⟨by kernel_rfl, of_decide_eq_true (by kernel_rfl)⟩) rfl rfl hW0 rfl hb

theorem over : Rows.extensionNormRow.holds Try.pinned (OpenSpec.ofChange Rows.extensionNormSpec) :=
  OpenClaim.holds_of_wide 5 Try.f5 rfl rfl rfl rfl rfl rfl rfl ⟨rfl, rfl, rfl, rfl, rfl⟩ rfl rfl rfl rfl rfl (by kernel_rfl) Try.func5 (by kernel_rfl)
    (of_decide_eq_true (by kernel_rfl)) (by unfold Func.isWrapper; first | (rw [if_pos (by decide +kernel)]; kernel_rfl) | (rw [if_neg (by decide +kernel)]; exact ⟨rfl, rfl⟩))
    (fun os started H enc _ => lifted os started H enc)

/-- The statement. -/
theorem proved : Rows.ExtensionNormSaid := over
#print axioms proved
end Go.Proofs.Yteljpelagpghcaa.extensionNorm
