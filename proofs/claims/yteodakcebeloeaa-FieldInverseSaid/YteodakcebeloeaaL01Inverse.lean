/- FieldInverse: for any known prime and any two numbers the call returns true: Inv gives the only element whose product with the number is 1, or 0; Div multiplies by it. No condition. -/
import Derived.Test.YteodakcebeloeaaLaw
import Derived.Test.YteodakcebeloeaaBig
import Derived.Test.YteodakcebeloeaaL01a
namespace Go.Proofs.Yteodakcebeloeaa.fieldInverse
open Go.ChangeShapes Go.WideShapes Go.ChangeAt Go.RowKit

theorem pred_not {p : Int} (h : vld p = true) : vld (p - 1) = false := by
  rcases vld_cases h with h | h | h | h | h | h | h <;> subst h <;> decide
theorem finv_lt {p a : Int} (h : vld p = true) : finv p a < p := by
  have := vld_pos h
  unfold finv fpow; rw [if_pos h]; exact Int.emod_lt_of_pos _ (by omega)

theorem walk (n : Int) (hn : 0 ≤ n ∧ n ≤ 255) (a : Int) (ha : U a) (b : Int) (hb : U b) (w : World) : Calls Try.prog 7 #[.int .u8 n, .int .u64 a, .int .u64 b] w (Gives (.bool true) w) := by
  have c0 : Kept (∀ w, Calls Try.prog 27 #[.int .u8 n] w (Gives (.int .u64 (primeOf n)) w)) := ⟨fun w => prime_c n w hn.1 hn.2⟩
  have hv := prime_valid n
  have hU := prime_U n
  generalize primeOf n = p at *
  have hp := vld_pos hv
  have hlt := finv_lt (a := b) hv
  have hUv : U (finv p b) := finv_U
  have c1 : Kept (∀ w, Calls Try.prog 28 #[.agg #[.int .u64 p], .int .u64 b] w (Gives (.int .u64 (finv p b)) w)) := ⟨fun w => inv_c p b w hU hb⟩
  have c2 : Kept (∀ w, Calls Try.prog 29 #[.agg #[.int .u64 p], .int .u64 a, .int .u64 b] w (Gives (.int .u64 (fmul p a (finv p b))) w)) := ⟨fun w => div_c p a b w hU ha hb⟩
  have c3 : Kept (∀ w, Calls Try.prog 22 #[.int .u64 p, .int .u64 a, .int .u64 (finv p b)] w (Gives (.int .u64 (fmul p a (finv p b))) w)) := ⟨fun w => rmul_c p a _ w ha hUv⟩
  have c5 : Kept (∀ w, Calls Try.prog 28 #[.agg #[.int .u64 (p - 1)], .int .u64 b] w (Gives (.int .u64 0) w)) := ⟨fun w => by
    have := inv_c (p - 1) b w ⟨by omega, by have := hU.2; omega⟩ hb
    rw [finv, fpow, pred_not hv] at this; exact this⟩
  have c6 : Kept (∀ w, Calls Try.prog 29 #[.agg #[.int .u64 0], .int .u64 a, .int .u64 b] w (Gives (.int .u64 0) w)) := ⟨fun w => by
    have := div_c 0 a b w ⟨by decide, by decide⟩ ha hb
    rw [fmul, show vld 0 = false from by decide] at this; exact this⟩
  obtain ⟨_, hU1⟩ := hU
  have hpz : ¬ p = 0 := by omega
  by_cases h0 : b % p = 0
  · have hb0 : (b.tmod p == 0) = true := by rw [Int.tmod_eq_emod_of_nonneg hb.1]; simp [h0]
    rw [finv_zero hv b h0] at c1 c2
    have hz : fmul p a 0 = 0 := by simp [fmul]
    rw [hz] at c2
    clear h0 hv ha hb hUv hlt c3 c5 c6 hz
    go_enter Try.func7, Try.ntmps7
    go_wp2_with (first | (go_at_call 12; (first | with_reducible refine use1 (awake01_c _) ?_ | with_reducible refine use (awake01_c _) ?_); intro pw) | (go_at_call 27; (first | with_reducible refine use1 (c0.out _) ?_ | with_reducible refine use (c0.out _) ?_); intro pw) | (go_at_call 28; (first | with_reducible refine use1 (c1.out _) ?_ | with_reducible refine use (c1.out _) ?_); intro pw) | (go_at_call 29; (first | with_reducible refine use1 (c2.out _) ?_ | with_reducible refine use (c2.out _) ?_); intro pw))
    repeat (
      (first | refine region_quiet1 (by kernel_rfl) ?_ | refine region_quiet (by kernel_rfl) ?_)
      repeat (go_big_quiet_step (first | (go_at_call 12; with_reducible exact quiet (awake01_c _)) | (go_at_call 27; with_reducible exact quiet (c0.out _)) | (go_at_call 28; with_reducible exact quiet (c1.out _)) | (go_at_call 29; with_reducible exact quiet (c2.out _))))
      refine wpQuiet_nil ?_
      intro _
      go_wp2_with (first | (go_at_call 12; (first | with_reducible refine use1 (awake01_c _) ?_ | with_reducible refine use (awake01_c _) ?_); intro pw) | (go_at_call 27; (first | with_reducible refine use1 (c0.out _) ?_ | with_reducible refine use (c0.out _) ?_); intro pw) | (go_at_call 28; (first | with_reducible refine use1 (c1.out _) ?_ | with_reducible refine use (c1.out _) ?_); intro pw) | (go_at_call 29; (first | with_reducible refine use1 (c2.out _) ?_ | with_reducible refine use (c2.out _) ?_); intro pw)))
    go_ret
    exact ⟨rfl, (by repeat (first | exact Below.refl _ _ | refine Below.later ?_ _ | refine Below.box ?_ _ | refine Below.drew ?_ | refine Below.put ?_ (by dsimp only; omega) _))⟩
  · have hb0 : (b.tmod p == 0) = false := by rw [Int.tmod_eq_emod_of_nonneg hb.1]; simp [h0]
    have c4 : Kept (∀ w, Calls Try.prog 22 #[.int .u64 p, .int .u64 (finv p b), .int .u64 b] w (Gives (.int .u64 1) w)) := ⟨fun w => by
      have := rmul_c p _ b w hUv hb
      rw [fmul, hv, if_pos rfl, Int.mul_comm, finv_mul hv b h0] at this; exact this⟩
    generalize fmul p a (finv p b) = x at *
    generalize finv p b = v at *
    clear h0 hv ha hb
    obtain ⟨hUv0, hUv1⟩ := hUv
    go_enter Try.func7, Try.ntmps7
    go_wp2_with (first | (go_at_call 12; (first | with_reducible refine use1 (awake01_c _) ?_ | with_reducible refine use (awake01_c _) ?_); intro pw) | (go_at_call 27; (first | with_reducible refine use1 (c0.out _) ?_ | with_reducible refine use (c0.out _) ?_); intro pw) | (go_at_call 28; (first | with_reducible refine use1 (c1.out _) ?_ | with_reducible refine use (c1.out _) ?_); intro pw) | (go_at_call 29; (first | with_reducible refine use1 (c2.out _) ?_ | with_reducible refine use (c2.out _) ?_); intro pw) | (go_at_call 22; (first | with_reducible refine use1 (c3.out _) ?_ | with_reducible refine use (c3.out _) ?_); intro pw) | (go_at_call 22; (first | with_reducible refine use1 (c4.out _) ?_ | with_reducible refine use (c4.out _) ?_); intro pw) | (go_at_call 28; (first | with_reducible refine use1 (c5.out _) ?_ | with_reducible refine use (c5.out _) ?_); intro pw) | (go_at_call 29; (first | with_reducible refine use1 (c6.out _) ?_ | with_reducible refine use (c6.out _) ?_); intro pw))
    repeat (
      (first | refine region_quiet1 (by kernel_rfl) ?_ | refine region_quiet (by kernel_rfl) ?_)
      repeat (go_big_quiet_step (first | (go_at_call 12; with_reducible exact quiet (awake01_c _)) | (go_at_call 27; with_reducible exact quiet (c0.out _)) | (go_at_call 28; with_reducible exact quiet (c1.out _)) | (go_at_call 29; with_reducible exact quiet (c2.out _)) | (go_at_call 22; with_reducible exact quiet (c3.out _)) | (go_at_call 22; with_reducible exact quiet (c4.out _)) | (go_at_call 28; with_reducible exact quiet (c5.out _)) | (go_at_call 29; with_reducible exact quiet (c6.out _))))
      refine wpQuiet_nil ?_
      intro _
      go_wp2_with (first | (go_at_call 12; (first | with_reducible refine use1 (awake01_c _) ?_ | with_reducible refine use (awake01_c _) ?_); intro pw) | (go_at_call 27; (first | with_reducible refine use1 (c0.out _) ?_ | with_reducible refine use (c0.out _) ?_); intro pw) | (go_at_call 28; (first | with_reducible refine use1 (c1.out _) ?_ | with_reducible refine use (c1.out _) ?_); intro pw) | (go_at_call 29; (first | with_reducible refine use1 (c2.out _) ?_ | with_reducible refine use (c2.out _) ?_); intro pw) | (go_at_call 22; (first | with_reducible refine use1 (c3.out _) ?_ | with_reducible refine use (c3.out _) ?_); intro pw) | (go_at_call 22; (first | with_reducible refine use1 (c4.out _) ?_ | with_reducible refine use (c4.out _) ?_); intro pw) | (go_at_call 28; (first | with_reducible refine use1 (c5.out _) ?_ | with_reducible refine use (c5.out _) ?_); intro pw) | (go_at_call 29; (first | with_reducible refine use1 (c6.out _) ?_ | with_reducible refine use (c6.out _) ?_); intro pw)))
    go_ret
    exact ⟨rfl, (by repeat (first | exact Below.refl _ _ | refine Below.later ?_ _ | refine Below.box ?_ _ | refine Below.drew ?_ | refine Below.put ?_ (by dsimp only; omega) _))⟩

set_option maxRecDepth 100000 in
theorem lifted (os : Os) (started : os.Started) (H : Type) (enc : TypeId × Value → H) :
    ReturnsInHanded {} Try.checked os 7 .any (Rows.fieldInverseSpec.pre6 enc Try.prog Try.f7 Rows.fieldInverseRow.domain false) (Rows.fieldInverseSpec.post enc Try.prog Try.f7 false true false false) := by
  refine returnsInHanded_of_change (C := Try.checked) own started (by kernel_rfl) Try.func7
    (ChangeSpec.witness6 (enc := enc) (C := Try.checked) false ⟨#[], #[.int .u8 0, .int .u64 0, .int .u64 0], []⟩ 8 (by kernel_rfl) (by kernel_rfl) (by kernel_rfl) (by kernel_rfl)) ?_
  intro W base args ds gs before hval0 hW hcnd _
  have hval : ∀ (j : Nat) t v, Try.f7.params[j]? = some t → args[j]? = some v → Value.okWide Try.prog W .any base t v := hval0
  have hW0 : DataW.Whole enc Try.prog Try.f7.params.toList Rows.fieldInverseSpec.vars false W args.toList ds gs before := hW
  obtain ⟨p, q, hA0, hV, rfl, _, _⟩ := hW
  have hA : DataW.TrodAll enc Try.prog W 0 (fun _ => true) true Try.f7.params.toList args.toList ds p := hA0
  rw [Try.params7] at hA hval
  obtain ⟨v0, vs0, d0, ds0, p0, q0, hargs, rfl, rfl, h0, r0⟩ := trodAll_cons hA
  obtain ⟨v1, vs1, d1, ds1, p1, q1, rfl, rfl, rfl, h1, r1⟩ := trodAll_cons r0
  obtain ⟨v2, vs2, d2, ds2, p2, q2, rfl, rfl, rfl, h2, r2⟩ := trodAll_cons r1
  obtain ⟨rfl, rfl, rfl⟩ := trodAll_nil r2
  obtain rfl : args = #[v0, v1, v2] := by cases args; simp_all
  obtain ⟨rfl, rfl⟩ := trodVars_none hV
  obtain ⟨a0, rfl, u0⟩ := open_u8 (hval 0 5 v0 rfl rfl)
  obtain ⟨a1, rfl, u1⟩ := open_u64 (hval 1 22 v1 rfl rfl)
  obtain ⟨a2, rfl, u2⟩ := open_u64 (hval 2 22 v2 rfl rfl)
  clear hA0 hval0
  refine (walk a0 u0 a1 u1 a2 u2 W).mono fun e W' ⟨he, hb⟩ => ⟨.bool true, he, ?_⟩
  exact law_post (fun t ht => by have ht' : t ∈ [5, 22, 22] := ht; simp only [List.mem_cons, List.not_mem_nil, or_false] at ht'; rcases ht' with rfl | rfl | rfl <;> exact ⟨by kernel_rfl, of_decide_eq_true (by kernel_rfl)⟩) rfl rfl hW0 rfl hb

theorem over : Rows.fieldInverseRow.holds Try.pinned (OpenSpec.ofChange Rows.fieldInverseSpec) :=
  OpenClaim.holds_of_wide 7 Try.f7 rfl rfl rfl rfl rfl rfl rfl ⟨rfl, rfl, rfl, rfl, rfl⟩ rfl rfl rfl rfl rfl (by kernel_rfl) Try.func7 (by kernel_rfl)
    (of_decide_eq_true (by kernel_rfl)) (by unfold Func.isWrapper; first | (rw [if_pos (by decide +kernel)]; kernel_rfl) | (rw [if_neg (by decide +kernel)]; exact ⟨rfl, rfl⟩))
    (fun os started H enc _ => lifted os started H enc)

/-- The statement. -/
theorem proved : Rows.FieldInverseSaid := over
#print axioms proved
end Go.Proofs.Yteodakcebeloeaa.fieldInverse
