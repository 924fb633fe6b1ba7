/- FieldArithmetic: for any P and any two numbers the call returns true: both implementations give the same five results. No condition. -/
import Derived.Test.YteodakcebeloeaaLaw
import Derived.Test.YteodakcebeloeaaL01a
namespace Go.Proofs.Yteodakcebeloeaa.fieldArithmetic
open Go.ChangeShapes Go.WideShapes Go.ChangeAt Go.RowKit

theorem walk (p : Int) (_hp : U p) (a : Int) (ha : U a) (b : Int) (hb : U b) (w : World) : Calls Try.prog 3 #[.int .u64 p, .int .u64 a, .int .u64 b] w (Gives (.bool true) w) := by
  have c1 : Kept (∀ w, Calls Try.prog 13 #[.agg #[.int .u64 p], .int .u64 a] w (Gives (.int .u64 (fred p a)) w)) := ⟨fun w => red_c p a w ha⟩
  have d1 : Kept (∀ w, Calls Try.prog 14 #[.int .u64 p, .int .u64 a] w (Gives (.int .u64 (fred p a)) w)) := ⟨fun w => rred_c p a w ha⟩
  have c2 : Kept (∀ w, Calls Try.prog 15 #[.agg #[.int .u64 p], .int .u64 a, .int .u64 b] w (Gives (.int .u64 (fadd p a b)) w)) := ⟨fun w => add_c p a b w ha hb⟩
  have d2 : Kept (∀ w, Calls Try.prog 16 #[.int .u64 p, .int .u64 a, .int .u64 b] w (Gives (.int .u64 (fadd p a b)) w)) := ⟨fun w => radd_c p a b w ha hb⟩
  have c3 : Kept (∀ w, Calls Try.prog 17 #[.agg #[.int .u64 p], .int .u64 a, .int .u64 b] w (Gives (.int .u64 (fsub p a b)) w)) := ⟨fun w => sub_c p a b w ha hb⟩
  have d3 : Kept (∀ w, Calls Try.prog 18 #[.int .u64 p, .int .u64 a, .int .u64 b] w (Gives (.int .u64 (fsub p a b)) w)) := ⟨fun w => rsub_c p a b w ha hb⟩
  have c4 : Kept (∀ w, Calls Try.prog 19 #[.agg #[.int .u64 p], .int .u64 a] w (Gives (.int .u64 (fneg p a)) w)) := ⟨fun w => neg_c p a w ha⟩
  have d4 : Kept (∀ w, Calls Try.prog 20 #[.int .u64 p, .int .u64 a] w (Gives (.int .u64 (fneg p a)) w)) := ⟨fun w => rneg_c p a w ha⟩
  have c5 : Kept (∀ w, Calls Try.prog 21 #[.agg #[.int .u64 p], .int .u64 a, .int .u64 b] w (Gives (.int .u64 (fmul p a b)) w)) := ⟨fun w => mul_c p a b w ha hb⟩
  have d5 : Kept (∀ w, Calls Try.prog 22 #[.int .u64 p, .int .u64 a, .int .u64 b] w (Gives (.int .u64 (fmul p a b)) w)) := ⟨fun w => rmul_c p a b w ha hb⟩
  generalize fred p a = r1 at *
  generalize fadd p a b = r2 at *
  generalize fsub p a b = r3 at *
  generalize fneg p a = r4 at *
  generalize fmul p a b = r5 at *
  clear ha hb
  go_enter Try.func3, Try.ntmps3
  go_wp2_with (first | (go_at_call 12; (first | with_reducible refine use1 (awake01_c _) ?_ | with_reducible refine use (awake01_c _) ?_); intro pw) | (go_at_call 13; (first | with_reducible refine use1 (c1.out _) ?_ | with_reducible refine use (c1.out _) ?_); intro pw) | (go_at_call 14; (first | with_reducible refine use1 (d1.out _) ?_ | with_reducible refine use (d1.out _) ?_); intro pw) | (go_at_call 15; (first | with_reducible refine use1 (c2.out _) ?_ | with_reducible refine use (c2.out _) ?_); intro pw) | (go_at_call 16; (first | with_reducible refine use1 (d2.out _) ?_ | with_reducible refine use (d2.out _) ?_); intro pw) | (go_at_call 17; (first | with_reducible refine use1 (c3.out _) ?_ | with_reducible refine use (c3.out _) ?_); intro pw) | (go_at_call 18; (first | with_reducible refine use1 (d3.out _) ?_ | with_reducible refine use (d3.out _) ?_); intro pw) | (go_at_call 19; (first | with_reducible refine use1 (c4.out _) ?_ | with_reducible refine use (c4.out _) ?_); intro pw) | (go_at_call 20; (first | with_reducible refine use1 (d4.out _) ?_ | with_reducible refine use (d4.out _) ?_); intro pw) | (go_at_call 21; (first | with_reducible refine use1 (c5.out _) ?_ | with_reducible refine use (c5.out _) ?_); intro pw) | (go_at_call 22; (first | with_reducible refine use1 (d5.out _) ?_ | with_reducible refine use (d5.out _) ?_); intro pw))
  repeat (
    (first | refine region_quiet1 (by kernel_rfl) ?_ | refine region_quiet (by kernel_rfl) ?_)
    repeat (go_big_quiet_step (first | (go_at_call 12; with_reducible exact quiet (awake01_c _)) | (go_at_call 13; with_reducible exact quiet (c1.out _)) | (go_at_call 14; with_reducible exact quiet (d1.out _)) | (go_at_call 15; with_reducible exact quiet (c2.out _)) | (go_at_call 16; with_reducible exact quiet (d2.out _)) | (go_at_call 17; with_reducible exact quiet (c3.out _)) | (go_at_call 18; with_reducible exact quiet (d3.out _)) | (go_at_call 19; with_reducible exact quiet (c4.out _)) | (go_at_call 20; with_reducible exact quiet (d4.out _)) | (go_at_call 21; with_reducible exact quiet (c5.out _)) | (go_at_call 22; with_reducible exact quiet (d5.out _))))
    refine wpQuiet_nil ?_
    intro _
    go_wp2_with (first | (go_at_call 12; (first | with_reducible refine use1 (awake01_c _) ?_ | with_reducible refine use (awake01_c _) ?_); intro pw) | (go_at_call 13; (first | with_reducible refine use1 (c1.out _) ?_ | with_reducible refine use (c1.out _) ?_); intro pw) | (go_at_call 14; (first | with_reducible refine use1 (d1.out _) ?_ | with_reducible refine use (d1.out _) ?_); intro pw) | (go_at_call 15; (first | with_reducible refine use1 (c2.out _) ?_ | with_reducible refine use (c2.out _) ?_); intro pw) | (go_at_call 16; (first | with_reducible refine use1 (d2.out _) ?_ | with_reducible refine use (d2.out _) ?_); intro pw) | (go_at_call 17; (first | with_reducible refine use1 (c3.out _) ?_ | with_reducible refine use (c3.out _) ?_); intro pw) | (go_at_call 18; (first | with_reducible refine use1 (d3.out _) ?_ | with_reducible refine use (d3.out _) ?_); intro pw) | (go_at_call 19; (first | with_reducible refine use1 (c4.out _) ?_ | with_reducible refine use (c4.out _) ?_); intro pw) | (go_at_call 20; (first | with_reducible refine use1 (d4.out _) ?_ | with_reducible refine use (d4.out _) ?_); intro pw) | (go_at_call 21; (first | with_reducible refine use1 (c5.out _) ?_ | with_reducible refine use (c5.out _) ?_); intro pw) | (go_at_call 22; (first | with_reducible refine use1 (d5.out _) ?_ | with_reducible refine use (d5.out _) ?_); intro pw)))
  go_ret
  exact ⟨rfl, (by repeat (first | exact Below.refl _ _ | refine Below.later ?_ _ | refine Below.box ?_ _ | refine Below.drew ?_ | refine Below.put ?_ (by dsimp only; omega) _))⟩

set_option maxRecDepth 100000 in
theorem lifted (os : Os) (started : os.Started) (H : Type) (enc : TypeId × Value → H) :
    ReturnsInHanded {} Try.checked os 3 .any (Rows.fieldArithmeticSpec.pre6 enc Try.prog Try.f3 Rows.fieldArithmeticRow.domain false) (Rows.fieldArithmeticSpec.post enc Try.prog Try.f3 false true false false) := by
  refine returnsInHanded_of_change (C := Try.checked) own started (by kernel_rfl) Try.func3
    (ChangeSpec.witness6 (enc := enc) (C := Try.checked) false ⟨#[], #[.int .u64 0, .int .u64 0, .int .u64 0], []⟩ 8 (by kernel_rfl) (by kernel_rfl) (by kernel_rfl) (by kernel_rfl)) ?_
  intro W base args ds gs before hval0 hW hcnd _
  have hval : ∀ (j : Nat) t v, Try.f3.params[j]? = some t → args[j]? = some v → Value.okWide Try.prog W .any base t v := hval0
  have hW0 : DataW.Whole enc Try.prog Try.f3.params.toList Rows.fieldArithmeticSpec.vars false W args.toList ds gs before := hW
  obtain ⟨p, q, hA0, hV, rfl, _, _⟩ := hW
  have hA : DataW.TrodAll enc Try.prog W 0 (fun _ => true) true Try.f3.params.toList args.toList ds p := hA0
  rw [Try.params3] at hA hval
  obtain ⟨v0, vs0, d0, ds0, p0, q0, hargs, rfl, rfl, h0, r0⟩ := trodAll_cons hA
  obtain ⟨v1, vs1, d1, ds1, p1, q1, rfl, rfl, rfl, h1, r1⟩ := trodAll_cons r0
  obtain ⟨v2, vs2, d2, ds2, p2, q2, rfl, rfl, rfl, h2, r2⟩ := trodAll_cons r1
  obtain ⟨rfl, rfl, rfl⟩ := trodAll_nil r2
  obtain rfl : args = #[v0, v1, v2] := by cases args; simp_all
  obtain ⟨rfl, rfl⟩ := trodVars_none hV
  obtain ⟨a0, rfl, u0⟩ := open_u64 (hval 0 22 v0 rfl rfl)
  obtain ⟨a1, rfl, u1⟩ := open_u64 (hval 1 22 v1 rfl rfl)
  obtain ⟨a2, rfl, u2⟩ := open_u64 (hval 2 22 v2 rfl rfl)
  clear hA0 hval0
  refine (walk a0 u0 a1 u1 a2 u2 W).mono fun e W' ⟨he, hb⟩ => ⟨.bool true, he, ?_⟩
  exact law_post (fun t ht => by have ht' : t ∈ [22, 22, 22] := ht; simp only [List.mem_cons, List.not_mem_nil, or_false] at ht'; rcases ht' with rfl | rfl | rfl <;> exact ⟨by kernel_rfl, of_decide_eq_true (by kernel_rfl)⟩) rfl rfl hW0 rfl hb

theorem over : Rows.fieldArithmeticRow.holds Try.pinned (OpenSpec.ofChange Rows.fieldArithmeticSpec) :=
  OpenClaim.holds_of_wide 3 Try.f3 rfl rfl rfl rfl rfl rfl rfl ⟨rfl, rfl, rfl, rfl, rfl⟩ rfl rfl rfl rfl rfl (by kernel_rfl) Try.func3 (by kernel_rfl)
    (of_decide_eq_true (by kernel_rfl)) (by unfold Func.isWrapper; first | (rw [if_pos (by decide +kernel)]; kernel_rfl) | (rw [if_neg (by decide +kernel)]; exact ⟨rfl, rfl⟩))
    (fun os started H enc _ => lifted os started H enc)

/-- The statement. -/
theorem proved : Rows.FieldArithmeticSaid := over
#print axioms proved
end Go.Proofs.Yteodakcebeloeaa.fieldArithmetic
