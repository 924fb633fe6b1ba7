/- GroupAgreement: for any two exponents the call returns true: both parties compute the same point. No condition. -/
import Derived.Test.YtgioplimemjpoaaLaw
import Derived.Test.YtgioplimemjpoaaL32a
import Derived.Test.YtgioplimemjpoaaGrp
namespace Go.Proofs.Ytgioplimemjpoaa.groupAgreement
open Go.ChangeShapes Go.WideShapes Go.ChangeAt Go.RowKit

theorem walk (a : Int) (ha : U a) (b : Int) (hb : U b) (w : World) : Calls Try.prog 6 #[.int .u64 a, .int .u64 b] w (Gives (.bool true) w) := by
  have c1 : Kept (∀ w, Calls Try.prog 10 #[.int .u64 a] w (Gives (pv (gpow (2, 1) a.toNat)) w)) := ⟨fun w => public_i a w ha⟩
  have c2 : Kept (∀ w, Calls Try.prog 10 #[.int .u64 b] w (Gives (pv (gpow (2, 1) b.toNat)) w)) := ⟨fun w => public_i b w hb⟩
  have c3 : Kept (∀ w, Calls Try.prog 14 #[pv (gpow (2, 1) a.toNat), .int .u64 b] w (Gives (pv (gshared (gpow (2, 1) b.toNat) a.toNat)) w)) := ⟨fun w => by
    have := shared_i _ b w (gpow_U (x := (2, 1)) (e := a.toNat)) hb; rw [gpow_agree] at this; exact this⟩
  have c4 : Kept (∀ w, Calls Try.prog 14 #[pv (gpow (2, 1) b.toNat), .int .u64 a] w (Gives (pv (gshared (gpow (2, 1) b.toNat) a.toNat)) w)) := ⟨fun w => shared_i _ a w gpow_U ha⟩
  generalize gshared (gpow (2, 1) b.toNat) a.toNat = s at *
  generalize gpow (2, 1) a.toNat = r at *
  generalize gpow (2, 1) b.toNat = q at *
  obtain ⟨r0, r1⟩ := r
  obtain ⟨q0, q1⟩ := q
  obtain ⟨s0, s1⟩ := s
  dsimp only [pv] at *
  clear ha hb
  go_enter Try.func6, Try.ntmps6
  go_wp2_with (first | (go_at_call 11; (first | with_reducible refine use1 (awake32_c _) ?_ | with_reducible refine use (awake32_c _) ?_); intro pw) | (go_at_call 10; (first | with_reducible refine use1 (c1.out _) ?_ | with_reducible refine use (c1.out _) ?_); intro pw) | (go_at_call 10; (first | with_reducible refine use1 (c2.out _) ?_ | with_reducible refine use (c2.out _) ?_); intro pw) | (go_at_call 14; (first | with_reducible refine use1 (c3.out _) ?_ | with_reducible refine use (c3.out _) ?_); intro pw) | (go_at_call 14; (first | with_reducible refine use1 (c4.out _) ?_ | with_reducible refine use (c4.out _) ?_); intro pw))
  go_ret
  exact ⟨rfl, (by repeat (first | exact Below.refl _ _ | refine Below.later ?_ _ | refine Below.box ?_ _ | refine Below.drew ?_ | refine Below.put ?_ (by dsimp only; omega) _))⟩

set_option maxRecDepth 100000 in
theorem lifted (os : Os) (started : os.Started) (H : Type) (enc : TypeId × Value → H) :
    ReturnsInHanded {} Try.checked os 6 .any (Rows.groupAgreementSpec.pre6 enc Try.prog Try.f6 Rows.groupAgreementRow.domain false) (Rows.groupAgreementSpec.post enc Try.prog Try.f6 false true false false) := by
  refine returnsInHanded_of_change (C := Try.checked) own started (by kernel_rfl) Try.func6
    (ChangeSpec.witness6 (enc := enc) (C := Try.checked) false ⟨#[], #[.int .u64 0, .int .u64 0], []⟩ 8 (by kernel_rfl) (by kernel_rfl) (by kernel_rfl) (by kernel_rfl)) ?_
  intro W base args ds gs before hval0 hW hcnd _
  have hval : ∀ (j : Nat) t v, Try.f6.params[j]? = some t → args[j]? = some v → Value.okWide Try.prog W .any base t v := hval0
  have hW0 : DataW.Whole enc Try.prog Try.f6.params.toList Rows.groupAgreementSpec.vars false W args.toList ds gs before := hW
  obtain ⟨p, q, hA0, hV, rfl, _, _⟩ := hW
  have hA : DataW.TrodAll enc Try.prog W 0 (fun _ => true) true Try.f6.params.toList args.toList ds p := hA0
  rw [Try.params6] at hA hval
  obtain ⟨v0, vs0, d0, ds0, p0, q0, hargs, rfl, rfl, h0, r0⟩ := trodAll_cons hA
  obtain ⟨v1, vs1, d1, ds1, p1, q1, rfl, rfl, rfl, h1, r1⟩ := trodAll_cons r0
  obtain ⟨rfl, rfl, rfl⟩ := trodAll_nil r1
  obtain rfl : args = #[v0, v1] := by cases args; simp_all
  obtain ⟨rfl, rfl⟩ := trodVars_none hV
  obtain ⟨a0, rfl, u0⟩ := open_u64 (hval 0 22 v0 rfl rfl)
  obtain ⟨a1, rfl, u1⟩ := open_u64 (hval 1 22 v1 rfl rfl)
  clear hA0 hval0
  refine (walk a0 u0 a1 u1 W).mono fun e W' ⟨he, hb⟩ => ⟨.bool true, he, ?_⟩
  exact law_post (fun t ht => by have ht' : t ∈ [22, 22] := ht; simp only [List.mem_cons, List.not_mem_nil, or_false] at ht'; rcases ht' with rfl | rfl <;> exact ⟨by kernel_rfl, of_decide_eq_true (by kernel_rfl)⟩) rfl rfl hW0 rfl hb

theorem over : Rows.groupAgreementRow.holds Try.pinned (OpenSpec.ofChange Rows.groupAgreementSpec) :=
  OpenClaim.holds_of_wide 6 Try.f6 rfl rfl rfl rfl rfl rfl rfl ⟨rfl, rfl, rfl, rfl, rfl⟩ rfl rfl rfl rfl rfl (by kernel_rfl) Try.func6 (by kernel_rfl)
    (of_decide_eq_true (by kernel_rfl)) (by unfold Func.isWrapper; first | (rw [if_pos (by decide +kernel)]; kernel_rfl) | (rw [if_neg (by decide +kernel)]; exact ⟨rfl, rfl⟩))
    (fun os started H enc _ => lifted os started H enc)

/-- The statement. -/
theorem proved : Rows.GroupAgreementSaid := over
#print axioms proved
end Go.Proofs.Ytgioplimemjpoaa.groupAgreement
