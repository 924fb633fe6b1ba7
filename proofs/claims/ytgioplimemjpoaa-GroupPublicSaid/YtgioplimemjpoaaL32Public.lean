/- GroupPublic: for every exponent the call returns true: Public is the specified power of the base point, which is a valid point. No condition. -/
import Derived.Test.YtgioplimemjpoaaLaw
import Derived.Test.YtgioplimemjpoaaL32a
import Derived.Test.YtgioplimemjpoaaGrp
namespace Go.Proofs.Ytgioplimemjpoaa.groupPublic
open Go.ChangeShapes Go.WideShapes Go.ChangeAt Go.RowKit

theorem walk (a : Int) (ha : U a) (w : World) : Calls Try.prog 3 #[.int .u64 a] w (Gives (.bool true) w) := by
  have hB := big_of ha
  obtain ⟨e, rfl⟩ := Int.eq_ofNat_of_zero_le ha.1
  rw [Int.toNat_natCast] at hB
  have c1 : Kept (∀ w, Calls Try.prog 10 #[.int .u64 e] w (Gives (pv (gpow (2, 1) e)) w)) := ⟨fun w => public_c e w hB⟩
  have c2 : Kept (∀ w, Calls Try.prog 12 #[.int .u64 e] w (Gives (pv (gpow (2, 1) e)) w)) := ⟨fun w => rpublic_c e w hB⟩
  have c3 : Kept (∀ w, Calls Try.prog 13 #[pv (gpow (2, 1) e)] w (Gives (.bool true) w)) := ⟨fun w => by
    have := gvalid_c _ w (gpow_U (x := (2, 1)) (e := e)); rw [gvalid_pow base_U base_valid] at this; exact this⟩
  generalize gpow (2, 1) e = r at *
  obtain ⟨r0, r1⟩ := r
  dsimp only [pv] at *
  clear ha
  go_enter Try.func3, Try.ntmps3
  go_wp2_with (first | (go_at_call 10; (first | with_reducible refine use1 (c1.out _) ?_ | with_reducible refine use (c1.out _) ?_); intro pw))
  first | refine region_quiet1 (by kernel_rfl) ?_ | refine region_quiet (by kernel_rfl) ?_
  repeat (go_big_quiet_step (first | (go_at_call 11; with_reducible exact quiet (awake32_c _)) | (go_at_call 12; with_reducible exact quiet (c2.out _)) | (go_at_call 13; with_reducible exact quiet (c3.out _))))
  refine wpQuiet_nil ?_
  intro _
  go_wp2
  go_ret
  exact ⟨rfl, (by repeat (first | exact Below.refl _ _ | refine Below.later ?_ _ | refine Below.box ?_ _ | refine Below.drew ?_ | refine Below.put ?_ (by dsimp only; omega) _))⟩

set_option maxRecDepth 100000 in
theorem lifted (os : Os) (started : os.Started) (H : Type) (enc : TypeId × Value → H) :
    ReturnsInHanded {} Try.checked os 3 .any (Rows.groupPublicSpec.pre6 enc Try.prog Try.f3 Rows.groupPublicRow.domain false) (Rows.groupPublicSpec.post enc Try.prog Try.f3 false true false false) := by
  refine returnsInHanded_of_change (C := Try.checked) own started (by kernel_rfl) Try.func3
    (ChangeSpec.witness6 (enc := enc) (C := Try.checked) false ⟨#[], #[.int .u64 0], []⟩ 8 (by kernel_rfl) (by kernel_rfl) (by kernel_rfl) (by kernel_rfl)) ?_
  intro W base args ds gs before hval0 hW hcnd _
  have hval : ∀ (j : Nat) t v, Try.f3.params[j]? = some t → args[j]? = some v → Value.okWide Try.prog W .any base t v := hval0
  have hW0 : DataW.Whole enc Try.prog Try.f3.params.toList Rows.groupPublicSpec.vars false W args.toList ds gs before := hW
  obtain ⟨p, q, hA0, hV, rfl, _, _⟩ := hW
  have hA : DataW.TrodAll enc Try.prog W 0 (fun _ => true) true Try.f3.params.toList args.toList ds p := hA0
  rw [Try.params3] at hA hval
  obtain ⟨v0, vs0, d0, ds0, p0, q0, hargs, rfl, rfl, h0, r0⟩ := trodAll_cons hA
  obtain ⟨rfl, rfl, rfl⟩ := trodAll_nil r0
  obtain rfl : args = #[v0] := by cases args; simp_all
  obtain ⟨rfl, rfl⟩ := trodVars_none hV
  obtain ⟨a0, rfl, u0⟩ := open_u64 (hval 0 22 v0 rfl rfl)
  clear hA0 hval0
  refine (walk a0 u0 W).mono fun e W' ⟨he, hb⟩ => ⟨.bool true, he, ?_⟩
  exact law_post (fun t ht => by have ht' : t ∈ [22] := ht; simp only [List.mem_cons, List.not_mem_nil, or_false] at ht'; rcases ht' with rfl <;> exact ⟨by kernel_rfl, of_decide_eq_true (by kernel_rfl)⟩) rfl rfl hW0 rfl hb

theorem over : Rows.groupPublicRow.holds Try.pinned (OpenSpec.ofChange Rows.groupPublicSpec) :=
  OpenClaim.holds_of_wide 3 Try.f3 rfl rfl rfl rfl rfl rfl rfl ⟨rfl, rfl, rfl, rfl, rfl⟩ rfl rfl rfl rfl rfl (by kernel_rfl) Try.func3 (by kernel_rfl)
    (of_decide_eq_true (by kernel_rfl)) (by unfold Func.isWrapper; first | (rw [if_pos (by decide +kernel)]; kernel_rfl) | (rw [if_neg (by decide +kernel)]; exact ⟨rfl, rfl⟩))
    (fun os started H enc _ => lifted os started H enc)

/-- The statement. -/
theorem proved : Rows.GroupPublicSaid := over
#print axioms proved
end Go.Proofs.Ytgioplimemjpoaa.groupPublic
