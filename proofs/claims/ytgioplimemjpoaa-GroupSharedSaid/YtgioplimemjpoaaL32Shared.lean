/- GroupShared: for every pair of numbers and every exponent the call returns true: Shared is the specified power of the point. No condition. -/
import Derived.Test.YtgioplimemjpoaaLaw
import Derived.Test.YtgioplimemjpoaaL32a
import Derived.Test.YtgioplimemjpoaaGrp
namespace Go.Proofs.Ytgioplimemjpoaa.groupShared
open Go.ChangeShapes Go.WideShapes Go.ChangeAt Go.RowKit

theorem walk (x y : Int) (hx : U x ∧ U y) (e : Int) (he : U e) (w : World) : Calls Try.prog 4 #[.agg #[.int .u64 x, .int .u64 y], .int .u64 e] w (Gives (.bool true) w) := by
  have hU : U2 (x, y) := hx
  have c1 : Kept (∀ w, Calls Try.prog 14 #[pv (x, y), .int .u64 e] w (Gives (pv (gshared (x, y) e.toNat)) w)) := ⟨fun w => shared_i _ e w hU he⟩
  have c2 : Kept (∀ w, Calls Try.prog 15 #[pv (x, y), .int .u64 e] w (Gives (pv (gshared (x, y) e.toNat)) w)) := ⟨fun w => rshared_i _ e w hU he⟩
  have c3 : Kept (∀ w, Calls Try.prog 13 #[pv (gshared (x, y) e.toNat)] w (Gives (.bool (gvalid (x, y))) w)) := ⟨fun w => by
    have := gvalid_c _ w (gshared_U (x := (x, y)) (e := e.toNat)); rw [gshared_valid hU] at this; exact this⟩
  have c4 : Kept (∀ w, Calls Try.prog 16 #[pv (x, y)] w (Gives (.bool (gvalid (x, y))) w)) := ⟨fun w => rgvalid_c _ w hU⟩
  generalize gshared (x, y) e.toNat = r at *
  generalize gvalid (x, y) = b at *
  obtain ⟨r0, r1⟩ := r
  dsimp only [pv] at *
  clear he hx hU
  go_enter Try.func4, Try.ntmps4
  go_wp2_with fail
  first | refine region_quiet1 (by kernel_rfl) ?_ | refine region_quiet (by kernel_rfl) ?_
  repeat (go_big_quiet_step (first | (go_at_call 11; with_reducible exact quiet (awake32_c _)) | (go_at_call 14; with_reducible exact quiet (c1.out _)) | (go_at_call 15; with_reducible exact quiet (c2.out _)) | (go_at_call 13; with_reducible exact quiet (c3.out _)) | (go_at_call 16; with_reducible exact quiet (c4.out _))))
  refine wpQuiet_nil ?_
  intro _
  go_wp2
  go_ret
  exact ⟨rfl, (by repeat (first | exact Below.refl _ _ | refine Below.later ?_ _ | refine Below.box ?_ _ | refine Below.drew ?_ | refine Below.put ?_ (by dsimp only; omega) _))⟩

set_option maxRecDepth 100000 in
theorem lifted (os : Os) (started : os.Started) (H : Type) (enc : TypeId × Value → H) :
    ReturnsInHanded {} Try.checked os 4 .any (Rows.groupSharedSpec.pre6 enc Try.prog Try.f4 Rows.groupSharedRow.domain false) (Rows.groupSharedSpec.post enc Try.prog Try.f4 false true false false) := by
  refine returnsInHanded_of_change (C := Try.checked) own started (by kernel_rfl) Try.func4
    (ChangeSpec.witness6 (enc := enc) (C := Try.checked) false ⟨#[], #[.agg #[.int .u64 0, .int .u64 0], .int .u64 0], []⟩ 8 (by kernel_rfl) (by kernel_rfl) (by kernel_rfl) (by kernel_rfl)) ?_
  intro W base args ds gs before hval0 hW hcnd _
  have hval : ∀ (j : Nat) t v, Try.f4.params[j]? = some t → args[j]? = some v → Value.okWide Try.prog W .any base t v := hval0
  have hW0 : DataW.Whole enc Try.prog Try.f4.params.toList Rows.groupSharedSpec.vars false W args.toList ds gs before := hW
  obtain ⟨p, q, hA0, hV, rfl, _, _⟩ := hW
  have hA : DataW.TrodAll enc Try.prog W 0 (fun _ => true) true Try.f4.params.toList args.toList ds p := hA0
  rw [Try.params4] at hA hval
  obtain ⟨v0, vs0, d0, ds0, p0, q0, hargs, rfl, rfl, h0, r0⟩ := trodAll_cons hA
  obtain ⟨v1, vs1, d1, ds1, p1, q1, rfl, rfl, rfl, h1, r1⟩ := trodAll_cons r0
  obtain ⟨rfl, rfl, rfl⟩ := trodAll_nil r1
  obtain rfl : args = #[v0, v1] := by cases args; simp_all
  obtain ⟨rfl, rfl⟩ := trodVars_none hV
  obtain ⟨a0x, a0y, rfl, u0⟩ := open_pair (hval 0 23 v0 rfl rfl)
  obtain ⟨a1, rfl, u1⟩ := open_u64 (hval 1 22 v1 rfl rfl)
  clear hA0 hval0
  refine (walk a0x a0y u0 a1 u1 W).mono fun e W' ⟨he, hb⟩ => ⟨.bool true, he, ?_⟩
  exact law_post (fun t ht => by have ht' : t ∈ [23, 22] := ht; simp only [List.mem_cons, List.not_mem_nil, or_false] at ht'; rcases ht' with rfl | rfl <;> exact ⟨by kernel_rfl, of_decide_eq_true (by kernel_rfl)⟩) rfl rfl hW0 rfl hb

theorem over : Rows.groupSharedRow.holds Try.pinned (OpenSpec.ofChange Rows.groupSharedSpec) :=
  OpenClaim.holds_of_wide 4 Try.f4 rfl rfl rfl rfl rfl rfl rfl ⟨rfl, rfl, rfl, rfl, rfl⟩ rfl rfl rfl rfl rfl (by kernel_rfl) Try.func4 (by kernel_rfl)
    (of_decide_eq_true (by kernel_rfl)) (by unfold Func.isWrapper; first | (rw [if_pos (by decide +kernel)]; kernel_rfl) | (rw [if_neg (by decide +kernel)]; exact ⟨rfl, rfl⟩))
    (fun os started H enc _ => lifted os started H enc)

/-- The statement. -/
theorem proved : Rows.GroupSharedSaid := over
#print axioms proved
end Go.Proofs.Ytgioplimemjpoaa.groupShared
