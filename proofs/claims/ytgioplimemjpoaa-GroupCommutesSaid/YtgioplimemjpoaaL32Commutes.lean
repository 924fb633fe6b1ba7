/- GroupCommutes: for every pair of numbers and any two exponents the call returns true: the order of two powers does not matter. No condition. -/
import Derived.Test.YtgioplimemjpoaaLaw
import Derived.Test.YtgioplimemjpoaaL32a
import Derived.Test.YtgioplimemjpoaaGrp
namespace Go.Proofs.Ytgioplimemjpoaa.groupCommutes
open Go.ChangeShapes Go.WideShapes Go.ChangeAt Go.RowKit

theorem walk (x y : Int) (hx : U x ∧ U y) (a : Int) (ha : U a) (b : Int) (hb : U b) (w : World) : Calls Try.prog 7 #[.agg #[.int .u64 x, .int .u64 y], .int .u64 a, .int .u64 b] w (Gives (.bool true) w) := by
  have hU : U2 (x, y) := hx
  have c1 : Kept (∀ w, Calls Try.prog 14 #[pv (x, y), .int .u64 a] w (Gives (pv (gshared (x, y) a.toNat)) w)) := ⟨fun w => shared_i _ a w hU ha⟩
  have c2 : Kept (∀ w, Calls Try.prog 14 #[pv (x, y), .int .u64 b] w (Gives (pv (gshared (x, y) b.toNat)) w)) := ⟨fun w => shared_i _ b w hU hb⟩
  have c3 : Kept (∀ w, Calls Try.prog 14 #[pv (gshared (x, y) a.toNat), .int .u64 b] w (Gives (pv (gshared (gshared (x, y) b.toNat) a.toNat)) w)) := ⟨fun w => by
    have := shared_i _ b w (gshared_U (x := (x, y)) (e := a.toNat)) hb; rw [gshared_comm hU] at this; exact this⟩
  have c4 : Kept (∀ w, Calls Try.prog 14 #[pv (gshared (x, y) b.toNat), .int .u64 a] w (Gives (pv (gshared (gshared (x, y) b.toNat) a.toNat)) w)) := ⟨fun w => shared_i _ a w gshared_U ha⟩
  generalize gshared (gshared (x, y) b.toNat) a.toNat = s at *
  generalize gshared (x, y) a.toNat = r at *
  generalize gshared (x, y) b.toNat = q at *
  obtain ⟨r0, r1⟩ := r
  obtain ⟨q0, q1⟩ := q
  obtain ⟨s0, s1⟩ := s
  dsimp only [pv] at *
  clear ha hb hx hU
  go_enter Try.func7, Try.ntmps7
  go_wp2_with fail
  first | refine region_quiet1 (by kernel_rfl) ?_ | refine region_quiet (by kernel_rfl) ?_
  repeat (go_big_quiet_step (first | (go_at_call 11; with_reducible exact quiet (awake32_c _)) | (go_at_call 14; with_reducible exact quiet (c1.out _)) | (go_at_call 14; with_reducible exact quiet (c2.out _)) | (go_at_call 14; with_reducible exact quiet (c3.out _)) | (go_at_call 14; with_reducible exact quiet (c4.out _))))
  refine wpQuiet_nil ?_
  intro _
  go_wp2
  go_ret
  exact ⟨rfl, (by repeat (first | exact Below.refl _ _ | refine Below.later ?_ _ | refine Below.box ?_ _ | refine Below.drew ?_ | refine Below.put ?_ (by dsimp only; omega) _))⟩

set_option maxRecDepth 100000 in
theorem lifted (os : Os) (started : os.Started) (H : Type) (enc : TypeId × Value → H) :
    ReturnsInHanded {} Try.checked os 7 .any (Rows.groupCommutesSpec.pre6 enc Try.prog Try.f7 Rows.groupCommutesRow.domain false) (Rows.groupCommutesSpec.post enc Try.prog Try.f7 false true false false) := by
  refine returnsInHanded_of_change (C := Try.checked) own started (by kernel_rfl) Try.func7
    (ChangeSpec.witness6 (enc := enc) (C := Try.checked) false ⟨#[], #[.agg #[.int .u64 0, .int .u64 0], .int .u64 0, .int .u64 0], []⟩ 8 (by kernel_rfl) (by kernel_rfl) (by kernel_rfl) (by kernel_rfl)) ?_
  intro W base args ds gs before hval0 hW hcnd _
  have hval : ∀ (j : Nat) t v, Try.f7.params[j]? = some t → args[j]? = some v → Value.okWide Try.prog W .any base t v := hval0
  have hW0 : DataW.Whole enc Try.prog Try.f7.params.toList Rows.groupCommutesSpec.vars false W args.toList ds gs before := hW
  obtain ⟨p, q, hA0, hV, rfl, _, _⟩ := hW
  have hA : DataW.TrodAll enc Try.prog W 0 (fun _ => true) true Try.f7.params.toList args.toList ds p := hA0
  rw [Try.params7] at hA hval
  obtain ⟨v0, vs0, d0, ds0, p0, q0, hargs, rfl, rfl, h0, r0⟩ := trodAll_cons hA
  obtain ⟨v1, vs1, d1, ds1, p1, q1, rfl, rfl, rfl, h1, r1⟩ := trodAll_cons r0
  obtain ⟨v2, vs2, d2, ds2, p2, q2, rfl, rfl, rfl, h2, r2⟩ := trodAll_cons r1
  obtain ⟨rfl, rfl, rfl⟩ := trodAll_nil r2
  obtain rfl : args = #[v0, v1, v2] := by cases args; simp_all
  obtain ⟨rfl, rfl⟩ := trodVars_none hV
  obtain ⟨a0x, a0y, rfl, u0⟩ := open_pair (hval 0 23 v0 rfl rfl)
  obtain ⟨a1, rfl, u1⟩ := open_u64 (hval 1 22 v1 rfl rfl)
  obtain ⟨a2, rfl, u2⟩ := open_u64 (hval 2 22 v2 rfl rfl)
  clear hA0 hval0
  refine (walk a0x a0y u0 a1 u1 a2 u2 W).mono fun e W' ⟨he, hb⟩ => ⟨.bool true, he, ?_⟩
  exact law_post (fun t ht => by have ht' : t ∈ [23, 22, 22] := ht; simp only [List.mem_cons, List.not_mem_nil, or_false] at ht'; rcases ht' with rfl | rfl | rfl <;> exact ⟨by kernel_rfl, of_decide_eq_true (by kernel_rfl)⟩) rfl rfl hW0 rfl hb

theorem over : Rows.groupCommutesRow.holds Try.pinned (OpenSpec.ofChange Rows.groupCommutesSpec) :=
  OpenClaim.holds_of_wide 7 Try.f7 rfl rfl rfl rfl rfl rfl rfl ⟨rfl, rfl, rfl, rfl, rfl⟩ rfl rfl rfl rfl rfl (by kernel_rfl) Try.func7 (by kernel_rfl)
    (of_decide_eq_true (by kernel_rfl)) (by unfold Func.isWrapper; first | (rw [if_pos (by decide +kernel)]; kernel_rfl) | (rw [if_neg (by decide +kernel)]; exact ⟨rfl, rfl⟩))
    (fun os started H enc _ => lifted os started H enc)

/-- The statement. -/
theorem proved : Rows.GroupCommutesSaid := over
#print axioms proved
end Go.Proofs.Ytgioplimemjpoaa.groupCommutes
