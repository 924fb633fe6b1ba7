/- GroupOrder: for every pair of numbers the call returns true: a valid point to the power Big - 1 and then Big + 1 is 1. No condition. -/
import Derived.Test.YtgioplimemjpoaaLaw
import Derived.Test.YtgioplimemjpoaaL32a
import Derived.Test.YtgioplimemjpoaaGrp
namespace Go.Proofs.Ytgioplimemjpoaa.groupOrder
open Go.ChangeShapes Go.WideShapes Go.ChangeAt Go.RowKit

theorem walk (x y : Int) (hx : U x ∧ U y) (w : World) : Calls Try.prog 9 #[.agg #[.int .u64 x, .int .u64 y]] w (Gives (.bool true) w) := by
  have hU : U2 (x, y) := hx
  have c0 : Kept (∀ w, Calls Try.prog 16 #[pv (x, y)] w (Gives (.bool (gvalid (x, y))) w)) := ⟨fun w => rgvalid_c _ w hU⟩
  cases hv : gvalid (x, y)
  · rw [hv] at c0
    dsimp only [pv] at *
    clear hx hU hv
    go_enter Try.func9, Try.ntmps9
    go_wp2_with (first | (go_at_call 11; (first | with_reducible refine use1 (awake32_c _) ?_ | with_reducible refine use (awake32_c _) ?_); intro pw) | (go_at_call 16; (first | with_reducible refine use1 (c0.out _) ?_ | with_reducible refine use (c0.out _) ?_); intro pw))
    go_ret
    exact ⟨rfl, (by repeat (first | exact Below.refl _ _ | refine Below.later ?_ _ | refine Below.box ?_ _ | refine Below.drew ?_ | refine Below.put ?_ (by dsimp only; omega) _))⟩
  · rw [hv] at c0
    have c1 : Kept (∀ w, Calls Try.prog 14 #[pv (x, y), .int .u64 18446744069414584320] w (Gives (pv (gshared (x, y) 18446744069414584320)) w)) := ⟨fun w => shared_i _ 18446744069414584320 w hU ⟨by decide, by decide⟩⟩
    have c2 : Kept (∀ w, Calls Try.prog 14 #[pv (gshared (x, y) 18446744069414584320), .int .u64 18446744069414584322] w (Gives (.agg #[.int .u64 1, .int .u64 0]) w)) := ⟨fun w => by
      have := shared_i _ 18446744069414584322 w (gshared_U (x := (x, y)) (e := 18446744069414584320)) ⟨by decide, by decide⟩
      rw [show (18446744069414584322 : Int).toNat = 18446744069414584322 from rfl, gshared_order hU hv] at this; exact this⟩
    generalize gshared (x, y) 18446744069414584320 = r at *
    obtain ⟨r0, r1⟩ := r
    dsimp only [pv] at *
    clear hx hU hv
    go_enter Try.func9, Try.ntmps9
    go_wp2_with (first | (go_at_call 11; (first | with_reducible refine use1 (awake32_c _) ?_ | with_reducible refine use (awake32_c _) ?_); intro pw) | (go_at_call 16; (first | with_reducible refine use1 (c0.out _) ?_ | with_reducible refine use (c0.out _) ?_); intro pw) | (go_at_call 14; (first | with_reducible refine use1 (c1.out _) ?_ | with_reducible refine use (c1.out _) ?_); intro pw) | (go_at_call 14; (first | with_reducible refine use1 (c2.out _) ?_ | with_reducible refine use (c2.out _) ?_); intro pw))
    go_ret
    exact ⟨rfl, (by repeat (first | exact Below.refl _ _ | refine Below.later ?_ _ | refine Below.box ?_ _ | refine Below.drew ?_ | refine Below.put ?_ (by dsimp only; omega) _))⟩

set_option maxRecDepth 100000 in
theorem lifted (os : Os) (started : os.Started) (H : Type) (enc : TypeId × Value → H) :
    ReturnsInHanded {} Try.checked os 9 .any (Rows.groupOrderSpec.pre6 enc Try.prog Try.f9 Rows.groupOrderRow.domain false) (Rows.groupOrderSpec.post enc Try.prog Try.f9 false true false false) := by
  refine returnsInHanded_of_change (C := Try.checked) own started (by kernel_rfl) Try.func9
    (ChangeSpec.witness6 (enc := enc) (C := Try.checked) false ⟨#[], #[.agg #[.int .u64 0, .int .u64 0]], []⟩ 8 (by kernel_rfl) (by kernel_rfl) (by kernel_rfl) (by kernel_rfl)) ?_
  intro W base args ds gs before hval0 hW hcnd _
  have hval : ∀ (j : Nat) t v, Try.f9.params[j]? = some t → args[j]? = some v → Value.okWide Try.prog W .any base t v := hval0
  have hW0 : DataW.Whole enc Try.prog Try.f9.params.toList Rows.groupOrderSpec.vars false W args.toList ds gs before := hW
  obtain ⟨p, q, hA0, hV, rfl, _, _⟩ := hW
  have hA : DataW.TrodAll enc Try.prog W 0 (fun _ => true) true Try.f9.params.toList args.toList ds p := hA0
  rw [Try.params9] at hA hval
  obtain ⟨v0, vs0, d0, ds0, p0, q0, hargs, rfl, rfl, h0, r0⟩ := trodAll_cons hA
  obtain ⟨rfl, rfl, rfl⟩ := trodAll_nil r0
  obtain rfl : args = #[v0] := by cases args; simp_all
  obtain ⟨rfl, rfl⟩ := trodVars_none hV
  obtain ⟨a0x, a0y, rfl, u0⟩ := open_pair (hval 0 23 v0 rfl rfl)
  clear hA0 hval0
  refine (walk a0x a0y u0 W).mono fun e W' ⟨he, hb⟩ => ⟨.bool true, he, ?_⟩
  exact law_post (fun t ht => by have ht' : t ∈ [23] := ht; simp only [List.mem_cons, List.not_mem_nil, or_false] at ht'; rcases ht' with rfl <;> exact ⟨by kernel_rfl, of_decide_eq_true (by kernel_rfl)⟩) rfl rfl hW0 rfl hb

theorem over : Rows.groupOrderRow.holds Try.pinned (OpenSpec.ofChange Rows.groupOrderSpec) :=
  OpenClaim.holds_of_wide 9 Try.f9 rfl rfl rfl rfl rfl rfl rfl ⟨rfl, rfl, rfl, rfl, rfl⟩ rfl rfl rfl rfl rfl (by kernel_rfl) Try.func9 (by kernel_rfl)
    (of_decide_eq_true (by kernel_rfl)) (by unfold Func.isWrapper; first | (rw [if_pos (by decide +kernel)]; kernel_rfl) | (rw [if_neg (by decide +kernel)]; exact ⟨rfl, rfl⟩))
    (fun os started H enc _ => lifted os started H enc)

/-- The statement. -/
theorem proved : Rows.GroupOrderSaid := over
#print axioms proved
end Go.Proofs.Ytgioplimemjpoaa.groupOrder
