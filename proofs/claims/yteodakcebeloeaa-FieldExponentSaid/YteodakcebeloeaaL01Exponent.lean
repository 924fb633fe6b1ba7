/- FieldExponent: for any known prime and any two numbers the call returns true: raising to the exponent is injective. No condition. -/
import Derived.Test.YteodakcebeloeaaLaw
import Derived.Test.YteodakcebeloeaaBig
import Derived.Test.YteodakcebeloeaaL01a
namespace Go.Proofs.Yteodakcebeloeaa.fieldExponent
open Go.ChangeShapes Go.WideShapes Go.ChangeAt Go.RowKit

/-- An exponent that undoes another: their product is 1 more than a multiple of p - 1. -/
theorem undo {p : Int} (h : vld p = true) (x : Int) (m k : Nat) (hm : m = (p - 1).toNat * k + 1) : x ^ m % p = x % p := by
  have hp := vld_pos h
  by_cases h0 : x % p = 0
  · rw [hm, Int.pow_succ, ← em_mul_r, h0, Int.mul_zero, Int.zero_emod]
  · rw [hm, Int.pow_succ, Int.pow_mul, ← em_mul_l, ← em_pow (x ^ (p - 1).toNat) p k, fermat h x h0, Int.one_pow]
    rw [em_mul_l, Int.one_mul]
theorem expo_undo {p : Int} (h : vld p = true) : ∃ d k : Nat, (expo p).toNat * d = (p - 1).toNat * k + 1 := by
  rcases vld_cases h with h | h | h | h | h | h | h <;> subst h
  · exact ⟨11, 2, by decide⟩
  · exact ⟨77, 4, by decide⟩
  · exact ⟨77, 2, by decide⟩
  · exact ⟨171, 2, by decide⟩
  · exact ⟨7373, 3, by decide⟩
  · exact ⟨43691, 2, by decide⟩
  · exact ⟨10540996611094048183, 4, by decide⟩
theorem expo_inj {p : Int} (h : vld p = true) (a b : Int) : (fpow p a (expo p).toNat = fpow p b (expo p).toNat) ↔ (fred p a = fred p b) := by
  obtain ⟨d, k, hd⟩ := expo_undo h
  simp only [fpow, fred, h, if_true]
  constructor
  · intro he
    rw [← undo h a _ k hd, ← undo h b _ k hd, Int.pow_mul, Int.pow_mul, ← em_pow, he, em_pow]
  · intro he
    rw [← em_pow, he, em_pow]

theorem walk (n : Int) (hn : 0 ≤ n ∧ n ≤ 255) (a : Int) (ha : U a) (b : Int) (hb : U b) (w : World) : Calls Try.prog 8 #[.int .u8 n, .int .u64 a, .int .u64 b] w (Gives (.bool true) w) := by
  have c0 : Kept (∀ w, Calls Try.prog 27 #[.int .u8 n] w (Gives (.int .u64 (primeOf n)) w)) := ⟨fun w => prime_c n w hn.1 hn.2⟩
  have hv := prime_valid n
  generalize primeOf n = p at *
  have hUe : U (expo p) := by
    rcases vld_cases hv with h | h | h | h | h | h | h <;> subst h <;> exact ⟨by decide, by decide⟩
  have c1 : Kept (∀ w, Calls Try.prog 30 #[.agg #[.int .u64 p]] w (Gives (.int .u64 (expo p)) w)) := ⟨fun w => expo_c p w⟩
  have c2 : Kept (∀ w, Calls Try.prog 23 #[.agg #[.int .u64 p], .int .u64 a, .int .u64 (expo p)] w (Gives (.int .u64 (fpow p a (expo p).toNat)) w)) := ⟨fun w => pow_c p a _ w ha hUe⟩
  have c3 : Kept (∀ w, Calls Try.prog 23 #[.agg #[.int .u64 p], .int .u64 b, .int .u64 (expo p)] w (Gives (.int .u64 (fpow p b (expo p).toNat)) w)) := ⟨fun w => pow_c p b _ w hb hUe⟩
  have c4 : Kept (∀ w, Calls Try.prog 13 #[.agg #[.int .u64 p], .int .u64 a] w (Gives (.int .u64 (fred p a)) w)) := ⟨fun w => red_c p a w ha⟩
  have c5 : Kept (∀ w, Calls Try.prog 13 #[.agg #[.int .u64 p], .int .u64 b] w (Gives (.int .u64 (fred p b)) w)) := ⟨fun w => red_c p b w hb⟩
  have hi : Kept ((fpow p a (expo p).toNat == fpow p b (expo p).toNat) = (fred p a == fred p b)) := ⟨by
    rw [Bool.eq_iff_iff, beq_iff_eq, beq_iff_eq]; exact expo_inj hv a b⟩
  generalize fpow p a (expo p).toNat = x1 at *
  generalize fpow p b (expo p).toNat = x2 at *
  generalize fred p a = x3 at *
  generalize fred p b = x4 at *
  generalize expo p = x5 at *
  clear ha hb hv hUe
  have hi' := hi.out
  go_enter Try.func8, Try.ntmps8
  go_wp2_with (first | (go_at_call 12; (first | with_reducible refine use1 (awake01_c _) ?_ | with_reducible refine use (awake01_c _) ?_); intro pw) | (go_at_call 27; (first | with_reducible refine use1 (c0.out _) ?_ | with_reducible refine use (c0.out _) ?_); intro pw) | (go_at_call 30; (first | with_reducible refine use1 (c1.out _) ?_ | with_reducible refine use (c1.out _) ?_); intro pw) | (go_at_call 23; (first | with_reducible refine use1 (c2.out _) ?_ | with_reducible refine use (c2.out _) ?_); intro pw) | (go_at_call 23; (first | with_reducible refine use1 (c3.out _) ?_ | with_reducible refine use (c3.out _) ?_); intro pw) | (go_at_call 13; (first | with_reducible refine use1 (c4.out _) ?_ | with_reducible refine use (c4.out _) ?_); intro pw) | (go_at_call 13; (first | with_reducible refine use1 (c5.out _) ?_ | with_reducible refine use (c5.out _) ?_); intro pw))
  repeat (
    (first | refine region_quiet1 (by kernel_rfl) ?_ | refine region_quiet (by kernel_rfl) ?_)
    repeat (go_big_quiet_step (first | (go_at_call 12; with_reducible exact quiet (awake01_c _)) | (go_at_call 27; with_reducible exact quiet (c0.out _)) | (go_at_call 30; with_reducible exact quiet (c1.out _)) | (go_at_call 23; with_reducible exact quiet (c2.out _)) | (go_at_call 23; with_reducible exact quiet (c3.out _)) | (go_at_call 13; with_reducible exact quiet (c4.out _)) | (go_at_call 13; with_reducible exact quiet (c5.out _))))
    refine wpQuiet_nil ?_
    intro _
    go_wp2_with (first | (go_at_call 12; (first | with_reducible refine use1 (awake01_c _) ?_ | with_reducible refine use (awake01_c _) ?_); intro pw) | (go_at_call 27; (first | with_reducible refine use1 (c0.out _) ?_ | with_reducible refine use (c0.out _) ?_); intro pw) | (go_at_call 30; (first | with_reducible refine use1 (c1.out _) ?_ | with_reducible refine use (c1.out _) ?_); intro pw) | (go_at_call 23; (first | with_reducible refine use1 (c2.out _) ?_ | with_reducible refine use (c2.out _) ?_); intro pw) | (go_at_call 23; (first | with_reducible refine use1 (c3.out _) ?_ | with_reducible refine use (c3.out _) ?_); intro pw) | (go_at_call 13; (first | with_reducible refine use1 (c4.out _) ?_ | with_reducible refine use (c4.out _) ?_); intro pw) | (go_at_call 13; (first | with_reducible refine use1 (c5.out _) ?_ | with_reducible refine use (c5.out _) ?_); intro pw)))
  go_ret
  exact ⟨by simp, (by repeat (first | exact Below.refl _ _ | refine Below.later ?_ _ | refine Below.box ?_ _ | refine Below.drew ?_ | refine Below.put ?_ (by dsimp only; omega) _))⟩

set_option maxRecDepth 100000 in
theorem lifted (os : Os) (started : os.Started) (H : Type) (enc : TypeId × Value → H) :
    ReturnsInHanded {} Try.checked os 8 .any (Rows.fieldExponentSpec.pre6 enc Try.prog Try.f8 Rows.fieldExponentRow.domain false) (Rows.fieldExponentSpec.post enc Try.prog Try.f8 false true false false) := by
  refine returnsInHanded_of_change (C := Try.checked) own started (by kernel_rfl) Try.func8
    (ChangeSpec.witness6 (enc := enc) (C := Try.checked) false ⟨#[], #[.int .u8 0, .int .u64 0, .int .u64 0], []⟩ 8 (by kernel_rfl) (by kernel_rfl) (by kernel_rfl) (by kernel_rfl)) ?_
  intro W base args ds gs before hval0 hW hcnd _
  have hval : ∀ (j : Nat) t v, Try.f8.params[j]? = some t → args[j]? = some v → Value.okWide Try.prog W .any base t v := hval0
  have hW0 : DataW.Whole enc Try.prog Try.f8.params.toList Rows.fieldExponentSpec.vars false W args.toList ds gs before := hW
  obtain ⟨p, q, hA0, hV, rfl, _, _⟩ := hW
  have hA : DataW.TrodAll enc Try.prog W 0 (fun _ => true) true Try.f8.params.toList args.toList ds p := hA0
  rw [Try.params8] at hA hval
  obtain ⟨v0, vs0, d0, ds0, p0, q0, hargs, rfl, rfl, h0, r0⟩ := trodAll_cons hA
  obtain ⟨v1, vs1, d1, ds1, p1, q1, rfl, rfl, rfl, h1, r1⟩ := trodAll_cons r0
  obtain ⟨v2, vs2, d2, ds2, p2, q2, rfl, rfl, rfl, h2, r2⟩ := trodAll_cons r1
  obtain ⟨rfl, rfl, rfl⟩ := trodAll_nil r2
  obtain rfl : args = #[v0, v1, v2] := by cases args; simp_all
  obtain ⟨rfl, rfl⟩ := trodVars_none hV
  obtain ⟨a0, rfl, u0⟩ := open_u8 (hval 0 5 v0 rfl rfl)
  obtain ⟨a1, rfl, u1⟩ := open_u64 (hval 1 22 v1 rfl rfl)
  obtain ⟨a2, rfl, u2⟩ := open_u64 (hval 2 22 v2 rfl rfl)
  clear hA0 hval0
  refine (walk a0 u0 a1 u1 a2 u2 W).mono fun e W' ⟨he, hb⟩ => ⟨.bool true, he, ?_⟩
  exact law_post (fun t ht => by have ht' : t ∈ [5, 22, 22] := ht; simp only [List.mem_cons, List.not_mem_nil, or_false] at ht'; rcases ht' with rfl | rfl | rfl <;> exact ⟨by kernel_rfl, of_decide_eq_true (by kernel_rfl)⟩) rfl rfl hW0 rfl hb

theorem over : Rows.fieldExponentRow.holds Try.pinned (OpenSpec.ofChange Rows.fieldExponentSpec) :=
  OpenClaim.holds_of_wide 8 Try.f8 rfl rfl rfl rfl rfl rfl rfl ⟨rfl, rfl, rfl, rfl, rfl⟩ rfl rfl rfl rfl rfl (by kernel_rfl) Try.func8 (by kernel_rfl)
    (of_decide_eq_true (by kernel_rfl)) (by unfold Func.isWrapper; first | (rw [if_pos (by decide +kernel)]; kernel_rfl) | (rw [if_neg (by decide +kernel)]; exact ⟨rfl, rfl⟩))
    (fun os started H enc _ => lifted os started H enc)

/-- The statement. -/
theorem proved : Rows.FieldExponentSaid := over
#print axioms proved
end Go.Proofs.Yteodakcebeloeaa.fieldExponent
