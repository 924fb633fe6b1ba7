/- FieldAxioms: for any known prime and any three numbers the call returns true: the operations are associative, commutative and distributive. No condition. -/
import Derived.Test.YteodakcebeloeaaLaw
import Derived.Test.YteodakcebeloeaaBig
import Derived.Test.YteodakcebeloeaaL01a
namespace Go.Proofs.Yteodakcebeloeaa.fieldAxioms
open Go.ChangeShapes Go.WideShapes Go.ChangeAt Go.RowKit

variable {p : Int} (h : vld p = true)
include h
theorem add_assoc (a b c : Int) : fadd p (fadd p a b) c = fadd p a (fadd p b c) := by
  simp only [fadd, h, if_true]; rw [em_add_l, em_add_r, Int.add_assoc]
theorem mul_assoc (a b c : Int) : fmul p (fmul p a b) c = fmul p a (fmul p b c) := by
  simp only [fmul, h, if_true]; rw [em_mul_l, em_mul_r, Int.mul_assoc]
theorem mul_add (a b c : Int) : fadd p (fmul p a b) (fmul p a c) = fmul p a (fadd p b c) := by
  simp only [fmul, fadd, h, if_true]; rw [em_add_l, em_add_r, em_mul_r, Int.mul_add]
theorem add_neg (a : Int) : fadd p a (fneg p a) = 0 := by
  simp only [fneg, fadd, h, if_true]; rw [em_add_r, Int.add_right_neg, Int.zero_emod]
theorem mul_one (a : Int) : fmul p a 1 = fred p a := by
  simp only [fmul, fred, h, if_true]; rw [Int.mul_one]
theorem neg_sub (a b : Int) : fneg p (fsub p b a) = fsub p a b := by
  simp only [fneg, fsub, h, if_true]; rw [em_neg, Int.neg_sub]
omit h
theorem add_comm (p a b : Int) : fadd p b a = fadd p a b := by simp only [fadd]; rw [Int.add_comm]
theorem mul_comm (p a b : Int) : fmul p b a = fmul p a b := by simp only [fmul]; rw [Int.mul_comm]

theorem walk (n : Int) (hn : 0 ≤ n ∧ n ≤ 255) (a b c : Int) (hx : U a ∧ U b ∧ U c) (w : World) : Calls Try.prog 6 #[.int .u8 n, .agg #[.int .u64 a, .int .u64 b, .int .u64 c]] w (Gives (.bool true) w) := by
  have c0 : Kept (∀ w, Calls Try.prog 27 #[.int .u8 n] w (Gives (.int .u64 (primeOf n)) w)) := ⟨fun w => prime_c n w hn.1 hn.2⟩
  have hv := prime_valid n
  obtain ⟨ha, hb, hc⟩ := hx
  generalize primeOf n = p at *
  have c1 : Kept (∀ w, Calls Try.prog 15 #[.agg #[.int .u64 p], .int .u64 b, .int .u64 c] w (Gives (.int .u64 (fadd p b c)) w)) := ⟨fun w => add_c p b c w hb hc⟩
  have c2 : Kept (∀ w, Calls Try.prog 15 #[.agg #[.int .u64 p], .int .u64 a, .int .u64 (fadd p b c)] w (Gives (.int .u64 (fadd p a (fadd p b c))) w)) := ⟨fun w => add_c p _ _ w ha fadd_U⟩
  have c3 : Kept (∀ w, Calls Try.prog 15 #[.agg #[.int .u64 p], .int .u64 a, .int .u64 b] w (Gives (.int .u64 (fadd p a b)) w)) := ⟨fun w => add_c p a b w ha hb⟩
  have c4 : Kept (∀ w, Calls Try.prog 15 #[.agg #[.int .u64 p], .int .u64 (fadd p a b), .int .u64 c] w (Gives (.int .u64 (fadd p a (fadd p b c))) w)) := ⟨fun w => by have := add_c p _ _ w (fadd_U (p := p) (a := a) (b := b)) hc; rw [add_assoc hv] at this; exact this⟩
  have c5 : Kept (∀ w, Calls Try.prog 15 #[.agg #[.int .u64 p], .int .u64 b, .int .u64 a] w (Gives (.int .u64 (fadd p a b)) w)) := ⟨fun w => by have := add_c p b a w hb ha; rw [add_comm p a b] at this; exact this⟩
  have m1 : Kept (∀ w, Calls Try.prog 21 #[.agg #[.int .u64 p], .int .u64 b, .int .u64 c] w (Gives (.int .u64 (fmul p b c)) w)) := ⟨fun w => mul_c p b c w hb hc⟩
  have m2 : Kept (∀ w, Calls Try.prog 21 #[.agg #[.int .u64 p], .int .u64 a, .int .u64 (fmul p b c)] w (Gives (.int .u64 (fmul p a (fmul p b c))) w)) := ⟨fun w => mul_c p _ _ w ha fmul_U⟩
  have m3 : Kept (∀ w, Calls Try.prog 21 #[.agg #[.int .u64 p], .int .u64 a, .int .u64 b] w (Gives (.int .u64 (fmul p a b)) w)) := ⟨fun w => mul_c p a b w ha hb⟩
  have m4 : Kept (∀ w, Calls Try.prog 21 #[.agg #[.int .u64 p], .int .u64 (fmul p a b), .int .u64 c] w (Gives (.int .u64 (fmul p a (fmul p b c))) w)) := ⟨fun w => by have := mul_c p _ _ w (fmul_U (p := p) (a := a) (b := b)) hc; rw [mul_assoc hv] at this; exact this⟩
  have m5 : Kept (∀ w, Calls Try.prog 21 #[.agg #[.int .u64 p], .int .u64 b, .int .u64 a] w (Gives (.int .u64 (fmul p a b)) w)) := ⟨fun w => by have := mul_c p b a w hb ha; rw [mul_comm p a b] at this; exact this⟩
  have m6 : Kept (∀ w, Calls Try.prog 21 #[.agg #[.int .u64 p], .int .u64 a, .int .u64 (fadd p b c)] w (Gives (.int .u64 (fmul p a (fadd p b c))) w)) := ⟨fun w => mul_c p _ _ w ha fadd_U⟩
  have m7 : Kept (∀ w, Calls Try.prog 21 #[.agg #[.int .u64 p], .int .u64 a, .int .u64 c] w (Gives (.int .u64 (fmul p a c)) w)) := ⟨fun w => mul_c p a c w ha hc⟩
  have c6 : Kept (∀ w, Calls Try.prog 15 #[.agg #[.int .u64 p], .int .u64 (fmul p a b), .int .u64 (fmul p a c)] w (Gives (.int .u64 (fmul p a (fadd p b c))) w)) := ⟨fun w => by have := add_c p _ _ w (fmul_U (p := p) (a := a) (b := b)) (fmul_U (p := p) (a := a) (b := c)); rw [mul_add hv] at this; exact this⟩
  have n1 : Kept (∀ w, Calls Try.prog 19 #[.agg #[.int .u64 p], .int .u64 a] w (Gives (.int .u64 (fneg p a)) w)) := ⟨fun w => neg_c p a w ha⟩
  have c7 : Kept (∀ w, Calls Try.prog 15 #[.agg #[.int .u64 p], .int .u64 a, .int .u64 (fneg p a)] w (Gives (.int .u64 0) w)) := ⟨fun w => by have := add_c p a _ w ha (fneg_U (p := p) (a := a)); rw [add_neg hv] at this; exact this⟩
  have m8 : Kept (∀ w, Calls Try.prog 21 #[.agg #[.int .u64 p], .int .u64 a, .int .u64 1] w (Gives (.int .u64 (fred p a)) w)) := ⟨fun w => by have := mul_c p a 1 w ha ⟨by decide, by decide⟩; rw [mul_one hv] at this; exact this⟩
  have r1 : Kept (∀ w, Calls Try.prog 13 #[.agg #[.int .u64 p], .int .u64 a] w (Gives (.int .u64 (fred p a)) w)) := ⟨fun w => red_c p a w ha⟩
  have s1 : Kept (∀ w, Calls Try.prog 17 #[.agg #[.int .u64 p], .int .u64 a, .int .u64 b] w (Gives (.int .u64 (fsub p a b)) w)) := ⟨fun w => sub_c p a b w ha hb⟩
  have s2 : Kept (∀ w, Calls Try.prog 17 #[.agg #[.int .u64 p], .int .u64 b, .int .u64 a] w (Gives (.int .u64 (fsub p b a)) w)) := ⟨fun w => sub_c p b a w hb ha⟩
  have n2 : Kept (∀ w, Calls Try.prog 19 #[.agg #[.int .u64 p], .int .u64 (fsub p b a)] w (Gives (.int .u64 (fsub p a b)) w)) := ⟨fun w => by have := neg_c p (fsub p b a) w fsub_U; rw [neg_sub hv] at this; exact this⟩
  generalize fsub p a b = x1 at *
  generalize fsub p b a = x2 at *
  generalize fred p a = x3 at *
  generalize fneg p a = x4 at *
  generalize fmul p a (fadd p b c) = x5 at *
  generalize fmul p a c = x6 at *
  generalize fmul p a (fmul p b c) = x7 at *
  generalize fmul p a b = x8 at *
  generalize fmul p b c = x9 at *
  generalize fadd p a (fadd p b c) = x10 at *
  generalize fadd p a b = x11 at *
  generalize fadd p b c = x12 at *
  clear ha hb hc hv
  go_enter Try.func6, Try.ntmps6
  go_wp2_with (first | (go_at_call 12; (first | with_reducible refine use1 (awake01_c _) ?_ | with_reducible refine use (awake01_c _) ?_); intro pw) | (go_at_call 27; (first | with_reducible refine use1 (c0.out _) ?_ | with_reducible refine use (c0.out _) ?_); intro pw) | (go_at_call 15; (first | with_reducible refine use1 (c1.out _) ?_ | with_reducible refine use (c1.out _) ?_); intro pw) | (go_at_call 15; (first | with_reducible refine use1 (c2.out _) ?_ | with_reducible refine use (c2.out _) ?_); intro pw) | (go_at_call 15; (first | with_reducible refine use1 (c3.out _) ?_ | with_reducible refine use (c3.out _) ?_); intro pw) | (go_at_call 15; (first | with_reducible refine use1 (c4.out _) ?_ | with_reducible refine use (c4.out _) ?_); intro pw) | (go_at_call 15; (first | with_reducible refine use1 (c5.out _) ?_ | with_reducible refine use (c5.out _) ?_); intro pw) | (go_at_call 15; (first | with_reducible refine use1 (c6.out _) ?_ | with_reducible refine use (c6.out _) ?_); intro pw) | (go_at_call 15; (first | with_reducible refine use1 (c7.out _) ?_ | with_reducible refine use (c7.out _) ?_); intro pw) | (go_at_call 21; (first | with_reducible refine use1 (m1.out _) ?_ | with_reducible refine use (m1.out _) ?_); intro pw) | (go_at_call 21; (first | with_reducible refine use1 (m2.out _) ?_ | with_reducible refine use (m2.out _) ?_); intro pw) | (go_at_call 21; (first | with_reducible refine use1 (m3.out _) ?_ | with_reducible refine use (m3.out _) ?_); intro pw) | (go_at_call 21; (first | with_reducible refine use1 (m4.out _) ?_ | with_reducible refine use (m4.out _) ?_); intro pw) | (go_at_call 21; (first | with_reducible refine use1 (m5.out _) ?_ | with_reducible refine use (m5.out _) ?_); intro pw) | (go_at_call 21; (first | with_reducible refine use1 (m6.out _) ?_ | with_reducible refine use (m6.out _) ?_); intro pw) | (go_at_call 21; (first | with_reducible refine use1 (m7.out _) ?_ | with_reducible refine use (m7.out _) ?_); intro pw) | (go_at_call 21; (first | with_reducible refine use1 (m8.out _) ?_ | with_reducible refine use (m8.out _) ?_); intro pw) | (go_at_call 19; (first | with_reducible refine use1 (n1.out _) ?_ | with_reducible refine use (n1.out _) ?_); intro pw) | (go_at_call 19; (first | with_reducible refine use1 (n2.out _) ?_ | with_reducible refine use (n2.out _) ?_); intro pw) | (go_at_call 13; (first | with_reducible refine use1 (r1.out _) ?_ | with_reducible refine use (r1.out _) ?_); intro pw) | (go_at_call 17; (first | with_reducible refine use1 (s1.out _) ?_ | with_reducible refine use (s1.out _) ?_); intro pw) | (go_at_call 17; (first | with_reducible refine use1 (s2.out _) ?_ | with_reducible refine use (s2.out _) ?_); intro pw))
  repeat (
    (try dsimp only [List.append])
    (first | refine region_big1 (by kernel_rfl) ?_ | refine region_big (by kernel_rfl) ?_)
    repeat (go_big_quiet_step (first | (go_at_call 12; with_reducible exact quiet (awake01_c _)) | (go_at_call 27; with_reducible exact quiet (c0.out _)) | (go_at_call 15; with_reducible exact quiet (c1.out _)) | (go_at_call 15; with_reducible exact quiet (c2.out _)) | (go_at_call 15; with_reducible exact quiet (c3.out _)) | (go_at_call 15; with_reducible exact quiet (c4.out _)) | (go_at_call 15; with_reducible exact quiet (c5.out _)) | (go_at_call 15; with_reducible exact quiet (c6.out _)) | (go_at_call 15; with_reducible exact quiet (c7.out _)) | (go_at_call 21; with_reducible exact quiet (m1.out _)) | (go_at_call 21; with_reducible exact quiet (m2.out _)) | (go_at_call 21; with_reducible exact quiet (m3.out _)) | (go_at_call 21; with_reducible exact quiet (m4.out _)) | (go_at_call 21; with_reducible exact quiet (m5.out _)) | (go_at_call 21; with_reducible exact quiet (m6.out _)) | (go_at_call 21; with_reducible exact quiet (m7.out _)) | (go_at_call 21; with_reducible exact quiet (m8.out _)) | (go_at_call 19; with_reducible exact quiet (n1.out _)) | (go_at_call 19; with_reducible exact quiet (n2.out _)) | (go_at_call 13; with_reducible exact quiet (r1.out _)) | (go_at_call 17; with_reducible exact quiet (s1.out _)) | (go_at_call 17; with_reducible exact quiet (s2.out _))))
    refine wpQuiet_nil ?_
    intro _
    go_wp2_with (first | (go_at_call 12; (first | with_reducible refine use1 (awake01_c _) ?_ | with_reducible refine use (awake01_c _) ?_); intro pw) | (go_at_call 27; (first | with_reducible refine use1 (c0.out _) ?_ | with_reducible refine use (c0.out _) ?_); intro pw) | (go_at_call 15; (first | with_reducible refine use1 (c1.out _) ?_ | with_reducible refine use (c1.out _) ?_); intro pw) | (go_at_call 15; (first | with_reducible refine use1 (c2.out _) ?_ | with_reducible refine use (c2.out _) ?_); intro pw) | (go_at_call 15; (first | with_reducible refine use1 (c3.out _) ?_ | with_reducible refine use (c3.out _) ?_); intro pw) | (go_at_call 15; (first | with_reducible refine use1 (c4.out _) ?_ | with_reducible refine use (c4.out _) ?_); intro pw) | (go_at_call 15; (first | with_reducible refine use1 (c5.out _) ?_ | with_reducible refine use (c5.out _) ?_); intro pw) | (go_at_call 15; (first | with_reducible refine use1 (c6.out _) ?_ | with_reducible refine use (c6.out _) ?_); intro pw) | (go_at_call 15; (first | with_reducible refine use1 (c7.out _) ?_ | with_reducible refine use (c7.out _) ?_); intro pw) | (go_at_call 21; (first | with_reducible refine use1 (m1.out _) ?_ | with_reducible refine use (m1.out _) ?_); intro pw) | (go_at_call 21; (first | with_reducible refine use1 (m2.out _) ?_ | with_reducible refine use (m2.out _) ?_); intro pw) | (go_at_call 21; (first | with_reducible refine use1 (m3.out _) ?_ | with_reducible refine use (m3.out _) ?_); intro pw) | (go_at_call 21; (first | with_reducible refine use1 (m4.out _) ?_ | with_reducible refine use (m4.out _) ?_); intro pw) | (go_at_call 21; (first | with_reducible refine use1 (m5.out _) ?_ | with_reducible refine use (m5.out _) ?_); intro pw) | (go_at_call 21; (first | with_reducible refine use1 (m6.out _) ?_ | with_reducible refine use (m6.out _) ?_); intro pw) | (go_at_call 21; (first | with_reducible refine use1 (m7.out _) ?_ | with_reducible refine use (m7.out _) ?_); intro pw) | (go_at_call 21; (first | with_reducible refine use1 (m8.out _) ?_ | with_reducible refine use (m8.out _) ?_); intro pw) | (go_at_call 19; (first | with_reducible refine use1 (n1.out _) ?_ | with_reducible refine use (n1.out _) ?_); intro pw) | (go_at_call 19; (first | with_reducible refine use1 (n2.out _) ?_ | with_reducible refine use (n2.out _) ?_); intro pw) | (go_at_call 13; (first | with_reducible refine use1 (r1.out _) ?_ | with_reducible refine use (r1.out _) ?_); intro pw) | (go_at_call 17; (first | with_reducible refine use1 (s1.out _) ?_ | with_reducible refine use (s1.out _) ?_); intro pw) | (go_at_call 17; (first | with_reducible refine use1 (s2.out _) ?_ | with_reducible refine use (s2.out _) ?_); intro pw)))
  go_ret
  exact ⟨rfl, (by repeat (first | exact Below.refl _ _ | refine Below.later ?_ _ | refine Below.box ?_ _ | refine Below.drew ?_ | refine Below.put ?_ (by dsimp only; omega) _))⟩

set_option maxRecDepth 100000 in
theorem lifted (os : Os) (started : os.Started) (H : Type) (enc : TypeId × Value → H) :
    ReturnsInHanded {} Try.checked os 6 .any (Rows.fieldAxiomsSpec.pre6 enc Try.prog Try.f6 Rows.fieldAxiomsRow.domain false) (Rows.fieldAxiomsSpec.post enc Try.prog Try.f6 false true false false) := by
  refine returnsInHanded_of_change (C := Try.checked) own started (by kernel_rfl) Try.func6
    (ChangeSpec.witness6 (enc := enc) (C := Try.checked) false ⟨#[], #[.int .u8 0, .agg #[.int .u64 0, .int .u64 0, .int .u64 0]], []⟩ 8 (by kernel_rfl) (by kernel_rfl) (by kernel_rfl) (by kernel_rfl)) ?_
  intro W base args ds gs before hval0 hW hcnd _
  have hval : ∀ (j : Nat) t v, Try.f6.params[j]? = some t → args[j]? = some v → Value.okWide Try.prog W .any base t v := hval0
  have hW0 : DataW.Whole enc Try.prog Try.f6.params.toList Rows.fieldAxiomsSpec.vars false W args.toList ds gs before := hW
  obtain ⟨p, q, hA0, hV, rfl, _, _⟩ := hW
  have hA : DataW.TrodAll enc Try.prog W 0 (fun _ => true) true Try.f6.params.toList args.toList ds p := hA0
  rw [Try.params6] at hA hval
  obtain ⟨v0, vs0, d0, ds0, p0, q0, hargs, rfl, rfl, h0, r0⟩ := trodAll_cons hA
  obtain ⟨v1, vs1, d1, ds1, p1, q1, rfl, rfl, rfl, h1, r1⟩ := trodAll_cons r0
  obtain ⟨rfl, rfl, rfl⟩ := trodAll_nil r1
  obtain rfl : args = #[v0, v1] := by cases args; simp_all
  obtain ⟨rfl, rfl⟩ := trodVars_none hV
  obtain ⟨a0, rfl, u0⟩ := open_u8 (hval 0 5 v0 rfl rfl)
  obtain ⟨a1x, a1y, a1z, rfl, u1⟩ := open_three (hval 1 34 v1 rfl rfl)
  clear hA0 hval0
  refine (walk a0 u0 a1x a1y a1z u1 W).mono fun e W' ⟨he, hb⟩ => ⟨.bool true, he, ?_⟩
  exact law_post (fun t ht => by have ht' : t ∈ [5, 34] := ht; simp only [List.mem_cons, List.not_mem_nil, or_false] at ht'; rcases ht' with rfl | rfl <;> exact ⟨by kernel_rfl, of_decide_eq_true (by kernel_rfl)⟩) rfl rfl hW0 rfl hb

theorem over : Rows.fieldAxiomsRow.holds Try.pinned (OpenSpec.ofChange Rows.fieldAxiomsSpec) :=
  OpenClaim.holds_of_wide 6 Try.f6 rfl rfl rfl rfl rfl rfl rfl ⟨rfl, rfl, rfl, rfl, rfl⟩ rfl rfl rfl rfl rfl (by kernel_rfl) Try.func6 (by kernel_rfl)
    (of_decide_eq_true (by kernel_rfl)) (by unfold Func.isWrapper; first | (rw [if_pos (by decide +kernel)]; kernel_rfl) | (rw [if_neg (by decide +kernel)]; exact ⟨rfl, rfl⟩))
    (fun os started H enc _ => lifted os started H enc)

/-- The statement. -/
theorem proved : Rows.FieldAxiomsSaid := over
#print axioms proved
end Go.Proofs.Yteodakcebeloeaa.fieldAxioms
