/- FieldConstants: for any P the call returns true: Known, Valid, Generator, Adicity and Exponent give the numbers of the table. No condition. -/
import Derived.Test.YteodakcebeloeaaLaw
import Derived.Test.YteodakcebeloeaaL01a
import Derived.Test.YteodakcebeloeaaLst
namespace Go.Proofs.Yteodakcebeloeaa.fieldConstants
open Go.ChangeShapes Go.WideShapes Go.ChangeAt Go.RowKit

def primes : List Int := [17, 97, 193, 257, 12289, 65537, 18446744069414584321]
theorem known_ls (w : World) : Ls (w.alloc (.cells #[.int .u64 17, .int .u64 97, .int .u64 193, .int .u64 257, .int .u64 12289, .int .u64 65537, .int .u64 18446744069414584321] 22)) (some ⟨w.heap.size, 0, none⟩) primes :=
  Ls.new w _ _ primes rfl (by decide) (by intro x hx; simp only [primes, List.mem_cons, List.not_mem_nil, or_false] at hx; rcases hx with h | h | h | h | h | h | h <;> subst h <;> exact ⟨by decide, by decide⟩)
theorem knownL (w : World) : Calls Try.prog 32 #[] w (GivesL primes w) := (known_c w).mono fun e w' ⟨he, hw⟩ => by
  obtain ⟨p, hp⟩ := after_of ((Below.refl _ w).alloc (Nat.le_refl _) (.cells #[.int .u64 17, .int .u64 97, .int .u64 193, .int .u64 257, .int .u64 12289, .int .u64 65537, .int .u64 18446744069414584321] 22))
  exact ⟨w.heap.size, p, he, hw.trans hp, hw ▸ known_ls w⟩
theorem rknownL (w : World) : Calls Try.prog 33 #[] w (GivesL primes w) := (rknown_c w).mono fun e w' ⟨he, hw⟩ => by
  obtain ⟨p, hp⟩ := after_of ((Below.refl _ w).alloc (Nat.le_refl _) (.cells #[.int .u64 17, .int .u64 97, .int .u64 193, .int .u64 257, .int .u64 12289, .int .u64 65537, .int .u64 18446744069414584321] 22))
  exact ⟨w.heap.size, p, he, hw.trans hp, hw ▸ known_ls w⟩
theorem same7 (b1 b2 : Nat) (w : World) (p : Regrown) (h1 : Kept (Ls w (some ⟨b1, 0, none⟩) primes)) (h2 : Kept (Ls (after w p) (some ⟨b2, 0, none⟩) primes)) :
    Calls Try.prog 31 #[.slice (some ⟨b1, 0, none⟩) primes.length primes.length, .slice (some ⟨b2, 0, none⟩) primes.length primes.length] (after w p) (Gives (.bool true) (after w p)) := by
  have := same_c (some ⟨b1, 0, none⟩) (some ⟨b2, 0, none⟩) 7 7 primes primes (after w p) (h1.out.later p) h2.out
  rw [show decide (primes = primes) = true from by simp] at this
  exact this

theorem walk (p : Int) (_hp : U p) (w : World) : Calls Try.prog 9 #[.int .u64 p] w (Gives (.bool true) w) := by
  have c1 : Kept (∀ w, Calls Try.prog 34 #[.agg #[.int .u64 p]] w (Gives (.bool (vld p)) w)) := ⟨fun w => valid_c p w⟩
  have d1 : Kept (∀ w, Calls Try.prog 35 #[.int .u64 p] w (Gives (.bool (vld p)) w)) := ⟨fun w => rvalid_c p w⟩
  have c2 : Kept (∀ w, Calls Try.prog 36 #[.agg #[.int .u64 p]] w (Gives (.int .u64 (gen p)) w)) := ⟨fun w => gen_c p w⟩
  have d2 : Kept (∀ w, Calls Try.prog 37 #[.int .u64 p] w (Gives (.int .u64 (gen p)) w)) := ⟨fun w => rgen_c p w⟩
  have c3 : Kept (∀ w, Calls Try.prog 38 #[.agg #[.int .u64 p]] w (Gives (.int .i64 (adi p)) w)) := ⟨fun w => adi_c p w⟩
  have d3 : Kept (∀ w, Calls Try.prog 39 #[.int .u64 p] w (Gives (.int .i64 (adi p)) w)) := ⟨fun w => radi_c p w⟩
  have c4 : Kept (∀ w, Calls Try.prog 30 #[.agg #[.int .u64 p]] w (Gives (.int .u64 (expo p)) w)) := ⟨fun w => expo_c p w⟩
  have d4 : Kept (∀ w, Calls Try.prog 40 #[.int .u64 p] w (Gives (.int .u64 (expo p)) w)) := ⟨fun w => rexpo_c p w⟩
  generalize vld p = r1 at *
  generalize gen p = r2 at *
  generalize adi p = r3 at *
  generalize expo p = r4 at *
  go_enter Try.func9, Try.ntmps9
  go_wp2_with (first | (go_at_call 12; with_reducible refine use (awake01_c _) ?_; intro pa) | (go_at_call 32; with_reducible refine useL (knownL _) ?_; intro pk bk hk) | (go_at_call 33; with_reducible refine useL (rknownL _) ?_; intro pr br hr) | (go_at_call 31; with_reducible refine use3 (same7 _ _ _ _ (by assumption) (by assumption)) ?_; intro pw) | (go_at_call 34; (first | with_reducible refine use1 (c1.out _) ?_ | with_reducible refine use (c1.out _) ?_); intro pw) | (go_at_call 35; (first | with_reducible refine use1 (d1.out _) ?_ | with_reducible refine use (d1.out _) ?_); intro pw) | (go_at_call 36; (first | with_reducible refine use1 (c2.out _) ?_ | with_reducible refine use (c2.out _) ?_); intro pw) | (go_at_call 37; (first | with_reducible refine use1 (d2.out _) ?_ | with_reducible refine use (d2.out _) ?_); intro pw) | (go_at_call 38; (first | with_reducible refine use1 (c3.out _) ?_ | with_reducible refine use (c3.out _) ?_); intro pw) | (go_at_call 39; (first | with_reducible refine use1 (d3.out _) ?_ | with_reducible refine use (d3.out _) ?_); intro pw) | (go_at_call 30; (first | with_reducible refine use1 (c4.out _) ?_ | with_reducible refine use (c4.out _) ?_); intro pw) | (go_at_call 40; (first | with_reducible refine use1 (d4.out _) ?_ | with_reducible refine use (d4.out _) ?_); intro pw))
  go_ret
  exact ⟨rfl, (by repeat (first | exact Below.refl _ _ | refine Below.later ?_ _ | refine Below.box ?_ _ | refine Below.drew ?_ | refine Below.put ?_ (by dsimp only; omega) _))⟩

set_option maxRecDepth 100000 in
theorem lifted (os : Os) (started : os.Started) (H : Type) (enc : TypeId × Value → H) :
    ReturnsInHanded {} Try.checked os 9 .any (Rows.fieldConstantsSpec.pre6 enc Try.prog Try.f9 Rows.fieldConstantsRow.domain false) (Rows.fieldConstantsSpec.post enc Try.prog Try.f9 false true false false) := by
  refine returnsInHanded_of_change (C := Try.checked) own started (by kernel_rfl) Try.func9
    (ChangeSpec.witness6 (enc := enc) (C := Try.checked) false ⟨#[], #[.int .u64 0], []⟩ 8 (by kernel_rfl) (by kernel_rfl) (by kernel_rfl) (by kernel_rfl)) ?_
  intro W base args ds gs before hval0 hW hcnd _
  have hval : ∀ (j : Nat) t v, Try.f9.params[j]? = some t → args[j]? = some v → Value.okWide Try.prog W .any base t v := hval0
  have hW0 : DataW.Whole enc Try.prog Try.f9.params.toList Rows.fieldConstantsSpec.vars false W args.toList ds gs before := hW
  obtain ⟨p, q, hA0, hV, rfl, _, _⟩ := hW
  have hA : DataW.TrodAll enc Try.prog W 0 (fun _ => true) true Try.f9.params.toList args.toList ds p := hA0
  rw [Try.params9] at hA hval
  obtain ⟨v0, vs0, d0, ds0, p0, q0, hargs, rfl, rfl, h0, r0⟩ := trodAll_cons hA
  obtain ⟨rfl, rfl, rfl⟩ := trodAll_nil r0
  obtain rfl : args = #[v0] := by cases args; simp_all
  obtain ⟨rfl, rfl⟩ := trodVars_none hV
  obtain ⟨a0, rfl, u0⟩ := open_u64 (hval 0 22 v0 rfl rfl)
  clear hA0 hval0
  refine (walk a0 u0 W).mono fun e W' ⟨he, hb⟩ => ⟨.bool true, he, ?_⟩
  exact law_post (fun t ht => by have ht' : t ∈ [22] := ht; simp only [List.mem_cons, List.not_mem_nil, or_false] at ht'; rcases ht' with rfl <;> exact ⟨by kernel_rfl, of_decide_eq_true (by kernel_rfl)⟩) rfl rfl hW0 rfl hb

theorem over : Rows.fieldConstantsRow.holds Try.pinned (OpenSpec.ofChange Rows.fieldConstantsSpec) :=
  OpenClaim.holds_of_wide 9 Try.f9 rfl rfl rfl rfl rfl rfl rfl ⟨rfl, rfl, rfl, rfl, rfl⟩ rfl rfl rfl rfl rfl (by kernel_rfl) Try.func9 (by kernel_rfl)
    (of_decide_eq_true (by kernel_rfl)) (by unfold Func.isWrapper; first | (rw [if_pos (by decide +kernel)]; kernel_rfl) | (rw [if_neg (by decide +kernel)]; exact ⟨rfl, rfl⟩))
    (fun os started H enc _ => lifted os started H enc)

/-- The statement. -/
theorem proved : Rows.FieldConstantsSaid := over
#print axioms proved
end Go.Proofs.Yteodakcebeloeaa.fieldConstants
