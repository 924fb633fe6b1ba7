/- FieldRoot: for any P and any order the call returns true: both implementations give the same root of unity, whose power with half of the order is -1. No condition. -/
import Derived.Test.YteodakcebeloeaaLaw
import Derived.Test.YteodakcebeloeaaL01a
namespace Go.Proofs.Yteodakcebeloeaa.fieldRoot
open Go.ChangeShapes Go.WideShapes Go.ChangeAt Go.RowKit

theorem ok_facts {p n : Int} (h : rootOk p n = true) : vld p = true ∧ 1 ≤ n ∧ pow2B n.toNat = true ∧ (p - 1) % n = 0 := by
  unfold rootOk at h
  simp only [Bool.and_eq_true, decide_eq_true_eq] at h
  exact ⟨h.1.1.1, h.1.1.2, h.1.2, h.2⟩
theorem root_one {p : Int} (h : rootOk p 1 = true) : rootV p 1 = 1 := by
  have hv := (ok_facts h).1
  have hp := vld_pos hv
  have hh := gen_half hv
  unfold rootV fpow
  rw [if_pos h, if_pos hv, Int.ediv_one]
  have hg : gen p % p ≠ 0 := by
    have h2 : gen p % p = gen p := Int.emod_eq_of_lt (gen_lt hv).1 (gen_lt hv).2
    rw [h2]
    rcases vld_cases hv with h | h | h | h | h | h | h <;> subst h <;> decide
  exact fermat hv _ hg
theorem root_half {p n : Int} (h : rootOk p n = true) (hn : 1 < n) : fpow p (rootV p n) (n / 2).toNat = p - 1 := by
  obtain ⟨hv, h1, h2, h3⟩ := ok_facts h
  have hp := vld_pos hv
  have he : n % 2 = 0 := by
    have := pow2B_even_of n.toNat (by omega) h2
    omega
  obtain ⟨q, hq⟩ : ∃ q, p - 1 = n * q := ⟨(p - 1) / n, (Int.mul_ediv_cancel' (Int.dvd_of_emod_eq_zero h3)).symm⟩
  obtain ⟨m, hm⟩ : ∃ m, n = 2 * m := ⟨n / 2, by omega⟩
  have hq1 : (p - 1) / n = q := by rw [hq, Int.mul_ediv_cancel_left _ (by omega)]
  have hq0 : 0 ≤ q := by rw [← hq1]; exact Int.ediv_nonneg (by omega) (by omega)
  have hhalf : (p - 1) / 2 = m * q := by
    rw [hq, hm, Int.mul_assoc, Int.mul_ediv_cancel_left _ (by omega)]
  unfold rootV fpow
  rw [if_pos h, if_pos hv, if_pos hv, em_pow, ← Int.pow_mul, hq1, show n / 2 = m from by omega, Nat.mul_comm, ← Int.toNat_mul (by omega) hq0, ← hhalf]
  exact gen_half hv

theorem walk (p : Int) (hp : U p) (n : Int) (hn : -9223372036854775808 ≤ n ∧ n ≤ 9223372036854775807) (w : World) : Calls Try.prog 5 #[.int .u64 p, .int .i64 n] w (Gives (.bool true) w) := by
  obtain ⟨n0, n1⟩ := hn
  have c1 : Kept (∀ w, Calls Try.prog 25 #[.agg #[.int .u64 p], .int .i64 n] w (Gives (.tuple #[.int .u64 (rootV p n), .bool (rootOk p n)]) w)) := ⟨fun w => root_c p n w n0 n1⟩
  have d1 : Kept (∀ w, Calls Try.prog 26 #[.int .u64 p, .int .i64 n] w (Gives (.tuple #[.int .u64 (rootV p n), .bool (rootOk p n)]) w)) := ⟨fun w => rroot_c p n w n0 n1⟩
  cases hok : rootOk p n
  · rw [hok] at c1 d1
    generalize rootV p n = r at *
    clear hok hp
    go_enter Try.func5, Try.ntmps5
    go_wp2_with (first | (go_at_call 25; (first | with_reducible refine use1 (c1.out _) ?_ | with_reducible refine use (c1.out _) ?_); intro pw) | (go_at_call 26; (first | with_reducible refine use1 (d1.out _) ?_ | with_reducible refine use (d1.out _) ?_); intro pw) | (go_at_call 12; (first | with_reducible refine use1 (awake01_c _) ?_ | with_reducible refine use (awake01_c _) ?_); intro pw))
    go_ret
    exact ⟨rfl, (by repeat (first | exact Below.refl _ _ | refine Below.later ?_ _ | refine Below.box ?_ _ | refine Below.drew ?_ | refine Below.put ?_ (by dsimp only; omega) _))⟩
  · have hv := (ok_facts hok).1
    have h1 := (ok_facts hok).2.1
    have hp1 := vld_pos hv
    obtain ⟨hp0, hp'⟩ := hp
    by_cases hn1 : n = 1
    · subst hn1
      have := root_one hok
      rw [hok, this] at c1 d1
      clear hok hv this
      go_enter Try.func5, Try.ntmps5
      go_wp2_with (first | (go_at_call 25; (first | with_reducible refine use1 (c1.out _) ?_ | with_reducible refine use (c1.out _) ?_); intro pw) | (go_at_call 26; (first | with_reducible refine use1 (d1.out _) ?_ | with_reducible refine use (d1.out _) ?_); intro pw) | (go_at_call 12; (first | with_reducible refine use1 (awake01_c _) ?_ | with_reducible refine use (awake01_c _) ?_); intro pw))
      go_ret
      exact ⟨rfl, (by repeat (first | exact Below.refl _ _ | refine Below.later ?_ _ | refine Below.box ?_ _ | refine Below.drew ?_ | refine Below.put ?_ (by dsimp only; omega) _))⟩
    · have hh := root_half hok (by omega)
      have hUr : U (rootV p n) := rootV_U
      obtain ⟨m, hm⟩ : ∃ m, n / 2 = m := ⟨_, rfl⟩
      have e1 : Kept (∀ w, Calls Try.prog 23 #[.agg #[.int .u64 p], .int .u64 (rootV p n), .int .u64 m] w (Gives (.int .u64 (p - 1)) w)) := ⟨fun w => by
        have := pow_c p (rootV p n) m w hUr ⟨by omega, by omega⟩; rw [← hm, hh, hm] at this; exact this⟩
      have q1 : n.tdiv 2 = m := by rw [Int.tdiv_eq_ediv_of_nonneg (by omega), hm]
      have hne : (n == 1) = false := by simp [hn1]
      have m0 : 0 ≤ m := by omega
      have m1 : m ≤ 9223372036854775807 := by omega
      rw [hok] at c1 d1
      generalize rootV p n = r at *
      clear hok hv hh hUr
      clear hm
      go_enter Try.func5, Try.ntmps5
      go_wp2_with (first | (go_at_call 25; (first | with_reducible refine use1 (c1.out _) ?_ | with_reducible refine use (c1.out _) ?_); intro pw) | (go_at_call 26; (first | with_reducible refine use1 (d1.out _) ?_ | with_reducible refine use (d1.out _) ?_); intro pw) | (go_at_call 12; (first | with_reducible refine use1 (awake01_c _) ?_ | with_reducible refine use (awake01_c _) ?_); intro pw) | (go_at_call 23; (first | with_reducible refine use1 (e1.out _) ?_ | with_reducible refine use (e1.out _) ?_); intro pw))
      go_ret
      exact ⟨rfl, (by repeat (first | exact Below.refl _ _ | refine Below.later ?_ _ | refine Below.box ?_ _ | refine Below.drew ?_ | refine Below.put ?_ (by dsimp only; omega) _))⟩

set_option maxRecDepth 100000 in
theorem lifted (os : Os) (started : os.Started) (H : Type) (enc : TypeId × Value → H) :
    ReturnsInHanded {} Try.checked os 5 .any (Rows.fieldRootSpec.pre6 enc Try.prog Try.f5 Rows.fieldRootRow.domain false) (Rows.fieldRootSpec.post enc Try.prog Try.f5 false true false false) := by
  refine returnsInHanded_of_change (C := Try.checked) own started (by kernel_rfl) Try.func5
    (ChangeSpec.witness6 (enc := enc) (C := Try.checked) false ⟨#[], #[.int .u64 0, .int .i64 0], []⟩ 8 (by kernel_rfl) (by kernel_rfl) (by kernel_rfl) (by kernel_rfl)) ?_
  intro W base args ds gs before hval0 hW hcnd _
  have hval : ∀ (j : Nat) t v, Try.f5.params[j]? = some t → args[j]? = some v → Value.okWide Try.prog W .any base t v := hval0
  have hW0 : DataW.Whole enc Try.prog Try.f5.params.toList Rows.fieldRootSpec.vars false W args.toList ds gs before := hW
  obtain ⟨p, q, hA0, hV, rfl, _, _⟩ := hW
  have hA : DataW.TrodAll enc Try.prog W 0 (fun _ => true) true Try.f5.params.toList args.toList ds p := hA0
  rw [Try.params5] at hA hval
  obtain ⟨v0, vs0, d0, ds0, p0, q0, hargs, rfl, rfl, h0, r0⟩ := trodAll_cons hA
  obtain ⟨v1, vs1, d1, ds1, p1, q1, rfl, rfl, rfl, h1, r1⟩ := trodAll_cons r0
  obtain ⟨rfl, rfl, rfl⟩ := trodAll_nil r1
  obtain rfl : args = #[v0, v1] := by cases args; simp_all
  obtain ⟨rfl, rfl⟩ := trodVars_none hV
  obtain ⟨a0, rfl, u0⟩ := open_u64 (hval 0 22 v0 rfl rfl)
  obtain ⟨a1, rfl, u1⟩ := open_int64 (hval 1 3 v1 rfl rfl)
  clear hA0 hval0
  refine (walk a0 u0 a1 u1 W).mono fun e W' ⟨he, hb⟩ => ⟨.bool true, he, ?_⟩
  exact law_post (fun t ht => by have ht' : t ∈ [22, 3] := ht; simp only [List.mem_cons, List.not_mem_nil, or_false] at ht'; rcases ht' with rfl | rfl <;> exact ⟨by kernel_rfl, of_decide_eq_true (by kernel_rfl)⟩) rfl rfl hW0 rfl hb

theorem over : Rows.fieldRootRow.holds Try.pinned (OpenSpec.ofChange Rows.fieldRootSpec) :=
  OpenClaim.holds_of_wide 5 Try.f5 rfl rfl rfl rfl rfl rfl rfl ⟨rfl, rfl, rfl, rfl, rfl⟩ rfl rfl rfl rfl rfl (by kernel_rfl) Try.func5 (by kernel_rfl)
    (of_decide_eq_true (by kernel_rfl)) (by unfold Func.isWrapper; first | (rw [if_pos (by decide +kernel)]; kernel_rfl) | (rw [if_neg (by decide +kernel)]; exact ⟨rfl, rfl⟩))
    (fun os started H enc _ => lifted os started H enc)

/-- The statement. -/
theorem proved : Rows.FieldRootSaid := over
#print axioms proved
end Go.Proofs.Yteodakcebeloeaa.fieldRoot
