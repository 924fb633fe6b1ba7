/- SoundnessLimits: for any case and any e the call returns true: for the layout of a right case (up to 40 rows) FoldLimit, LinearLimit and QuadLimit give the specified numbers; other cases are passed over. No condition. -/
import Derived.Test.YtkpkgjniicnkcaaTArg
import Derived.Test.YtkpkgjniicnkcaaL29b
namespace Go.Proofs.Ytkpkgjniicnkcaa.soundnessLimits
open Go.ChangeShapes Go.WideShapes Go.ChangeAt Go.RowKit Go.Sort

set_option maxHeartbeats 8000000 in
theorem walk (w : World) (p pub vs : Int) (u : Option Addr) (c : Nat) (rs : List Rw) (b bl q : Int) (uw : Option Addr) (l : List Int) (cw : Nat)
    (h : U p ∧ I pub ∧ I vs ∧ Rws w u rs ∧ I b ∧ I bl ∧ I q ∧ Ls w uw l ∧ (uw = none → cw = 0)) (e : Int) (he : -9223372036854775808 ≤ e ∧ e ≤ 9223372036854775807) :
    Calls Try.prog 5 #[.agg #[.int .u64 p, .int .i64 pub, .int .i64 vs, .slice u rs.length c, .int .i64 b, .int .i64 bl, .int .i64 q, .slice uw l.length cw], .int .i64 e] w (Gives (.bool true) w) := by
  obtain ⟨hU, _, _, hR, _, _, _, hL, _⟩ := h
  have cr : Kept (∀ w', Below w.heap.size w w' → Calls Try.prog 16 #[.agg #[.int .u64 p, .int .i64 pub, .int .i64 vs, .slice u rs.length c, .int .i64 b, .int .i64 bl, .int .i64 q, .slice uw l.length cw], .int .i64 40] w' (Gives (.tuple #[rightV p pub vs b bl q rs l 40, .bool (rightB p pub vs b bl q rs l 40)]) w')) := ⟨fun w' hw =>
    right_c p pub vs b bl q 40 u c rs uw cw l w' (hR.below (Nat.le_refl _) hw) (hL.below (Nat.le_refl _) hw)⟩
  have hs1 := hR.small
  have hs2 := hL.small
  clear hR hL
  cases hr : rightB p pub vs b bl q rs l 40
  · have hV : rightV p pub vs b bl q rs l 40 = lay0 := by rw [rightV, hr]; rfl
    rw [hV, hr] at cr
    unfold lay0 at cr
    clear hr hV
    generalize rs.length = m at *
    generalize l.length = n at *
    go_enter Try.func5, Try.ntmps5
    go_wp2_with (first | (go_at_call 16; (first | with_reducible refine use1 (cr.out _ (by repeat (first | exact Below.refl _ _ | refine Below.later ?_ _ | refine Below.box ?_ _ | refine Below.drew ?_ | refine Below.put ?_ (by dsimp only; omega) _))) ?_ | with_reducible refine use (cr.out _ (by repeat (first | exact Below.refl _ _ | refine Below.later ?_ _ | refine Below.box ?_ _ | refine Below.drew ?_ | refine Below.put ?_ (by dsimp only; omega) _))) ?_); intro pw) | (go_at_call 12; (first | with_reducible refine use1 (awake29_c _) ?_ | with_reducible refine use (awake29_c _) ?_); intro pw))
    go_ret
    exact ⟨rfl, (by repeat (first | exact Below.refl _ _ | refine Below.later ?_ _ | refine Below.box ?_ _ | refine Below.drew ?_ | refine Below.put ?_ (by dsimp only; omega) _))⟩
  · have hV : rightV p pub vs b bl q rs l 40 = layV p b q (newN b bl q) (vs - 1 - pub) rs.length := by rw [rightV, hr]; rfl
    rw [hV, hr] at cr
    obtain ⟨f1, f2, f3, f4, f5, f6, f7, f8, f9, f10, f11, f12, f13, _⟩ := right_facts hr
    clear hr hV
    unfold layV at cr
    generalize newN b bl q = NN at *
    generalize rs.length = m at *
    generalize l.length = n at *
    generalize hP0 : (vs - 1 - pub + b - 1) / b = P0 at *
    generalize hP1 : ((m : Int) + b - 1) / b = P1 at *
    obtain ⟨S0, hS0⟩ : ∃ S, vs - 1 - pub = S := ⟨_, rfl⟩
    obtain ⟨K0, hK0⟩ : ∃ S, b + q = S := ⟨_, rfl⟩
    rw [hS0, hK0] at cr
    have hK1 : 0 ≤ K0 ∧ K0 ≤ NN := by omega
    have cf : Kept (∀ w', Calls Try.prog 17 #[.agg #[.int .u64 p, .int .i64 b, .int .i64 q, .int .i64 K0, .int .i64 NN, .int .i64 S0, .int .i64 m, .int .i64 P0, .int .i64 P1, .int .i64 P1, .int .i64 P1], .int .i64 e] w' (Gives (foldV NN K0 e) w')) := ⟨fun w' => foldLimit_c _ _ _ _ _ _ _ _ _ _ _ _ w' hK1.1 hK1.2 (by omega)⟩
    have co : Kept (∀ w', Calls Try.prog 18 #[.agg #[.int .u64 p, .int .i64 b, .int .i64 q, .int .i64 K0, .int .i64 NN, .int .i64 S0, .int .i64 m, .int .i64 P0, .int .i64 P1, .int .i64 P1, .int .i64 P1]] w' (Gives (.agg #[.int .u64 p, .int .i64 b, .int .i64 q, .int .i64 K0, .int .i64 NN, .int .i64 S0, .int .i64 m, .int .i64 P0, .int .i64 P1, .int .i64 P1, .int .i64 P1]) w')) := ⟨fun w' => own29_c _ _ _ _ _ _ _ _ _ _ _ w'⟩
    have cl : Kept (∀ w', Calls Try.prog 19 #[.agg #[.int .u64 p, .int .i64 b, .int .i64 q, .int .i64 K0, .int .i64 NN, .int .i64 S0, .int .i64 m, .int .i64 P0, .int .i64 P1, .int .i64 P1, .int .i64 P1]] w' (Gives (.int .i64 (max 0 (3 * (m : Int) - 1))) w')) := ⟨fun w' => linearLimit_c _ _ _ _ _ _ _ _ _ _ _ w' (by omega) (by omega)⟩
    have cq : Kept (∀ w', Calls Try.prog 20 #[.agg #[.int .u64 p, .int .i64 b, .int .i64 q, .int .i64 K0, .int .i64 NN, .int .i64 S0, .int .i64 m, .int .i64 P0, .int .i64 P1, .int .i64 P1, .int .i64 P1]] w' (Gives (.int .i64 P1) w')) := ⟨fun w' => quadLimit_c _ _ _ _ _ _ _ _ _ _ _ w'⟩
    obtain ⟨t, ht⟩ : ∃ t, (NN - K0) / 3 = t := ⟨_, rfl⟩
    have ht2 : (NN - K0).tdiv 3 = t := by rw [Int.tdiv_eq_ediv_of_nonneg (by omega)]; exact ht
    have htb : 0 ≤ t ∧ t ≤ 1000 := by omega
    have hm3 : (m : Int) ≤ 40 := f1
    clear f2 f3 f4 f5 f6 f8 f9 f10 f11 f12 f13 hP0 hP1 hS0 hK0
    by_cases h1 : e < 0
    · rw [foldV, if_pos (by omega)] at cf
      clear ht ht2
      go_enter Try.func5, Try.ntmps5
      go_wp2_with (first | (go_at_call 16; (first | with_reducible refine use1 (cr.out _ (by repeat (first | exact Below.refl _ _ | refine Below.later ?_ _ | refine Below.box ?_ _ | refine Below.drew ?_ | refine Below.put ?_ (by dsimp only; omega) _))) ?_ | with_reducible refine use (cr.out _ (by repeat (first | exact Below.refl _ _ | refine Below.later ?_ _ | refine Below.box ?_ _ | refine Below.drew ?_ | refine Below.put ?_ (by dsimp only; omega) _))) ?_); intro pw) | (go_at_call 12; (first | with_reducible refine use1 (awake29_c _) ?_ | with_reducible refine use (awake29_c _) ?_); intro pw) | (go_at_call 18; (first | with_reducible refine use1 (co.out _) ?_ | with_reducible refine use (co.out _) ?_); intro pw) | (go_at_call 17; (first | with_reducible refine use1 (cf.out _) ?_ | with_reducible refine use (cf.out _) ?_); intro pw))
      first | refine region_quiet1 (by kernel_rfl) ?_ | refine region_quiet (by kernel_rfl) ?_
      repeat (go_big_quiet_step (first | (go_at_call 18; with_reducible exact quiet (co.out _)) | (go_at_call 19; with_reducible exact quiet (cl.out _)) | (go_at_call 20; with_reducible exact quiet (cq.out _))))
      refine wpQuiet_nil ?_
      intro _
      go_wp2
      go_ret
      exact ⟨rfl, (by repeat (first | exact Below.refl _ _ | refine Below.later ?_ _ | refine Below.box ?_ _ | refine Below.drew ?_ | refine Below.put ?_ (by dsimp only; omega) _))⟩
    by_cases h2 : t < e
    · rw [foldV, if_pos (by omega)] at cf
      go_enter Try.func5, Try.ntmps5
      go_wp2_with (first | (go_at_call 16; (first | with_reducible refine use1 (cr.out _ (by repeat (first | exact Below.refl _ _ | refine Below.later ?_ _ | refine Below.box ?_ _ | refine Below.drew ?_ | refine Below.put ?_ (by dsimp only; omega) _))) ?_ | with_reducible refine use (cr.out _ (by repeat (first | exact Below.refl _ _ | refine Below.later ?_ _ | refine Below.box ?_ _ | refine Below.drew ?_ | refine Below.put ?_ (by dsimp only; omega) _))) ?_); intro pw) | (go_at_call 12; (first | with_reducible refine use1 (awake29_c _) ?_ | with_reducible refine use (awake29_c _) ?_); intro pw) | (go_at_call 18; (first | with_reducible refine use1 (co.out _) ?_ | with_reducible refine use (co.out _) ?_); intro pw) | (go_at_call 17; (first | with_reducible refine use1 (cf.out _) ?_ | with_reducible refine use (cf.out _) ?_); intro pw))
      first | refine region_quiet1 (by kernel_rfl) ?_ | refine region_quiet (by kernel_rfl) ?_
      repeat (go_big_quiet_step (first | (go_at_call 18; with_reducible exact quiet (co.out _)) | (go_at_call 19; with_reducible exact quiet (cl.out _)) | (go_at_call 20; with_reducible exact quiet (cq.out _))))
      refine wpQuiet_nil ?_
      intro _
      go_wp2
      go_ret
      exact ⟨rfl, (by repeat (first | exact Below.refl _ _ | refine Below.later ?_ _ | refine Below.box ?_ _ | refine Below.drew ?_ | refine Below.put ?_ (by dsimp only; omega) _))⟩
    · rw [foldV, if_neg (by omega)] at cf
      have h3 : decide (t < e) = false := by simp; omega
      have h4 : e ≤ 1000 := by omega
      go_enter Try.func5, Try.ntmps5
      go_wp2_with (first | (go_at_call 16; (first | with_reducible refine use1 (cr.out _ (by repeat (first | exact Below.refl _ _ | refine Below.later ?_ _ | refine Below.box ?_ _ | refine Below.drew ?_ | refine Below.put ?_ (by dsimp only; omega) _))) ?_ | with_reducible refine use (cr.out _ (by repeat (first | exact Below.refl _ _ | refine Below.later ?_ _ | refine Below.box ?_ _ | refine Below.drew ?_ | refine Below.put ?_ (by dsimp only; omega) _))) ?_); intro pw) | (go_at_call 12; (first | with_reducible refine use1 (awake29_c _) ?_ | with_reducible refine use (awake29_c _) ?_); intro pw) | (go_at_call 18; (first | with_reducible refine use1 (co.out _) ?_ | with_reducible refine use (co.out _) ?_); intro pw) | (go_at_call 17; (first | with_reducible refine use1 (cf.out _) ?_ | with_reducible refine use (cf.out _) ?_); intro pw))
      first | refine region_quiet1 (by kernel_rfl) ?_ | refine region_quiet (by kernel_rfl) ?_
      repeat (go_big_quiet_step (first | (go_at_call 18; with_reducible exact quiet (co.out _)) | (go_at_call 19; with_reducible exact quiet (cl.out _)) | (go_at_call 20; with_reducible exact quiet (cq.out _))))
      refine wpQuiet_nil ?_
      intro _
      go_wp2
      go_ret
      exact ⟨rfl, (by repeat (first | exact Below.refl _ _ | refine Below.later ?_ _ | refine Below.box ?_ _ | refine Below.drew ?_ | refine Below.put ?_ (by dsimp only; omega) _))⟩

set_option maxRecDepth 100000 in
theorem lifted (os : Os) (started : os.Started) (H : Type) (enc : TypeId × Value → H) :
    ReturnsInHanded {} Try.checked os 5 .any (Rows.soundnessLimitsSpec.pre6 enc Try.prog Try.f5 Rows.soundnessLimitsRow.domain false) (Rows.soundnessLimitsSpec.post enc Try.prog Try.f5 false true false false) := by
  refine returnsInHanded_of_change (C := Try.checked) own started (by kernel_rfl) Try.func5
    (ChangeSpec.witness6 (enc := enc) (C := Try.checked) false ⟨#[], #[.agg #[.int .u64 0, .int .i64 0, .int .i64 0, .slice none 0 0, .int .i64 0, .int .i64 0, .int .i64 0, .slice none 0 0], .int .i64 0], []⟩ 8 (by kernel_rfl) (by kernel_rfl) (by kernel_rfl) (by kernel_rfl)) ?_
  intro W base args ds gs before hval0 hW hcnd _
  have hval : ∀ (j : Nat) t v, Try.f5.params[j]? = some t → args[j]? = some v → Value.okWide Try.prog W .any base t v := hval0
  have hW0 : DataW.Whole enc Try.prog Try.f5.params.toList Rows.soundnessLimitsSpec.vars false W args.toList ds gs before := hW
  obtain ⟨p, q, hA0, hV, rfl, _, _⟩ := hW
  have hA : DataW.TrodAll enc Try.prog W 0 (fun _ => true) true Try.f5.params.toList args.toList ds p := hA0
  rw [Try.params5] at hA hval
  obtain ⟨v0, vs0, d0, ds0, p0, q0, hargs, rfl, rfl, h0, r0⟩ := trodAll_cons hA
  obtain ⟨v1, vs1, d1, ds1, p1, q1, rfl, rfl, rfl, h1, r1⟩ := trodAll_cons r0
  obtain ⟨rfl, rfl, rfl⟩ := trodAll_nil r1
  obtain rfl : args = #[v0, v1] := by cases args; simp_all
  obtain ⟨rfl, rfl⟩ := trodVars_none hV
  obtain ⟨a0x, a0y, a0z, a0u, a0v, a0t, a0r, a0s, a0q, a0o, a0m, a0k, rfl, u0⟩ := open_case (hval 0 38 v0 rfl rfl) h0
  obtain ⟨a1, rfl, u1⟩ := open_int64 (hval 1 3 v1 rfl rfl)
  clear hA0 hval0
  refine (walk W a0x a0y a0z a0u a0v a0t a0r a0s a0q a0o a0m a0k u0 a1 u1).mono fun e W' ⟨he, hb⟩ => ⟨.bool true, he, ?_⟩
  exact law_post (fun t ht => by have ht' : t ∈ [38, 3] := ht; simp only [List.mem_cons, List.not_mem_nil, or_false] at ht'; rcases ht' with rfl | rfl <;> exact ⟨by kernel_rfl, of_decide_eq_true (by kernel_rfl)⟩) rfl rfl hW0 rfl hb

theorem over : Rows.soundnessLimitsRow.holds Try.pinned (OpenSpec.ofChange Rows.soundnessLimitsSpec) :=
  OpenClaim.holds_of_wide 5 Try.f5 rfl rfl rfl rfl rfl rfl rfl ⟨rfl, rfl, rfl, rfl, rfl⟩ rfl rfl rfl rfl rfl (by kernel_rfl) Try.func5 (by kernel_rfl)
    (of_decide_eq_true (by kernel_rfl)) (by unfold Func.isWrapper; first | (rw [if_pos (by decide +kernel)]; kernel_rfl) | (rw [if_neg (by decide +kernel)]; exact ⟨rfl, rfl⟩))
    (fun os started H enc _ => lifted os started H enc)

/-- The statement. -/
theorem proved : Rows.SoundnessLimitsSaid := over
#print axioms proved
end Go.Proofs.Ytkpkgjniicnkcaa.soundnessLimits
