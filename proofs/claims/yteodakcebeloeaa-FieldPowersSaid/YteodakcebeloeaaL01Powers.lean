/- FieldPowers: for any P, any number and any count the call returns true: Powers gives the first powers of the number, or none. No condition. -/
import Derived.Test.YteodakcebeloeaaLaw
import Derived.Test.YteodakcebeloeaaL01a
import Derived.Test.YteodakcebeloeaaMake
namespace Go.Proofs.Yteodakcebeloeaa.fieldPowers
open Go.ChangeShapes Go.WideShapes Go.ChangeAt Go.RowKit

theorem walk (p : Int) (_hp : U p) (a : Int) (ha : U a) (n : Int) (hn : -9223372036854775808 ≤ n ∧ n ≤ 9223372036854775807) (w : World) : Calls Try.prog 10 #[.int .u64 p, .int .u64 a, .int .i64 n] w (Gives (.bool true) w) := by
  obtain ⟨n0, n1⟩ := hn
  by_cases h1 : 300 < n ∧ n ≤ 65536
  · obtain ⟨h1, h2⟩ := h1
    clear ha
    go_enter Try.func10, Try.ntmps10
    go_wp2_with (first | (go_at_call 12; (first | with_reducible refine use1 (awake01_c _) ?_ | with_reducible refine use (awake01_c _) ?_); intro pw))
    repeat (
      (first | refine region_quiet1 (by kernel_rfl) ?_ | refine region_quiet (by kernel_rfl) ?_)
      repeat (go_big_quiet_step (first | (go_at_call 12; with_reducible exact quiet (awake01_c _))))
      refine wpQuiet_nil ?_
      intro _
      go_wp2_with (first | (go_at_call 12; (first | with_reducible refine use1 (awake01_c _) ?_ | with_reducible refine use (awake01_c _) ?_); intro pw)))
    go_ret
    exact ⟨rfl, (by repeat (first | exact Below.refl _ _ | refine Below.later ?_ _ | refine Below.box ?_ _ | refine Below.drew ?_ | refine Below.put ?_ (by dsimp only; omega) _))⟩
  · have hz : ∀ h : vld p = false ∨ n < 0 ∨ 65536 < n, Kept (∀ w, Calls Try.prog 41 #[.agg #[.int .u64 p], .int .u64 a, .int .i64 n] w (Gives (.slice none 0 0) w)) := fun h => ⟨fun w => powers_none p a n w h⟩
    by_cases h2 : n < 0
    · have c := hz (.inr (.inl h2))
      clear ha hz h1
      go_enter Try.func10, Try.ntmps10
      go_wp2_with (first | (go_at_call 12; (first | with_reducible refine use1 (awake01_c _) ?_ | with_reducible refine use (awake01_c _) ?_); intro pw) | (go_at_call 41; (first | with_reducible refine use1 (c.out _) ?_ | with_reducible refine use (c.out _) ?_); intro pw))
      repeat (
        (first | refine region_quiet1 (by kernel_rfl) ?_ | refine region_quiet (by kernel_rfl) ?_)
        repeat (go_big_quiet_step (first | (go_at_call 12; with_reducible exact quiet (awake01_c _)) | (go_at_call 41; with_reducible exact quiet (c.out _))))
        refine wpQuiet_nil ?_
        intro _
        go_wp2_with (first | (go_at_call 12; (first | with_reducible refine use1 (awake01_c _) ?_ | with_reducible refine use (awake01_c _) ?_); intro pw) | (go_at_call 41; (first | with_reducible refine use1 (c.out _) ?_ | with_reducible refine use (c.out _) ?_); intro pw)))
      go_ret
      exact ⟨rfl, (by repeat (first | exact Below.refl _ _ | refine Below.later ?_ _ | refine Below.box ?_ _ | refine Below.drew ?_ | refine Below.put ?_ (by dsimp only; omega) _))⟩
    · by_cases h3 : 65536 < n
      · have c := hz (.inr (.inr h3))
        clear ha hz h1
        have h4 : 300 < n := by omega
        go_enter Try.func10, Try.ntmps10
        go_wp2_with (first | (go_at_call 12; (first | with_reducible refine use1 (awake01_c _) ?_ | with_reducible refine use (awake01_c _) ?_); intro pw) | (go_at_call 41; (first | with_reducible refine use1 (c.out _) ?_ | with_reducible refine use (c.out _) ?_); intro pw))
        repeat (
          (first | refine region_quiet1 (by kernel_rfl) ?_ | refine region_quiet (by kernel_rfl) ?_)
          repeat (go_big_quiet_step (first | (go_at_call 12; with_reducible exact quiet (awake01_c _)) | (go_at_call 41; with_reducible exact quiet (c.out _))))
          refine wpQuiet_nil ?_
          intro _
          go_wp2_with (first | (go_at_call 12; (first | with_reducible refine use1 (awake01_c _) ?_ | with_reducible refine use (awake01_c _) ?_); intro pw) | (go_at_call 41; (first | with_reducible refine use1 (c.out _) ?_ | with_reducible refine use (c.out _) ?_); intro pw)))
        go_ret
        exact ⟨rfl, (by repeat (first | exact Below.refl _ _ | refine Below.later ?_ _ | refine Below.box ?_ _ | refine Below.drew ?_ | refine Below.put ?_ (by dsimp only; omega) _))⟩
      · have h5 : n ≤ 300 := by omega
        obtain ⟨m, rfl⟩ := Int.eq_ofNat_of_zero_le (a := n) (by omega)
        cases hv : vld p
        · have c := hz (.inl hv)
          have cv : Kept (∀ w, Calls Try.prog 35 #[.int .u64 p] w (Gives (.bool false) w)) := ⟨fun w => by have := rvalid_c p w; rw [hv] at this; exact this⟩
          clear ha hz h1 hv
          go_enter Try.func10, Try.ntmps10
          go_wp2_with (first | (go_at_call 12; (first | with_reducible refine use1 (awake01_c _) ?_ | with_reducible refine use (awake01_c _) ?_); intro pw) | (go_at_call 41; (first | with_reducible refine use1 (c.out _) ?_ | with_reducible refine use (c.out _) ?_); intro pw) | (go_at_call 35; (first | with_reducible refine use1 (cv.out _) ?_ | with_reducible refine use (cv.out _) ?_); intro pw))
          repeat (
            (first | refine region_quiet1 (by kernel_rfl) ?_ | refine region_quiet (by kernel_rfl) ?_)
            repeat (go_big_quiet_step (first | (go_at_call 12; with_reducible exact quiet (awake01_c _)) | (go_at_call 41; with_reducible exact quiet (c.out _)) | (go_at_call 35; with_reducible exact quiet (cv.out _))))
            refine wpQuiet_nil ?_
            intro _
            go_wp2_with (first | (go_at_call 12; (first | with_reducible refine use1 (awake01_c _) ?_ | with_reducible refine use (awake01_c _) ?_); intro pw) | (go_at_call 41; (first | with_reducible refine use1 (c.out _) ?_ | with_reducible refine use (c.out _) ?_); intro pw) | (go_at_call 35; (first | with_reducible refine use1 (cv.out _) ?_ | with_reducible refine use (cv.out _) ?_); intro pw)))
          go_ret
          exact ⟨rfl, (by repeat (first | exact Below.refl _ _ | refine Below.later ?_ _ | refine Below.box ?_ _ | refine Below.drew ?_ | refine Below.put ?_ (by dsimp only; omega) _))⟩
        · have hp1 := vld_pos hv
          have c : Kept (∀ w, Calls Try.prog 41 #[.agg #[.int .u64 p], .int .u64 a, .int .i64 (m : Int)] w (GivesN m (powL p a m) w)) := ⟨fun w => givesN (by simp [powL]) (powers_c p a m w ha hv (by omega))⟩
          have cv : Kept (∀ w, Calls Try.prog 35 #[.int .u64 p] w (Gives (.bool true) w)) := ⟨fun w => by have := rvalid_c p w; rw [hv] at this; exact this⟩
          have cm : Kept (∀ k w, Calls Try.prog 22 #[.int .u64 p, .int .u64 (a ^ k % p), .int .u64 a] w (Gives (.int .u64 (a ^ (k + 1) % p)) w)) := ⟨fun k w => by
            have h0 := emod_nonneg_pos (a ^ k) (p := p) (by omega)
            have h1 := emod_lt_pos (a ^ k) (p := p) (by omega)
            have := rmul_c p (a ^ k % p) a w ⟨by omega, by omega⟩ ha
            rw [fmul, if_pos hv, em_mul_l, ← Int.pow_succ] at this; exact this⟩
          have h01 : Kept (a ^ 0 % p = 1) := ⟨by rw [Int.pow_zero, Int.emod_eq_of_lt (by omega) (by omega)]⟩
          clear ha hz h1 hv
          go_enter Try.func10, Try.ntmps10
          go_wp2_with (first | (go_at_call 12; (first | with_reducible refine use1 (awake01_c _) ?_ | with_reducible refine use (awake01_c _) ?_); intro pw) | (go_at_call 41; with_reducible refine useN1 (c.out _) ?_; intro pl bl hl) | (go_at_call 35; with_reducible refine use (cv.out _) ?_; intro pv))
          go_loopw [8, 47] (fun vs v wr => ∃ (s : Int) (k : Nat) (q : Regrown), vs = .int .u64 s ∧ v = .int .i64 (k : Int) ∧ k ≤ m ∧ wr = after (after w pl) q ∧ Kept (s = a ^ k % p)) (fun _ v _ => (m : Int).toNat - (intOf v).toNat)
          case atStart => exact ⟨1, 0, _, rfl, rfl, by omega, rfl, ⟨by rw [h01.out]⟩⟩
          case round =>
            obtain ⟨s, k, q, rfl, rfl, hk, rfl, hs⟩ := hrel
            by_cases h : k < m
            · obtain ⟨b1, o1, x1, hbl, hx1, hb1, hc1, hU1⟩ := hl.out.at_ (k := k) (by simp [powL]; exact h)
              obtain ⟨rfl, rfl⟩ : bl = b1 ∧ 0 = o1 := by injection hbl with hbl; injection hbl with e1 e2 _; exact ⟨e1, e2⟩
              have hxs : x1 = s := by
                unfold powL at hx1
                rw [List.getElem?_map, List.getElem?_range h] at hx1
                injection hx1 with hx1; rw [← hx1, hs.out]
              subst hxs
              rw [Nat.zero_add] at hc1
              have hb2 : bl < w.heap.size + pl.os.size := by simpa using hb1
              have cm2 : Kept (∀ w, Calls Try.prog 22 #[.int .u64 p, .int .u64 x1, .int .u64 a] w (Gives (.int .u64 (a ^ (k + 1) % p)) w)) := ⟨fun w => by rw [hs.out]; exact cm.out k w⟩
              have hs2 : Kept (a ^ (k + 1) % p = a ^ (k + 1) % p) := ⟨rfl⟩
              clear hs hx1 hl cm hU1 hb1 hbl h01
              generalize hz : a ^ (k + 1) % p = z at cm2
              rw [hz] at hs2
              have hz' : Kept (z = a ^ (k + 1) % p) := ⟨hz.symm⟩
              clear hz hs2
              go_wp2_with (first | (go_at_call 22; (first | with_reducible refine use1 (cm2.out _) ?_ | with_reducible refine use (cm2.out _) ?_); intro pw))
              repeat (
                (first | refine region_quiet1 (by kernel_rfl) ?_ | refine region_quiet (by kernel_rfl) ?_)
                repeat (go_big_quiet_step (first | (go_at_call 22; with_reducible exact quiet (cm2.out _))))
                refine wpQuiet_nil ?_
                intro _
                go_wp2_with (first | (go_at_call 22; (first | with_reducible refine use1 (cm2.out _) ?_ | with_reducible refine use (cm2.out _) ?_); intro pw)))
              go_roundw
              case rel => exact ⟨z, k + 1, _, rfl, by go_num, by omega, rfl, hz'⟩
              case measure => first | (simp [intOf]; omega) | (simp [intOf]; done)
            · have hkm : k = m := by omega
              subst hkm
              clear hs hl cm h01
              go_wp2
              go_ret
              exact ⟨rfl, (by repeat (first | exact Below.refl _ _ | refine Below.later ?_ _ | refine Below.box ?_ _ | refine Below.drew ?_ | refine Below.put ?_ (by dsimp only; omega) _))⟩

set_option maxRecDepth 100000 in
theorem lifted (os : Os) (started : os.Started) (H : Type) (enc : TypeId × Value → H) :
    ReturnsInHanded {} Try.checked os 10 .any (Rows.fieldPowersSpec.pre6 enc Try.prog Try.f10 Rows.fieldPowersRow.domain false) (Rows.fieldPowersSpec.post enc Try.prog Try.f10 false true false false) := by
  refine returnsInHanded_of_change (C := Try.checked) own started (by kernel_rfl) Try.func10
    (ChangeSpec.witness6 (enc := enc) (C := Try.checked) false ⟨#[], #[.int .u64 0, .int .u64 0, .int .i64 0], []⟩ 8 (by kernel_rfl) (by kernel_rfl) (by kernel_rfl) (by kernel_rfl)) ?_
  intro W base args ds gs before hval0 hW hcnd _
  have hval : ∀ (j : Nat) t v, Try.f10.params[j]? = some t → args[j]? = some v → Value.okWide Try.prog W .any base t v := hval0
  have hW0 : DataW.Whole enc Try.prog Try.f10.params.toList Rows.fieldPowersSpec.vars false W args.toList ds gs before := hW
  obtain ⟨p, q, hA0, hV, rfl, _, _⟩ := hW
  have hA : DataW.TrodAll enc Try.prog W 0 (fun _ => true) true Try.f10.params.toList args.toList ds p := hA0
  rw [Try.params10] at hA hval
  obtain ⟨v0, vs0, d0, ds0, p0, q0, hargs, rfl, rfl, h0, r0⟩ := trodAll_cons hA
  obtain ⟨v1, vs1, d1, ds1, p1, q1, rfl, rfl, rfl, h1, r1⟩ := trodAll_cons r0
  obtain ⟨v2, vs2, d2, ds2, p2, q2, rfl, rfl, rfl, h2, r2⟩ := trodAll_cons r1
  obtain ⟨rfl, rfl, rfl⟩ := trodAll_nil r2
  obtain rfl : args = #[v0, v1, v2] := by cases args; simp_all
  obtain ⟨rfl, rfl⟩ := trodVars_none hV
  obtain ⟨a0, rfl, u0⟩ := open_u64 (hval 0 22 v0 rfl rfl)
  obtain ⟨a1, rfl, u1⟩ := open_u64 (hval 1 22 v1 rfl rfl)
  obtain ⟨a2, rfl, u2⟩ := open_int64 (hval 2 3 v2 rfl rfl)
  clear hA0 hval0
  refine (walk a0 u0 a1 u1 a2 u2 W).mono fun e W' ⟨he, hb⟩ => ⟨.bool true, he, ?_⟩
  exact law_post (fun t ht => by have ht' : t ∈ [22, 22, 3] := ht; simp only [List.mem_cons, List.not_mem_nil, or_false] at ht'; rcases ht' with rfl | rfl | rfl <;> exact ⟨by kernel_rfl, of_decide_eq_true (by kernel_rfl)⟩) rfl rfl hW0 rfl hb

theorem over : Rows.fieldPowersRow.holds Try.pinned (OpenSpec.ofChange Rows.fieldPowersSpec) :=
  OpenClaim.holds_of_wide 10 Try.f10 rfl rfl rfl rfl rfl rfl rfl ⟨rfl, rfl, rfl, rfl, rfl⟩ rfl rfl rfl rfl rfl (by kernel_rfl) Try.func10 (by kernel_rfl)
    (of_decide_eq_true (by kernel_rfl)) (by unfold Func.isWrapper; first | (rw [if_pos (by decide +kernel)]; kernel_rfl) | (rw [if_neg (by decide +kernel)]; exact ⟨rfl, rfl⟩))
    (fun os started H enc _ => lifted os started H enc)

/-- The statement. -/
theorem proved : Rows.FieldPowersSaid := over
#print axioms proved
end Go.Proofs.Yteodakcebeloeaa.fieldPowers
