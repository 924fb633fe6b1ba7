/- The reference's Linear, row. -/
import Derived.Test.YtkpkgjniicnkcaaHTab
namespace Go.Proofs.Ytkpkgjniicnkcaa
open Go.RowKit Go.Sort

theorem rlinear_c (p n : Int) (u : Option Addr) (c : Nat) (l : List (Int × Int)) (w : World) (h1 : Tm w u l) :
    Calls Try.prog 82 #[.int .u64 p, .slice u l.length c, .int .i64 n] w (Gives (.bool (linB p n (-1) l)) w) := by
  obtain ⟨m, hm⟩ : ∃ m, l.length = m := ⟨_, rfl⟩
  have hs1 := h1.small
  have k1 := (⟨h1.get hm⟩ : Kept _)
  have e1 : Kept (l.length = m) := ⟨hm⟩
  rw [hm] at hs1 ⊢
  clear h1 hm
  go_enter Try.func82, Try.ntmps82
  go_wp2
  go_loopw [7] (fun v wr => ∃ (last : Int) (k : Nat) (q0 : Regrown), v = .int .i64 (k : Int) ∧ wr = after w q0 ∧ k ≤ m ∧ Kept (-1 ≤ last) ∧ Kept (k = 0 → last = -1) ∧ Kept (∀ j, k = j + 1 → ∃ y, l[j]? = some (last, y)) ∧ Kept (linB p n (-1) l = linB p n last (l.drop k))) (fun v _ => (m : Int).toNat - (intOf v).toNat)
  case atStart => exact ⟨-1, 0, ⟨_, #[]⟩, rfl, by rw [after_none], by omega, ⟨by omega⟩, ⟨fun _ => rfl⟩, ⟨fun j h => by omega⟩, ⟨by simp⟩⟩
  case round =>
    obtain ⟨last, k, q0, rfl, rfl, hk, hm1, hl0, hl1, hI⟩ := hrel
    by_cases h : k < m
    · obtain ⟨b1, o1, x1, y1, rfl, hx1, hb1, hc1, hc2, hX, hU1⟩ := k1.out k h
      have hlx : Kept (linB p n last (l.drop k) = (!(decide (x1 ≤ last)) && decide (x1 < n) && !(y1 == 0) && decide (y1 < p) && linB p n x1 (l.drop (k + 1)))) := ⟨by rw [drop_next hx1]; rfl⟩
      have hI2 : Kept (linB p n (-1) l = (!(decide (x1 ≤ last)) && decide (x1 < n) && !(y1 == 0) && decide (y1 < p) && linB p n x1 (l.drop (k + 1)))) := ⟨by rw [hI.out, hlx.out]⟩
      clear hI hlx
      by_cases t0 : x1 < 0
      · have hno : Kept (linB p n (-1) l = false) := ⟨by rw [hI2.out]; have : x1 ≤ last := by have := hm1.out; omega
                                                         simp [this]⟩
        clear hI2 k1 hx1 e1 hl1
        go_wp2
        first | refine region_quiet1 (by kernel_rfl) ?_ | refine region_quiet (by kernel_rfl) ?_
        repeat (go_big_quiet_step (first | fail))
        refine wpQuiet_nil ?_
        intro _
        go_wp2
        go_ret
        exact ⟨by rw [hno.out]; rfl, (by repeat (first | exact Below.refl _ _ | refine Below.later ?_ _ | refine Below.box ?_ _ | refine Below.drew ?_ | refine Below.put ?_ (by dsimp only; omega) _))⟩
      have d0 : decide (x1 < 0) = false := by simp; omega
      by_cases t1 : x1 ≥ n
      · have hno : Kept (linB p n (-1) l = false) := ⟨by rw [hI2.out]; have : ¬ x1 < n := by omega
                                                         simp [this]⟩
        clear hI2 k1 hx1 e1 hl1
        go_wp2
        first | refine region_quiet1 (by kernel_rfl) ?_ | refine region_quiet (by kernel_rfl) ?_
        repeat (go_big_quiet_step (first | fail))
        refine wpQuiet_nil ?_
        intro _
        go_wp2
        go_ret
        exact ⟨by rw [hno.out]; rfl, (by repeat (first | exact Below.refl _ _ | refine Below.later ?_ _ | refine Below.box ?_ _ | refine Below.drew ?_ | refine Below.put ?_ (by dsimp only; omega) _))⟩
      have d1 : decide (n ≤ x1) = false := by simp; omega
      rcases Nat.eq_zero_or_pos k with hk0 | hk0
      · subst hk0
        have hl := hl0.out rfl
        subst hl
        simp only [Nat.zero_mul, Nat.add_zero] at hc1 hc2
        clear hl1 hl0 k1 e1
        by_cases t3 : y1 = 0
        · have hno : Kept (linB p n (-1) l = false) := ⟨by rw [hI2.out]; simp [t3]⟩
          clear hI2 hx1
          subst t3
          go_wp2
          first | refine region_quiet1 (by kernel_rfl) ?_ | refine region_quiet (by kernel_rfl) ?_
          repeat (go_big_quiet_step (first | fail))
          refine wpQuiet_nil ?_
          intro _
          go_wp2
          go_ret
          exact ⟨by rw [hno.out]; rfl, (by repeat (first | exact Below.refl _ _ | refine Below.later ?_ _ | refine Below.box ?_ _ | refine Below.drew ?_ | refine Below.put ?_ (by dsimp only; omega) _))⟩
        have d3 : (y1 == 0) = false := by simp [t3]
        by_cases t4 : y1 ≥ p
        · have hno : Kept (linB p n (-1) l = false) := ⟨by rw [hI2.out, show decide (y1 < p) = false from by simp; omega]; simp⟩
          clear hI2 hx1
          go_wp2
          first | refine region_quiet1 (by kernel_rfl) ?_ | refine region_quiet (by kernel_rfl) ?_
          repeat (go_big_quiet_step (first | fail))
          refine wpQuiet_nil ?_
          intro _
          go_wp2
          go_ret
          exact ⟨by rw [hno.out]; rfl, (by repeat (first | exact Below.refl _ _ | refine Below.later ?_ _ | refine Below.box ?_ _ | refine Below.drew ?_ | refine Below.put ?_ (by dsimp only; omega) _))⟩
        have d4 : decide (p ≤ y1) = false := by simp; omega
        have hI3 : Kept (linB p n (-1) l = linB p n x1 (l.drop (0 + 1))) := ⟨by rw [hI2.out, show decide (x1 ≤ -1) = false from by simp; omega, show decide (x1 < n) = true from by simp; omega, d3, show decide (y1 < p) = true from by simp; omega]; rfl⟩
        have hx1' : Kept (l[0]? = some (x1, y1)) := ⟨hx1⟩
        clear hI2 hx1
        go_wp2
        first | refine region_quiet1 (by kernel_rfl) ?_ | refine region_quiet (by kernel_rfl) ?_
        repeat (go_big_quiet_step (first | fail))
        refine wpQuiet_nil ?_
        intro _
        go_wp2
        go_roundw
        case rel => exact ⟨x1, 0 + 1, _, by go_num, rfl, by omega, ⟨by omega⟩, ⟨fun e => by omega⟩, ⟨fun i e => ⟨y1, by rw [show i = 0 from by omega]; exact hx1'.out⟩⟩, hI3⟩
        case measure => first | (simp [intOf]; omega) | (simp [intOf]; done)
      · obtain ⟨j, rfl⟩ : ∃ j, k = j + 1 := ⟨k - 1, by omega⟩
        obtain ⟨y0, hy0⟩ := hl1.out j rfl
        obtain ⟨b2, o2, x2, y2, e2, hx2, hb2, hc3, hc4, hX2, hU2⟩ := k1.out j (by omega)
        rw [hx2] at hy0
        injection hy0 with hy0
        injection hy0 with hy0 _
        subst hy0
        injection e2 with e2
        injection e2 with e2 e3
        subst e2 e3
        clear hl1 hl0 hx2 k1 hc4 hU2 hX2 e1
        by_cases t2 : x2 ≥ x1
        · have hno : Kept (linB p n (-1) l = false) := ⟨by rw [hI2.out]; have : x1 ≤ x2 := by omega
                                                           simp [this]⟩
          clear hI2 hx1
          go_wp2
          first | refine region_quiet1 (by kernel_rfl) ?_ | refine region_quiet (by kernel_rfl) ?_
          repeat (go_big_quiet_step (first | fail))
          refine wpQuiet_nil ?_
          intro _
          go_wp2
          go_ret
          exact ⟨by rw [hno.out]; rfl, (by repeat (first | exact Below.refl _ _ | refine Below.later ?_ _ | refine Below.box ?_ _ | refine Below.drew ?_ | refine Below.put ?_ (by dsimp only; omega) _))⟩
        have d2 : decide (x1 ≤ x2) = false := by simp; omega
        by_cases t3 : y1 = 0
        · have hno : Kept (linB p n (-1) l = false) := ⟨by rw [hI2.out]; simp [t3]⟩
          clear hI2 hx1
          subst t3
          go_wp2
          first | refine region_quiet1 (by kernel_rfl) ?_ | refine region_quiet (by kernel_rfl) ?_
          repeat (go_big_quiet_step (first | fail))
          refine wpQuiet_nil ?_
          intro _
          go_wp2
          go_ret
          exact ⟨by rw [hno.out]; rfl, (by repeat (first | exact Below.refl _ _ | refine Below.later ?_ _ | refine Below.box ?_ _ | refine Below.drew ?_ | refine Below.put ?_ (by dsimp only; omega) _))⟩
        have d3 : (y1 == 0) = false := by simp [t3]
        by_cases t4 : y1 ≥ p
        · have hno : Kept (linB p n (-1) l = false) := ⟨by rw [hI2.out, show decide (y1 < p) = false from by simp; omega]; simp⟩
          clear hI2 hx1
          go_wp2
          first | refine region_quiet1 (by kernel_rfl) ?_ | refine region_quiet (by kernel_rfl) ?_
          repeat (go_big_quiet_step (first | fail))
          refine wpQuiet_nil ?_
          intro _
          go_wp2
          go_ret
          exact ⟨by rw [hno.out]; rfl, (by repeat (first | exact Below.refl _ _ | refine Below.later ?_ _ | refine Below.box ?_ _ | refine Below.drew ?_ | refine Below.put ?_ (by dsimp only; omega) _))⟩
        have d4 : decide (p ≤ y1) = false := by simp; omega
        have hI3 : Kept (linB p n (-1) l = linB p n x1 (l.drop ((j + 1) + 1))) := ⟨by rw [hI2.out, show decide (x1 ≤ x2) = false from by simp; omega, show decide (x1 < n) = true from by simp; omega, d3, show decide (y1 < p) = true from by simp; omega]; rfl⟩
        have hx1' : Kept (l[(j + 1)]? = some (x1, y1)) := ⟨hx1⟩
        clear hI2 hx1
        go_wp2
        first | refine region_quiet1 (by kernel_rfl) ?_ | refine region_quiet (by kernel_rfl) ?_
        repeat (go_big_quiet_step (first | fail))
        refine wpQuiet_nil ?_
        intro _
        go_wp2
        go_roundw
        case rel => exact ⟨x1, (j + 1) + 1, _, by go_num, rfl, by omega, ⟨by omega⟩, ⟨fun e => by omega⟩, ⟨fun i e => ⟨y1, by rw [show i = (j + 1) from by omega]; exact hx1'.out⟩⟩, hI3⟩
        case measure => first | (simp [intOf]; omega) | (simp [intOf]; done)
    · have hI2 : Kept (linB p n (-1) l = true) := ⟨by rw [hI.out, List.drop_eq_nil_of_le (by have := e1.out; omega)]; rfl⟩
      clear hI k1 hl0 hl1
      go_wp2
      go_ret
      exact ⟨by rw [hI2.out]; rfl, (by repeat (first | exact Below.refl _ _ | refine Below.later ?_ _ | refine Below.box ?_ _ | refine Below.drew ?_ | refine Below.put ?_ (by dsimp only; omega) _))⟩
end Go.Proofs.Ytkpkgjniicnkcaa
