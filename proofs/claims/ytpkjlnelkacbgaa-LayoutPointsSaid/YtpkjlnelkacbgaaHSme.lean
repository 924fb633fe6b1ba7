/- Equality of lists and of rows of lists: moidoreref04.Same, moidoreref24.Same. -/
import Derived.Test.YtpkjlnelkacbgaaQC
namespace Go.Proofs.Ytpkjlnelkacbgaa
open Go.RowKit Go.Sort

set_option maxRecDepth 100000
theorem same04_c (u1 u2 : Option Addr) (c1 c2 : Nat) (l1 l2 : List Int) (w : World) (h1 : Ls w u1 l1) (h2 : Ls w u2 l2) :
    Calls Try.prog 28 #[.slice u1 l1.length c1, .slice u2 l2.length c2] w (Gives (.bool (decide (l1 = l2))) w) := by
  by_cases hlen : l1.length = l2.length
  · have hs := h1.small
    obtain ⟨n, hn⟩ : ∃ n, l1.length = n := ⟨_, rfl⟩
    have hn2 : l2.length = n := by omega
    rw [hn] at hs
    have k1 : Kept (∀ k, k < n → ∃ b o x, u1 = some ⟨b, o, none⟩ ∧ l1[k]? = some x ∧ b < w.heap.size ∧ w.cell? ⟨b, o + k, none⟩ = some (.int .u64 x) ∧ U x) := ⟨h1.get hn⟩
    have k2 : Kept (∀ k, k < n → ∃ b o x, u2 = some ⟨b, o, none⟩ ∧ l2[k]? = some x ∧ b < w.heap.size ∧ w.cell? ⟨b, o + k, none⟩ = some (.int .u64 x) ∧ U x) := ⟨h2.get hn2⟩
    have e1 : Kept (l1.length = n) := ⟨hn⟩
    have e2 : Kept (l2.length = n) := ⟨hn2⟩
    rw [hn, hn2]
    clear hlen h1 h2 hn hn2
    go_enter Try.func28, Try.ntmps28
    go_wp2
    go_loopw [5] (fun v wr => ∃ (k : Nat) (q : Regrown), v = .int .i64 (k : Int) ∧ wr = after w q ∧ k ≤ n ∧ Kept (l1.take k = l2.take k)) (fun v _ => (n : Int).toNat - (intOf v).toNat)
    case atStart => exact ⟨0, ⟨w.drawn, #[]⟩, rfl, by simp [after_eq, Go.Sort.grow_empty]; rfl, by omega, ⟨by simp⟩⟩
    case round =>
      obtain ⟨k, q, rfl, rfl, hk, hI⟩ := hrel
      by_cases h : k < n
      · obtain ⟨b1, o1, x1, rfl, hx1, hb1, hc1, hU1⟩ := k1.out k h
        obtain ⟨b2, o2, x2, rfl, hx2, hb2, hc2, hU2⟩ := k2.out k h
        by_cases hx : x1 = x2
        · have hI2 : Kept (l1.take (k + 1) = l2.take (k + 1)) := ⟨by rw [take_next hx1, take_next hx2, hI.out, hx]⟩
          clear hI hx1 hx2 k1 k2 e1 e2 hU1 hU2
          subst hx
          go_wp2
          first | refine region_quiet1 (by kernel_rfl) ?_ | refine region_quiet (by kernel_rfl) ?_
          repeat (go_big_quiet_step (first | fail))
          refine wpQuiet_nil ?_
          intro _
          go_wp2
          go_roundw
          case rel => exact ⟨k + 1, _, by go_num, rfl, by omega, hI2⟩
          case measure => first | (simp [intOf]; omega) | (simp [intOf]; done)
        · have hno : Kept (decide (l1 = l2) = false) := ⟨by
            rw [decide_eq_false_iff_not]; intro e; rw [e] at hx1; rw [hx1] at hx2; injection hx2 with hx2; exact hx hx2⟩
          have hxb : (x1 != x2) = true := by simp [hx]
          clear hI hx1 hx2 k1 k2 e1 e2 hU1 hU2 hx
          go_wp2
          first | refine region_quiet1 (by kernel_rfl) ?_ | refine region_quiet (by kernel_rfl) ?_
          repeat (go_big_quiet_step (first | fail))
          refine wpQuiet_nil ?_
          intro _
          go_wp2
          go_ret
          exact ⟨by rw [hno.out]; rfl, (by repeat (first | exact Below.refl _ _ | refine Below.later ?_ _ | refine Below.box ?_ _ | refine Below.drew ?_ | refine Below.put ?_ (by dsimp only; omega) _))⟩
      · have hI2 : Kept (decide (l1 = l2) = true) := ⟨by
          have hkn : k = n := by omega
          have := hI.out
          rw [List.take_of_length_le (by have := e1.out; omega), List.take_of_length_le (by have := e2.out; omega)] at this
          simp [this]⟩
        clear hI k1 k2 e1 e2
        go_wp2
        go_ret
        exact ⟨by rw [hI2.out]; rfl, (by repeat (first | exact Below.refl _ _ | refine Below.later ?_ _ | refine Below.box ?_ _ | refine Below.drew ?_ | refine Below.put ?_ (by dsimp only; omega) _))⟩
  · have hno : Kept (decide (l1 = l2) = false) := ⟨by rw [decide_eq_false_iff_not]; intro e; rw [e] at hlen; exact hlen rfl⟩
    have s1 := h1.small
    have s2 := h2.small
    generalize l1.length = n1 at *
    generalize l2.length = n2 at *
    have hb : ((n1 : Int) != (n2 : Int)) = true := by simp; omega
    clear h1 h2
    go_enter Try.func28, Try.ntmps28
    go_wp2
    go_ret
    exact ⟨by rw [hno.out]; rfl, (by repeat (first | exact Below.refl _ _ | refine Below.later ?_ _ | refine Below.box ?_ _ | refine Below.drew ?_ | refine Below.put ?_ (by dsimp only; omega) _))⟩

set_option maxHeartbeats 4000000 in
/-- Rows of the same lengths compared. -/
theorem same24_c (u1 u2 : Option Addr) (c1 c2 : Nat) (xs ys : List (List Int)) (w : World) (h1 : Mt w u1 xs) (h2 : Mt w u2 ys) (hlen : xs.length = ys.length) :
    Calls Try.prog 18 #[.slice u1 xs.length c1, .slice u2 ys.length c2] w (Gives (.bool (decide (xs = ys))) w) := by
  obtain ⟨n, hn⟩ : ∃ n, xs.length = n := ⟨_, rfl⟩
  have hn2 : ys.length = n := by omega
  have hs := h1.small
  rw [hn] at hs
  have k1 := (⟨h1.get hn⟩ : Kept _)
  have k2 := (⟨h2.get hn2⟩ : Kept _)
  have e1 : Kept (xs.length = n ∧ ys.length = n) := ⟨hn, hn2⟩
  rw [hn, hn2]
  clear hlen h1 h2 hn hn2
  go_enter Try.func18, Try.ntmps18
  go_wp2
  go_loopw [5] (fun v wr => ∃ (k : Nat) (q : Regrown), v = .int .i64 (k : Int) ∧ wr = after w q ∧ k ≤ n ∧ Kept (xs.take k = ys.take k)) (fun v _ => (n : Int).toNat - (intOf v).toNat)
  case atStart => exact ⟨0, ⟨w.drawn, #[]⟩, rfl, (after_none w).symm, by omega, ⟨by simp⟩⟩
  case round =>
    obtain ⟨k, q, rfl, rfl, hk, hI⟩ := hrel
    by_cases h : k < n
    · obtain ⟨b1, o1, x, v1, d1, rfl, hx1, hb1, hc1, hL1⟩ := k1.out k h
      obtain ⟨b2, o2, y, v2, d2, rfl, hy1, hb2, hc2, hL2⟩ := k2.out k h
      have cs : Kept (∀ q, Calls Try.prog 28 #[.slice v1 x.length d1, .slice v2 y.length d2] (after w q) (Gives (.bool (decide (x = y))) (after w q))) := ⟨fun q => same04_c v1 v2 d1 d2 x y (after w q) (hL1.later q) (hL2.later q)⟩
      by_cases hx : x = y
      · have hI2 : Kept (xs.take (k + 1) = ys.take (k + 1)) := ⟨by rw [List.take_add_one, List.take_add_one, hx1, hy1, hI.out, hx]⟩
        rw [decide_eq_true hx] at cs
        clear hI hx1 hy1 k1 k2 hL1 hL2 hx
        generalize x.length = nx at *
        generalize y.length = ny at *
        go_wp2
        first | refine region_quiet1 (by kernel_rfl) ?_ | refine region_quiet (by kernel_rfl) ?_
        repeat (go_big_quiet_step (first | (go_at_call 28; with_reducible exact quiet (cs.out _))))
        refine wpQuiet_nil ?_
        intro _
        go_wp2
        go_roundw
        case rel => exact ⟨k + 1, _, by go_num, rfl, by omega, hI2⟩
        case measure => first | (simp [intOf]; omega) | (simp [intOf]; done)
      · have hno : Kept (decide (xs = ys) = false) := ⟨by
          rw [decide_eq_false_iff_not]; intro e; rw [e] at hx1; rw [hx1] at hy1; injection hy1 with hy1; exact hx hy1⟩
        rw [decide_eq_false hx] at cs
        clear hI hx1 hy1 k1 k2 hL1 hL2 hx
        generalize x.length = nx at *
        generalize y.length = ny at *
        go_wp2
        first | refine region_quiet1 (by kernel_rfl) ?_ | refine region_quiet (by kernel_rfl) ?_
        repeat (go_big_quiet_step (first | (go_at_call 28; with_reducible exact quiet (cs.out _))))
        refine wpQuiet_nil ?_
        intro _
        go_wp2
        go_ret
        exact ⟨by rw [hno.out]; rfl, (by repeat (first | exact Below.refl _ _ | refine Below.later ?_ _ | refine Below.box ?_ _ | refine Below.drew ?_ | refine Below.put ?_ (by dsimp only; omega) _))⟩
    · have hI2 : Kept (decide (xs = ys) = true) := ⟨by
        have := hI.out
        rw [List.take_of_length_le (by have := e1.out.1; omega), List.take_of_length_le (by have := e1.out.2; omega)] at this
        simp [this]⟩
      clear hI k1 k2
      go_wp2
      go_ret
      exact ⟨by rw [hI2.out]; rfl, (by repeat (first | exact Below.refl _ _ | refine Below.later ?_ _ | refine Below.box ?_ _ | refine Below.drew ?_ | refine Below.put ?_ (by dsimp only; omega) _))⟩
end Go.Proofs.Ytpkjlnelkacbgaa
