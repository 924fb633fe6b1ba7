/- moidoreref05: Valid, ok, Reduce. -/
import Derived.Test.YtjnlnbkdnjainaaHLinA
import Derived.Test.YtjnlnbkdnjainaaHRel
namespace Go.Proofs.Ytjnlnbkdnjainaa
open Go.RowKit Go.Sort

set_option maxRecDepth 100000
set_option maxHeartbeats 4000000 in
theorem rvalidm_c (u : Option Addr) (c : Nat) (ls : List (List Int)) (w : World) (h1 : Mt w u ls) : Calls Try.prog 38 #[.slice u ls.length c] w (Gives (.bool (vldM ls)) w) := by
  have hs := h1.small
  obtain ⟨n, hn⟩ : ∃ n, ls.length = n := ⟨_, rfl⟩
  obtain ⟨V, hV⟩ : ∃ V, vldM ls = V := ⟨_, rfl⟩
  have kV := (⟨hV⟩ : Kept _)
  have kn := (⟨hn⟩ : Kept _)
  have k1 := (⟨h1.get hn⟩ : Kept _)
  obtain ⟨m, hm⟩ : ∃ m, colsN ls = m := ⟨_, rfl⟩
  have km := (⟨hm⟩ : Kept _)
  have hm0 : (m : Int) ≤ 9223372036854775807 := by
    rw [← hm]
    cases ls with
    | nil => simp [colsN]
    | cons a t =>
      obtain ⟨b, o, l, v, d, _, hx, _, _, hL⟩ := h1.get hn 0 (by rw [← hn]; simp)
      simp at hx; subst hx; exact hL.small
  rw [hn] at hs ⊢
  rw [hV]
  clear h1 hn hV hm
  go_enter Try.func38, Try.ntmps38
  go_wp2
  go_loopw [3] (fun v wr => ∃ (k : Nat) (q : Regrown), v = .int .i64 (k : Int) ∧ wr = after w q ∧ k ≤ n ∧ Kept (∀ k' l, k' < k → ls[k']? = some l → l.length = m ∧ m ≤ 64)) (fun v _ => (n : Int).toNat - (intOf v).toNat)
  case atStart => exact ⟨0, ⟨w.drawn, #[]⟩, rfl, (after_none w).symm, by omega, ⟨fun k' l h => absurd h (by omega)⟩⟩
  case round =>
    obtain ⟨k, q, rfl, rfl, hk, hI⟩ := hrel
    by_cases h : k < n
    · obtain ⟨b1, o1, l, v1, d1, rfl, hx1, hb1, hc1, hL1⟩ := k1.out k h
      obtain ⟨b2, o2, l0, v2, d2, hbo, hx0, hb2, hc2, hL2⟩ := k1.out 0 (by omega)
      injection hbo with hbo
      injection hbo with hb3 ho3
      subst hb3 ho3
      have hl0 : l0.length = m := by rw [← km.out, colsN_at hx0]
      rw [hl0, Nat.add_zero] at hc2
      have hll := hL1.small
      have hn0 : (0 : Int) < (n : Int) := by omega
      by_cases hx : l.length = m
      · rw [hx] at hc1
        by_cases g : m ≤ 64
        · have hI2 : Kept (∀ k' l, k' < k + 1 → ls[k']? = some l → l.length = m ∧ m ≤ 64) := ⟨fun k' l' hk' hl' => by
            by_cases e : k' = k
            · rw [e, hx1] at hl'; injection hl' with hl'; rw [← hl', hx]; exact ⟨rfl, g⟩
            · exact hI.out k' l' (by omega) hl'⟩
          have g2a : decide ((m : Int) > 64) = false := by simp; omega
          have g2b : decide (64 < (m : Int)) = false := by simp; omega
          clear hI hx1 hx hL1 hll k1 hx0 hL2 hl0
          go_wp2
          first | refine region_quiet1 (by kernel_rfl) ?_ | refine region_quiet (by kernel_rfl) ?_
          repeat (go_big_quiet_step (first | fail))
          refine wpQuiet_nil ?_
          intro _
          go_wp2
          go_roundw
          case rel => exact ⟨k + 1, _, by go_num, rfl, by omega, hI2⟩
          case measure => first | (simp [intOf]; omega) | (simp [intOf]; done)
        · have hF : V = false := by rw [← kV.out]; exact vldM_no (List.mem_of_getElem? hx1) (.inr (by omega))
          have g2a : decide ((m : Int) > 64) = true := by simp; omega
          have g2b : decide (64 < (m : Int)) = true := by simp; omega
          subst hF
          clear hI hx1 hx hL1 hll k1 hx0 hL2 hl0
          go_wp2
          first | refine region_quiet1 (by kernel_rfl) ?_ | refine region_quiet (by kernel_rfl) ?_
          repeat (go_big_quiet_step (first | fail))
          refine wpQuiet_nil ?_
          intro _
          go_wp2
          go_ret
          exact ⟨rfl, (by repeat (first | exact Below.refl _ _ | refine Below.later ?_ _ | refine Below.box ?_ _ | refine Below.drew ?_ | refine Below.put ?_ (by dsimp only; omega) _))⟩
      · have hF : V = false := by rw [← kV.out]; exact vldM_no (List.mem_of_getElem? hx1) (.inl (by rw [km.out]; exact hx))
        have hxb : ((l.length : Int) != (m : Int)) = true := by simp; omega
        subst hF
        clear hI hx1 hx hL1 k1 hx0 hL2 hl0
        generalize l.length = ll at *
        go_wp2
        first | refine region_quiet1 (by kernel_rfl) ?_ | refine region_quiet (by kernel_rfl) ?_
        repeat (go_big_quiet_step (first | fail))
        refine wpQuiet_nil ?_
        intro _
        go_wp2
        go_ret
        exact ⟨rfl, (by repeat (first | exact Below.refl _ _ | refine Below.later ?_ _ | refine Below.box ?_ _ | refine Below.drew ?_ | refine Below.put ?_ (by dsimp only; omega) _))⟩
    · have hV2 : V = decide (n ≤ 64) := by
        rw [← kV.out]
        by_cases g1 : n ≤ 64
        · rw [decide_eq_true g1]
          refine vldM_yes kn.out g1 ?_ (fun k' l hk' hl' => by rw [km.out]; exact (hI.out k' l (by omega) hl').1)
          rw [km.out]
          rcases Nat.eq_zero_or_pos n with e | e
          · have : ls = [] := List.length_eq_zero_iff.1 (by rw [kn.out]; exact e)
            have h2 := km.out
            rw [this] at h2
            simp [colsN] at h2; omega
          · obtain ⟨b2, o2, l0, v2, d2, _, hx0, _⟩ := k1.out 0 e
            exact (hI.out 0 l0 (by omega) hx0).2
        · rw [decide_eq_false g1]
          cases e : vldM ls with
          | false => rfl
          | true => have := (vldM_row e).1; have := kn.out; omega
      have hd : decide ((n : Int) ≤ 64) = V := by rw [hV2]; simp; omega
      clear hI k1
      go_wp2
      go_ret
      exact ⟨by first | rfl | (rw [hV2]; done) | (simp [hV2]; done) | (simp [← hd]; done) | (rw [← hd]; simp; done), (by repeat (first | exact Below.refl _ _ | refine Below.later ?_ _ | refine Below.box ?_ _ | refine Below.drew ?_ | refine Below.put ?_ (by dsimp only; omega) _))⟩
theorem rok_c (p : Int) (u : Option Addr) (c : Nat) (ls : List (List Int)) (w : World) (h1 : Mt w u ls) : Calls Try.prog 70 #[.int .u64 p, .slice u ls.length c] w (Gives (.bool (vld p && vldM ls)) w) := by
  have hs := h1.small
  have cv : Kept (∀ w, Calls Try.prog 74 #[.int .u64 p] w (Gives (.bool (vld p)) w)) := ⟨fun w => rvalid_c p w⟩
  have cl : Kept (∀ w', Below w.heap.size w w' → Calls Try.prog 38 #[.slice u ls.length c] w' (Gives (.bool (vldM ls)) w')) := ⟨fun w' hw => rvalidm_c u c ls w' (h1.below (Nat.le_refl _) hw)⟩
  generalize vldM ls = V at *
  generalize vld p = Q at *
  generalize ls.length = n at *
  clear h1
  cases Q
  · go_enter Try.func70, Try.ntmps70
    go_wp2_with (first | (go_at_call 74; (first | with_reducible refine use1 (cv.out _) ?_ | with_reducible refine use (cv.out _) ?_); intro pw) | (go_at_call 38; (first | with_reducible refine use1 (cl.out _ (by repeat (first | exact Below.refl _ _ | refine Below.later ?_ _ | refine Below.box ?_ _ | refine Below.drew ?_ | refine Below.put ?_ (by dsimp only; omega) _))) ?_ | with_reducible refine use (cl.out _ (by repeat (first | exact Below.refl _ _ | refine Below.later ?_ _ | refine Below.box ?_ _ | refine Below.drew ?_ | refine Below.put ?_ (by dsimp only; omega) _))) ?_); intro pw))
    go_ret
    exact ⟨rfl, (by repeat (first | exact Below.refl _ _ | refine Below.later ?_ _ | refine Below.box ?_ _ | refine Below.drew ?_ | refine Below.put ?_ (by dsimp only; omega) _))⟩
  · go_enter Try.func70, Try.ntmps70
    go_wp2_with (first | (go_at_call 74; (first | with_reducible refine use1 (cv.out _) ?_ | with_reducible refine use (cv.out _) ?_); intro pw) | (go_at_call 38; (first | with_reducible refine use1 (cl.out _ (by repeat (first | exact Below.refl _ _ | refine Below.later ?_ _ | refine Below.box ?_ _ | refine Below.drew ?_ | refine Below.put ?_ (by dsimp only; omega) _))) ?_ | with_reducible refine use (cl.out _ (by repeat (first | exact Below.refl _ _ | refine Below.later ?_ _ | refine Below.box ?_ _ | refine Below.drew ?_ | refine Below.put ?_ (by dsimp only; omega) _))) ?_); intro pw))
    go_ret
    exact ⟨by simp, (by repeat (first | exact Below.refl _ _ | refine Below.later ?_ _ | refine Below.box ?_ _ | refine Below.drew ?_ | refine Below.put ?_ (by dsimp only; omega) _))⟩
end Go.Proofs.Ytjnlnbkdnjainaa
