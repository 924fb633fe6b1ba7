/- linear: columns, Valid, fits; the reference's Columns, Valid, ok. -/
import Derived.Test.YtjnlnbkdnjainaaQC
import Derived.Test.YtjnlnbkdnjainaaQB
namespace Go.Proofs.Ytjnlnbkdnjainaa
open Go.RowKit Go.Sort

set_option maxRecDepth 100000
def colsN : List (List Int) → Nat
  | [] => 0
  | l :: _ => l.length
def vldM (ls : List (List Int)) : Bool := decide (ls.length ≤ 64) && decide (colsN ls ≤ 64) && ls.all fun l => decide (l.length = colsN ls)
theorem colsN_at {ls : List (List Int)} {l : List Int} (h : ls[0]? = some l) : colsN ls = l.length := by
  cases ls with
  | nil => simp at h
  | cons a t => simp at h; rw [h]; rfl
theorem vldM_row {ls : List (List Int)} (h : vldM ls = true) : ls.length ≤ 64 ∧ colsN ls ≤ 64 ∧ ∀ l ∈ ls, l.length = colsN ls := by
  simp only [vldM, Bool.and_eq_true, decide_eq_true_eq, List.all_eq_true] at h
  exact ⟨h.1.1, h.1.2, h.2⟩
theorem vldM_no {ls : List (List Int)} {l : List Int} (hl : l ∈ ls) (h : l.length ≠ colsN ls ∨ 64 < l.length) : vldM ls = false := by
  cases e : vldM ls with
  | false => rfl
  | true =>
    have h2 := vldM_row e
    have := h2.2.2 l hl
    omega
theorem vldM_yes {ls : List (List Int)} {n : Nat} (hn : ls.length = n) (h1 : n ≤ 64) (h2 : colsN ls ≤ 64) (h : ∀ k l, k < n → ls[k]? = some l → l.length = colsN ls) : vldM ls = true := by
  simp only [vldM, Bool.and_eq_true, decide_eq_true_eq, List.all_eq_true]
  refine ⟨⟨by omega, h2⟩, fun l hl => ?_⟩
  obtain ⟨k, hk, e⟩ := List.getElem_of_mem hl
  exact h k l (by omega) (by rw [List.getElem?_eq_getElem hk, e])

theorem columns_c (u : Option Addr) (c : Nat) (ls : List (List Int)) (w : World) (h1 : Mt w u ls) : Calls Try.prog 55 #[.slice u ls.length c] w (Gives (.int .i64 (colsN ls)) w) := by
  have hs := h1.small
  obtain ⟨n, hn⟩ : ∃ n, ls.length = n := ⟨_, rfl⟩
  rw [hn] at hs ⊢
  by_cases h0 : n = 0
  · have hc : colsN ls = 0 := by
      have : ls = [] := List.length_eq_zero_iff.1 (by omega)
      rw [this]; rfl
    rw [hc]
    subst h0
    clear h1 hn hc
    go_enter Try.func55, Try.ntmps55
    go_wp2
    go_ret
    exact ⟨rfl, (by repeat (first | exact Below.refl _ _ | refine Below.later ?_ _ | refine Below.box ?_ _ | refine Below.drew ?_ | refine Below.put ?_ (by dsimp only; omega) _))⟩
  · obtain ⟨b, o, l, v, d, rfl, hx, hb, hcell, hL⟩ := h1.get hn 0 (by omega)
    rw [colsN_at hx]
    have hls := hL.small
    rw [Nat.add_zero] at hcell
    have hn0 : ((n : Int) == 0) = false := by simp; omega
    have hn1 : (0 : Int) < (n : Int) := by omega
    generalize l.length = m at *
    clear h1 hx hL hn
    go_enter Try.func55, Try.ntmps55
    go_wp2
    go_ret
    exact ⟨rfl, (by repeat (first | exact Below.refl _ _ | refine Below.later ?_ _ | refine Below.box ?_ _ | refine Below.drew ?_ | refine Below.put ?_ (by dsimp only; omega) _))⟩
theorem rcolumns_c (u : Option Addr) (c : Nat) (ls : List (List Int)) (w : World) (h1 : Mt w u ls) : Calls Try.prog 39 #[.slice u ls.length c] w (Gives (.int .i64 (colsN ls)) w) := by
  have hs := h1.small
  obtain ⟨n, hn⟩ : ∃ n, ls.length = n := ⟨_, rfl⟩
  rw [hn] at hs ⊢
  by_cases h0 : n = 0
  · have hc : colsN ls = 0 := by
      have : ls = [] := List.length_eq_zero_iff.1 (by omega)
      rw [this]; rfl
    rw [hc]
    subst h0
    clear h1 hn hc
    go_enter Try.func39, Try.ntmps39
    go_wp2
    go_ret
    exact ⟨rfl, (by repeat (first | exact Below.refl _ _ | refine Below.later ?_ _ | refine Below.box ?_ _ | refine Below.drew ?_ | refine Below.put ?_ (by dsimp only; omega) _))⟩
  · obtain ⟨b, o, l, v, d, rfl, hx, hb, hcell, hL⟩ := h1.get hn 0 (by omega)
    rw [colsN_at hx]
    have hls := hL.small
    rw [Nat.add_zero] at hcell
    have hn0 : ((n : Int) == 0) = false := by simp; omega
    have hn1 : (0 : Int) < (n : Int) := by omega
    generalize l.length = m at *
    clear h1 hx hL hn
    go_enter Try.func39, Try.ntmps39
    go_wp2
    go_ret
    exact ⟨rfl, (by repeat (first | exact Below.refl _ _ | refine Below.later ?_ _ | refine Below.box ?_ _ | refine Below.drew ?_ | refine Below.put ?_ (by dsimp only; omega) _))⟩

set_option maxHeartbeats 4000000 in
theorem lvalid_c (u : Option Addr) (c : Nat) (ls : List (List Int)) (w : World) (h1 : Mt w u ls) : Calls Try.prog 46 #[.slice u ls.length c] w (Gives (.bool (vldM ls)) w) := by
  have hs := h1.small
  have cc : Kept (∀ q, Calls Try.prog 55 #[.slice u ls.length c] (after w q) (Gives (.int .i64 (colsN ls)) (after w q))) := ⟨fun q => columns_c u c ls (after w q) (h1.below (Nat.le_refl _) (after_below w q))⟩
  have cc0 : Kept (Calls Try.prog 55 #[.slice u ls.length c] w (Gives (.int .i64 (colsN ls)) w)) := ⟨columns_c u c ls w h1⟩
  obtain ⟨n, hn⟩ : ∃ n, ls.length = n := ⟨_, rfl⟩
  obtain ⟨V, hV⟩ : ∃ V, vldM ls = V := ⟨_, rfl⟩
  have kV := (⟨hV⟩ : Kept _)
  have kn := (⟨hn⟩ : Kept _)
  have k1 := (⟨h1.get hn⟩ : Kept _)
  obtain ⟨m, hm⟩ : ∃ m, colsN ls = m := ⟨_, rfl⟩
  have km := (⟨hm⟩ : Kept _)
  have hm0 : (m : Int) ≤ 9223372036854775807 := by
    rw [← hm]
    cases ls with
    | nil => simp [colsN]
    | cons a t =>
      obtain ⟨b, o, l, v, d, _, hx, _, _, hL⟩ := h1.get hn 0 (by rw [← hn]; simp)
      simp at hx; subst hx; exact hL.small
  rw [hn, hm] at cc cc0
  rw [hn] at hs ⊢
  rw [hV]
  clear h1 hn hV hm
  by_cases g1 : n ≤ 64
  case neg =>
    have hF : V = false := by
      rw [← kV.out]; cases e : vldM ls with
      | false => rfl
      | true => have := (vldM_row e).1; have := kn.out; omega
    have g1a : decide ((n : Int) > 64) = true := by simp; omega
    have g1b : decide (64 < (n : Int)) = true := by simp; omega
    subst hF
    go_enter Try.func46, Try.ntmps46
    go_wp2_with (first | (go_at_call 55; (first | with_reducible refine use1 (cc0.out) ?_ | with_reducible refine use (cc0.out) ?_); intro pw))
    go_ret
    exact ⟨rfl, (by repeat (first | exact Below.refl _ _ | refine Below.later ?_ _ | refine Below.box ?_ _ | refine Below.drew ?_ | refine Below.put ?_ (by dsimp only; omega) _))⟩
  have g1a : decide ((n : Int) > 64) = false := by simp; omega
  have g1b : decide (64 < (n : Int)) = false := by simp; omega
  by_cases g2 : m ≤ 64
  case neg =>
    have hF : V = false := by
      rw [← kV.out]; cases e : vldM ls with
      | false => rfl
      | true => have := (vldM_row e).2.1; have := km.out; omega
    have g2a : decide ((m : Int) > 64) = true := by simp; omega
    have g2b : decide (64 < (m : Int)) = true := by simp; omega
    subst hF
    go_enter Try.func46, Try.ntmps46
    go_wp2_with (first | (go_at_call 55; (first | with_reducible refine use1 (cc0.out) ?_ | with_reducible refine use (cc0.out) ?_); intro pw))
    go_ret
    exact ⟨rfl, (by repeat (first | exact Below.refl _ _ | refine Below.later ?_ _ | refine Below.box ?_ _ | refine Below.drew ?_ | refine Below.put ?_ (by dsimp only; omega) _))⟩
  have g2a : decide ((m : Int) > 64) = false := by simp; omega
  have g2b : decide (64 < (m : Int)) = false := by simp; omega
  go_enter Try.func46, Try.ntmps46
  go_wp2_with (first | (go_at_call 55; (first | with_reducible refine use1 (cc0.out) ?_ | with_reducible refine use (cc0.out) ?_); intro pw))
  go_loopw [15] (fun v wr => ∃ (k : Nat) (q : Regrown), v = .int .i64 (k : Int) ∧ wr = after w q ∧ k ≤ n ∧ Kept (∀ k' l, k' < k → ls[k']? = some l → l.length = m)) (fun v _ => (n : Int).toNat - (intOf v).toNat)
  case atStart => exact ⟨0, _, rfl, rfl, by omega, ⟨fun k' l h => absurd h (by omega)⟩⟩
  case round =>
    obtain ⟨k, q, rfl, rfl, hk, hI⟩ := hrel
    by_cases h : k < n
    · obtain ⟨b1, o1, l, v1, d1, rfl, hx1, hb1, hc1, hL1⟩ := k1.out k h
      have hll := hL1.small
      by_cases hx : l.length = m
      · have hI2 : Kept (∀ k' l, k' < k + 1 → ls[k']? = some l → l.length = m) := ⟨fun k' l' hk' hl' => by
          by_cases e : k' = k
          · rw [e, hx1] at hl'; injection hl' with hl'; rw [← hl', hx]
          · exact hI.out k' l' (by omega) hl'⟩
        rw [hx] at hc1
        clear hI hx1 hx hL1 hll k1
        go_wp2_with (first | (go_at_call 55; (first | with_reducible refine use1 (cc.out _) ?_ | with_reducible refine use (cc.out _) ?_); intro pw))
        go_roundw
        case rel => exact ⟨k + 1, _, by go_num, rfl, by omega, hI2⟩
        case measure => first | (simp [intOf]; omega) | (simp [intOf]; done)
      · have hF : V = false := by rw [← kV.out]; exact vldM_no (List.mem_of_getElem? hx1) (.inl (by rw [km.out]; exact hx))
        have hxb : ((l.length : Int) != (m : Int)) = true := by simp; omega
        subst hF
        clear hI hx1 hx hL1 k1
        generalize l.length = ll at *
        go_wp2_with (first | (go_at_call 55; (first | with_reducible refine use1 (cc.out _) ?_ | with_reducible refine use (cc.out _) ?_); intro pw))
        go_ret
        exact ⟨rfl, (by repeat (first | exact Below.refl _ _ | refine Below.later ?_ _ | refine Below.box ?_ _ | refine Below.drew ?_ | refine Below.put ?_ (by dsimp only; omega) _))⟩
    · have hT : V = true := by rw [← kV.out]; exact vldM_yes kn.out g1 (by rw [km.out]; exact g2) (fun k' l hk' hl' => by rw [km.out]; exact hI.out k' l (by omega) hl')
      subst hT
      clear hI k1
      go_wp2
      go_ret
      exact ⟨rfl, (by repeat (first | exact Below.refl _ _ | refine Below.later ?_ _ | refine Below.box ?_ _ | refine Below.drew ?_ | refine Below.put ?_ (by dsimp only; omega) _))⟩
theorem fits_lc (p : Int) (u : Option Addr) (c : Nat) (ls : List (List Int)) (w : World) (h1 : Mt w u ls) : Calls Try.prog 54 #[.agg #[.int .u64 p], .slice u ls.length c] w (Gives (.bool (vld p && vldM ls)) w) := by
  have hs := h1.small
  have cv : Kept (∀ w, Calls Try.prog 50 #[.agg #[.int .u64 p]] w (Gives (.bool (vld p)) w)) := ⟨fun w => valid_c p w⟩
  have cl : Kept (∀ w', Below w.heap.size w w' → Calls Try.prog 46 #[.slice u ls.length c] w' (Gives (.bool (vldM ls)) w')) := ⟨fun w' hw => lvalid_c u c ls w' (h1.below (Nat.le_refl _) hw)⟩
  generalize vldM ls = V at *
  generalize vld p = Q at *
  generalize ls.length = n at *
  clear h1
  cases Q
  · go_enter Try.func54, Try.ntmps54
    go_wp2_with (first | (go_at_call 50; (first | with_reducible refine use1 (cv.out _) ?_ | with_reducible refine use (cv.out _) ?_); intro pw) | (go_at_call 46; (first | with_reducible refine use1 (cl.out _ (by repeat (first | exact Below.refl _ _ | refine Below.later ?_ _ | refine Below.box ?_ _ | refine Below.drew ?_ | refine Below.put ?_ (by dsimp only; omega) _))) ?_ | with_reducible refine use (cl.out _ (by repeat (first | exact Below.refl _ _ | refine Below.later ?_ _ | refine Below.box ?_ _ | refine Below.drew ?_ | refine Below.put ?_ (by dsimp only; omega) _))) ?_); intro pw))
    go_ret
    exact ⟨rfl, (by repeat (first | exact Below.refl _ _ | refine Below.later ?_ _ | refine Below.box ?_ _ | refine Below.drew ?_ | refine Below.put ?_ (by dsimp only; omega) _))⟩
  · go_enter Try.func54, Try.ntmps54
    go_wp2_with (first | (go_at_call 50; (first | with_reducible refine use1 (cv.out _) ?_ | with_reducible refine use (cv.out _) ?_); intro pw) | (go_at_call 46; (first | with_reducible refine use1 (cl.out _ (by repeat (first | exact Below.refl _ _ | refine Below.later ?_ _ | refine Below.box ?_ _ | refine Below.drew ?_ | refine Below.put ?_ (by dsimp only; omega) _))) ?_ | with_reducible refine use (cl.out _ (by repeat (first | exact Below.refl _ _ | refine Below.later ?_ _ | refine Below.box ?_ _ | refine Below.drew ?_ | refine Below.put ?_ (by dsimp only; omega) _))) ?_); intro pw))
    go_ret
    exact ⟨by simp, (by repeat (first | exact Below.refl _ _ | refine Below.later ?_ _ | refine Below.box ?_ _ | refine Below.drew ?_ | refine Below.put ?_ (by dsimp only; omega) _))⟩
end Go.Proofs.Ytjnlnbkdnjainaa
