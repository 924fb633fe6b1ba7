/- linear.Determinant. -/
import Derived.Test.YtjnlnbkdnjainaaHLinB
namespace Go.Proofs.Ytjnlnbkdnjainaa
open Go.RowKit Go.Sort

set_option maxRecDepth 100000
/-- The determinant by elimination. -/
def detE (p : Int) (ls : List (List Int)) : Int := if (vld p && vldM ls && decide (colsN ls = ls.length)) = true ∧ (elR p ls.length ls.length (elF p ls)).piv.length = ls.length then (elR p ls.length ls.length (elF p ls)).fac else 0
set_option maxHeartbeats 4000000 in
theorem det_c (p : Int) (u : Option Addr) (c : Nat) (ls : List (List Int)) (w : World) (h1 : Mt w u ls) : Calls Try.prog 20 #[.agg #[.int .u64 p], .slice u ls.length c] w (fun e w' => e = .returned (.int .u64 (detE p ls)) ∧ Below w.heap.size w w') := by
  have hs := h1.small
  obtain ⟨n, hn⟩ : ∃ n, ls.length = n := ⟨_, rfl⟩
  have cf : Kept (∀ w', Below w.heap.size w w' → Calls Try.prog 54 #[.agg #[.int .u64 p], .slice u n c] w' (Gives (.bool (vld p && vldM ls)) w')) := ⟨fun w' hw => by have := fits_lc p u c ls w' (h1.below (Nat.le_refl _) hw); rw [hn] at this; exact this⟩
  have cc : Kept (∀ w', Below w.heap.size w w' → Calls Try.prog 55 #[.slice u n c] w' (Gives (.int .i64 (colsN ls)) w')) := ⟨fun w' hw => by have := columns_c u c ls w' (h1.below (Nat.le_refl _) hw); rw [hn] at this; exact this⟩
  rw [hn] at hs ⊢
  cases hV : (vld p && vldM ls)
  · have hd : detE p ls = 0 := by unfold detE; rw [hV]; simp
    rw [hV] at cf
    rw [hd]
    clear h1 hV hd
    generalize colsN ls = m at *
    go_enter Try.func20, Try.ntmps20
    go_wp2_with (first | (go_at_call 54; (first | with_reducible refine use1 (cf.out _ (by repeat (first | exact Below.refl _ _ | refine Below.later ?_ _ | refine Below.box ?_ _ | refine Below.drew ?_ | refine Below.put ?_ (by dsimp only; omega) _))) ?_ | with_reducible refine use (cf.out _ (by repeat (first | exact Below.refl _ _ | refine Below.later ?_ _ | refine Below.box ?_ _ | refine Below.drew ?_ | refine Below.put ?_ (by dsimp only; omega) _))) ?_); intro pw))
    go_ret
    exact ⟨rfl, (by repeat (first | exact Below.refl _ _ | refine Below.later ?_ _ | refine Below.box ?_ _ | refine Below.drew ?_ | refine Below.put ?_ (by dsimp only; omega) _))⟩
  · simp only [Bool.and_eq_true] at hV
    obtain ⟨hv, hM⟩ := hV
    have hp := vld_pos hv
    obtain ⟨g1, g2, g3⟩ := vldM_row hM
    rw [hv, hM] at cf
    by_cases hm : colsN ls = n
    case neg =>
      have hd : detE p ls = 0 := by unfold detE; rw [hn, hv, hM]; simp [hm]
      have hb : (((colsN ls : Nat) : Int) != (n : Int)) = true := by simp; omega
      rw [hd]
      clear h1 hd hv hM g3 hn hm
      generalize colsN ls = m at *
      go_enter Try.func20, Try.ntmps20
      go_wp2_with (first | (go_at_call 54; (first | with_reducible refine use1 (cf.out _ (by repeat (first | exact Below.refl _ _ | refine Below.later ?_ _ | refine Below.box ?_ _ | refine Below.drew ?_ | refine Below.put ?_ (by dsimp only; omega) _))) ?_ | with_reducible refine use (cf.out _ (by repeat (first | exact Below.refl _ _ | refine Below.later ?_ _ | refine Below.box ?_ _ | refine Below.drew ?_ | refine Below.put ?_ (by dsimp only; omega) _))) ?_); intro pw) | (go_at_call 55; (first | with_reducible refine use1 (cc.out _ (by repeat (first | exact Below.refl _ _ | refine Below.later ?_ _ | refine Below.box ?_ _ | refine Below.drew ?_ | refine Below.put ?_ (by dsimp only; omega) _))) ?_ | with_reducible refine use (cc.out _ (by repeat (first | exact Below.refl _ _ | refine Below.later ?_ _ | refine Below.box ?_ _ | refine Below.drew ?_ | refine Below.put ?_ (by dsimp only; omega) _))) ?_); intro pw))
      go_ret
      exact ⟨rfl, (by repeat (first | exact Below.refl _ _ | refine Below.later ?_ _ | refine Below.box ?_ _ | refine Below.drew ?_ | refine Below.put ?_ (by dsimp only; omega) _))⟩
    have cr : Kept (∀ w', Below w.heap.size w w' → Calls Try.prog 57 #[.agg #[.int .u64 p], .slice u n c] w' (GivesM w' n n (elF p ls))) := ⟨fun w' hw => reduced_lc p n n u c ls w' hv (h1.below (Nat.le_refl _) hw) hn (by omega) (by omega) (fun l hl => by rw [g3 l hl, hm])⟩
    have ce : Kept (∀ W w' B bf cf, Mx W w' B n n bf cf (elF p ls) → Calls Try.prog 58 #[.agg #[.int .u64 p], .slice (some ⟨B, 0, none⟩) n n, .int .i64 (n : Int)] w' (GivesE W B n n (elR p n n (elF p ls)) w')) := ⟨fun W w' B bf cf hM => elim_c p n n n W w' B n bf cf _ hv (by omega) (by omega) (Nat.le_refl _) hM (fun i j _ _ => elF_lt (by omega) i j)⟩
    have hd : Kept (detE p ls = if (elR p n n (elF p ls)).piv.length = n then (elR p n n (elF p ls)).fac else 0) := ⟨by unfold detE; rw [hn, hv, hM, hm]; simp⟩
    have hn6 : n ≤ 64 := by omega
    rw [hm] at cc
    generalize detE p ls = DE at *
    generalize elR p n n (elF p ls) = es at *
    generalize elF p ls = F at *
    clear h1 hM hn hm g1 g2 g3 hv
    go_enter Try.func20, Try.ntmps20
    go_wp2_with (first | (go_at_call 54; (first | with_reducible refine use1 (cf.out _ (by repeat (first | exact Below.refl _ _ | refine Below.later ?_ _ | refine Below.box ?_ _ | refine Below.drew ?_ | refine Below.put ?_ (by dsimp only; omega) _))) ?_ | with_reducible refine use (cf.out _ (by repeat (first | exact Below.refl _ _ | refine Below.later ?_ _ | refine Below.box ?_ _ | refine Below.drew ?_ | refine Below.put ?_ (by dsimp only; omega) _))) ?_); intro pw) | (go_at_call 55; (first | with_reducible refine use1 (cc.out _ (by repeat (first | exact Below.refl _ _ | refine Below.later ?_ _ | refine Below.box ?_ _ | refine Below.drew ?_ | refine Below.put ?_ (by dsimp only; omega) _))) ?_ | with_reducible refine use (cc.out _ (by repeat (first | exact Below.refl _ _ | refine Below.later ?_ _ | refine Below.box ?_ _ | refine Below.drew ?_ | refine Below.put ?_ (by dsimp only; omega) _))) ?_); intro pw) | (go_at_call 57; refine Stop.out ?_))
    refine ⟨?_⟩
    refine call_genE (fun W' => Below w.heap.size w W' ∧ W'.cell? ⟨w.heap.size, 0, none⟩ = some (.int .u64 p) ∧ w.heap.size < W'.heap.size) ?fx ?_
    case fx => exact ⟨(by repeat (first | exact Below.refl _ _ | refine Below.later ?_ _ | refine Below.box ?_ _ | refine Below.drew ?_ | refine Below.put ?_ (by dsimp only; omega) _)), by simp [go_sem], by simp⟩
    rintro W1 ⟨hB1, hb1, hl1⟩
    refine (cr.out W1 hB1).mono ?_
    rintro e w2 ⟨B, bf, cf', rfl, hMx⟩
    have kB1 := (⟨hB1⟩ : Kept _)
    have kM := (⟨hMx⟩ : Kept _)
    have hb2 : w2.cell? ⟨w.heap.size, 0, none⟩ = some (.int .u64 p) := by rw [hMx.below.cell (p := ⟨w.heap.size, 0, none⟩) hl1]; exact hb1
    have hl2 : w.heap.size < w2.heap.size := by have := hMx.below.size; omega
    clear hB1 hMx hb1 hl1
    go_wp2_with (first | (go_at_call 58; refine (ce.out W1 _ B bf cf' (kM.out.keep (by repeat (first | exact Below.refl _ _ | refine Below.later ?_ _ | refine Below.box ?_ _ | refine Below.drew ?_ | refine Below.put ?_ (by dsimp only; omega) _)))).mono ?_; rintro e w5 ⟨bf5, cf5, v5, rfl, hMe, hOe⟩; refine Stop.out ?_))
    refine ⟨?_⟩
    obtain ⟨u5, c5, rfl⟩ : ∃ u5 c5, v5 = .slice u5 es.piv.length c5 := by
      rcases hOe.2 with ⟨e, h0⟩ | ⟨g, cap, cur, e, _⟩
      · exact ⟨none, 0, by rw [e, h0]⟩
      · exact ⟨_, cap, e⟩
    have kb := (⟨Below.next kB1.out hMe.below⟩ : Kept _)
    have hps : es.piv.length ≤ 9223372036854775807 ∨ True := .inr trivial
    clear hMe hOe hps
    obtain ⟨fac, hfac⟩ : ∃ fac, es.fac = fac := ⟨_, rfl⟩
    obtain ⟨k, hk⟩ : ∃ k, es.piv.length = k := ⟨_, rfl⟩
    rw [hfac, hk] at hd
    rw [hfac, hk]
    clear hfac hk
    by_cases hkn : k = n
    · have h2 := hd.out
      rw [if_pos hkn] at h2
      have kd := (⟨h2⟩ : Kept _)
      subst hkn
      clear hd h2
      go_wp2
      go_ret
      exact ⟨by rw [kd.out]; rfl, kb.out⟩
    · have h2 := hd.out
      rw [if_neg hkn] at h2
      have kd := (⟨h2⟩ : Kept _)
      have hkb : ((k : Int) != (n : Int)) = true := by simp; omega
      clear hd h2 hkn
      go_wp2
      go_ret
      exact ⟨by rw [kd.out]; rfl, kb.out⟩
end Go.Proofs.Ytjnlnbkdnjainaa
