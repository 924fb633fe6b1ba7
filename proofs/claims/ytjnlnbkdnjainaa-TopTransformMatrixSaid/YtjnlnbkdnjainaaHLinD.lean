/- moidoreref05.Reduce, Small; linear.Rank. -/
import Derived.Test.YtjnlnbkdnjainaaHLinB
import Derived.Test.YtjnlnbkdnjainaaHLinC
namespace Go.Proofs.Ytjnlnbkdnjainaa
open Go.RowKit Go.Sort

set_option maxRecDepth 100000
theorem rreduce_no (p : Int) (u : Option Addr) (c : Nat) (ls : List (List Int)) (w : World) (h1 : Mt w u ls) (hv : (vld p && vldM ls) = false) : Calls Try.prog 41 #[.int .u64 p, .slice u ls.length c] w (Gives (.tuple #[.slice none 0 0, .slice none 0 0]) w) := by
  have hs := h1.small
  have cf : Kept (∀ w', Below w.heap.size w w' → Calls Try.prog 70 #[.int .u64 p, .slice u ls.length c] w' (Gives (.bool false) w')) := ⟨fun w' hw => by have := rok_c p u c ls w' (h1.below (Nat.le_refl _) hw); rw [hv] at this; exact this⟩
  generalize ls.length = n at *
  clear h1 hv
  go_enter Try.func41, Try.ntmps41
  go_wp2_with (first | (go_at_call 70; (first | with_reducible refine use1 (cf.out _ (by repeat (first | exact Below.refl _ _ | refine Below.later ?_ _ | refine Below.box ?_ _ | refine Below.drew ?_ | refine Below.put ?_ (by dsimp only; omega) _))) ?_ | with_reducible refine use (cf.out _ (by repeat (first | exact Below.refl _ _ | refine Below.later ?_ _ | refine Below.box ?_ _ | refine Below.drew ?_ | refine Below.put ?_ (by dsimp only; omega) _))) ?_); intro pw))
  go_ret2
  exact ⟨rfl, (by repeat (first | exact Below.refl _ _ | refine Below.later ?_ _ | refine Below.box ?_ _ | refine Below.drew ?_ | refine Below.put ?_ (by dsimp only; omega) _))⟩
theorem GivesRf.go {n m : Nat} {s : Es} {w w1 : World} {e : Ending} {w' : World} (h : GivesRf n m s w1 e w') (hb : Below w.heap.size w w1) : GivesRf n m s w e w' := by
  obtain ⟨B, C, bf, cf, u, c, rfl, hM, hO⟩ := h
  refine ⟨B, C, bf, cf, u, c, rfl, hM.base hb, hO.1, ?_⟩
  rcases hO.2 with e | ⟨g, cap, cur, e, hg, rest⟩
  · exact .inl e
  · exact .inr ⟨g, cap, cur, e, Nat.le_trans hb.size hg, rest⟩
theorem rreduce_lc (p : Int) (n m : Nat) (u : Option Addr) (c : Nat) (ls : List (List Int)) (w : World) (h1 : Mt w u ls) (hv : vld p = true) (hM : vldM ls = true) (hn : ls.length = n) (hm : colsN ls = m) : Calls Try.prog 41 #[.int .u64 p, .slice u n c] w (GivesRf n m (elR p n m (elF p ls)) w) := by
  obtain ⟨g1, g2, g3⟩ := vldM_row hM
  have hs := h1.small
  have cf : Kept (∀ w', Below w.heap.size w w' → Calls Try.prog 70 #[.int .u64 p, .slice u n c] w' (Gives (.bool true) w')) := ⟨fun w' hw => by have := rok_c p u c ls w' (h1.below (Nat.le_refl _) hw); rw [hv, hM, hn] at this; exact this⟩
  have ce : Kept (∀ w', Below w.heap.size w w' → Calls Try.prog 73 #[.int .u64 p, .slice u n c] w' (GivesRf n m (elR p n m (elF p ls)) w)) := ⟨fun w' hw => (relim_c p n m u c ls w' hv (h1.below (Nat.le_refl _) hw) hn (by omega) (by omega) hm (fun l hl => by rw [g3 l hl, hm])).mono fun e w'' h => h.go hw⟩
  rw [hn] at hs
  generalize elR p n m (elF p ls) = es at *
  clear h1 hM hn hm g1 g2 g3
  go_enter Try.func41, Try.ntmps41
  go_wp2_with (first | (go_at_call 70; (first | with_reducible refine use1 (cf.out _ (by repeat (first | exact Below.refl _ _ | refine Below.later ?_ _ | refine Below.box ?_ _ | refine Below.drew ?_ | refine Below.put ?_ (by dsimp only; omega) _))) ?_ | with_reducible refine use (cf.out _ (by repeat (first | exact Below.refl _ _ | refine Below.later ?_ _ | refine Below.box ?_ _ | refine Below.drew ?_ | refine Below.put ?_ (by dsimp only; omega) _))) ?_); intro pw) | (go_at_call 73; refine (ce.out _ (by repeat (first | exact Below.refl _ _ | refine Below.later ?_ _ | refine Below.box ?_ _ | refine Below.drew ?_ | refine Below.put ?_ (by dsimp only; omega) _))).mono ?_; rintro e w2 ⟨B, C, bf, cf', u2, c2, rfl, hMx, hO⟩; refine Stop.out ?_))
  refine ⟨?_⟩
  have kM := (⟨hMx⟩ : Kept _)
  have kO := (⟨hO⟩ : Kept _)
  clear hMx hO
  generalize hk : es.piv.length = k at *
  have kk := (⟨hk⟩ : Kept _)
  clear hk
  go_wp2
  exact bodyPost_ret (v := .tuple #[.slice (some ⟨B, 0, none⟩) n C, .slice u2 k c2]) (by simp [results, Try.results41, go_sem]) rfl ⟨B, C, bf, cf', u2, c2, by rw [kk.out], kM.out, by rw [kk.out]; exact kO.out⟩
def smlM (ls : List (List Int)) (k : Nat) : Bool := decide (ls.length ≤ k) && ls.all fun l => decide (l.length ≤ k)
theorem small_c (u : Option Addr) (c : Nat) (ls : List (List Int)) (K : Nat) (hK : K ≤ 1000) (w : World) (h1 : Mt w u ls) : Calls Try.prog 36 #[.slice u ls.length c, .int .i64 (K : Int)] w (Gives (.bool (smlM ls K)) w) := by
  have hs := h1.small
  obtain ⟨n, hn⟩ : ∃ n, ls.length = n := ⟨_, rfl⟩
  obtain ⟨V, hV⟩ : ∃ V, smlM ls K = V := ⟨_, rfl⟩
  have kV := (⟨hV⟩ : Kept _)
  have kn := (⟨hn⟩ : Kept _)
  have k1 := (⟨h1.get hn⟩ : Kept _)
  rw [hn] at hs ⊢
  rw [hV]
  clear h1 hn hV
  go_enter Try.func36, Try.ntmps36
  go_wp2
  go_loopw [5] (fun v wr => ∃ (k : Nat), v = .int .i64 (k : Int) ∧ wr = w ∧ k ≤ n ∧ Kept (∀ k' l, k' < k → ls[k']? = some l → l.length ≤ K)) (fun v _ => (n : Int).toNat - (intOf v).toNat)
  case atStart => exact ⟨0, rfl, by first | rfl | trivial, by omega, ⟨fun k' l h => absurd h (by omega)⟩⟩
  case round =>
    obtain ⟨k, rfl, rfl, hk, hI⟩ := hrel
    by_cases h : k < n
    · obtain ⟨b1, o1, l, v1, d1, rfl, hx1, hb1, hc1, hL1⟩ := k1.out k h
      have hll := hL1.small
      by_cases hx : l.length ≤ K
      · have hI2 : Kept (∀ k' l, k' < k + 1 → ls[k']? = some l → l.length ≤ K) := ⟨fun k' l' hk' hl' => by
          by_cases e : k' = k
          · rw [e, hx1] at hl'; injection hl' with hl'; rw [← hl']; exact hx
          · exact hI.out k' l' (by omega) hl'⟩
        clear hI hx1 hL1 k1
        generalize l.length = ll at *
        have g2a : decide ((ll : Int) > (K : Int)) = false := by simp; omega
        have g2b : decide ((K : Int) < (ll : Int)) = false := by simp; omega
        go_wp2
        go_roundw
        case rel => exact ⟨k + 1, by go_num, by first | rfl | trivial, by omega, hI2⟩
        case measure => first | (simp [intOf]; omega) | (simp [intOf]; done)
      · have hF : V = false := by
          rw [← kV.out]
          cases e : smlM ls K with
          | false => rfl
          | true =>
            simp only [smlM, Bool.and_eq_true, List.all_eq_true, decide_eq_true_eq] at e
            exact absurd (e.2 l (List.mem_of_getElem? hx1)) hx
        subst hF
        clear hI hx1 hL1 k1
        generalize l.length = ll at *
        have g2a : decide ((ll : Int) > (K : Int)) = true := by simp; omega
        have g2b : decide ((K : Int) < (ll : Int)) = true := by simp; omega
        go_wp2
        go_ret
        exact ⟨rfl, (by repeat (first | exact Below.refl _ _ | refine Below.later ?_ _ | refine Below.box ?_ _ | refine Below.drew ?_ | refine Below.put ?_ (by dsimp only; omega) _))⟩
    · have hV2 : V = decide (n ≤ K) := by
        rw [← kV.out, smlM, kn.out]
        have : (ls.all fun l => decide (l.length ≤ K)) = true := by
          rw [List.all_eq_true]
          intro l hl
          obtain ⟨k', hk', e⟩ := List.getElem_of_mem hl
          exact decide_eq_true (hI.out k' l (by have := kn.out; omega) (by rw [List.getElem?_eq_getElem hk', e]))
        rw [this, Bool.and_true]
      have hd : decide ((n : Int) ≤ (K : Int)) = V := by rw [hV2]; simp
      clear hI k1
      go_wp2
      go_ret
      exact ⟨by first | rfl | (rw [hV2]; done) | (simp [hV2]; done) | (simp [← hd]; done) | (rw [← hd]; simp; done), (by repeat (first | exact Below.refl _ _ | refine Below.later ?_ _ | refine Below.box ?_ _ | refine Below.drew ?_ | refine Below.put ?_ (by dsimp only; omega) _))⟩
end Go.Proofs.Ytjnlnbkdnjainaa
