/- The determinant of a product. -/
import Derived.Test.YtjnlnbkdnjainaaHPl4
import Derived.Test.YtjnlnbkdnjainaaHMul
import Derived.Test.YtjnlnbkdnjainaaHRke
namespace Go.Proofs.Ytjnlnbkdnjainaa
open Go.RowKit Go.Sort

set_option maxRecDepth 100000
theorem lf_matL {n m : Nat} {f : Nat → Nat → Int} {i j : Nat} (hi : i < n) (hj : j < m) : lf (matL n m f) i j = f i j := by
  unfold lf matL
  simp [List.getD, List.getElem?_map, List.getElem?_range hi, List.getElem?_range hj]
theorem msP_cg {p : Int} (hv : vld p = true) (A B : Nat → Nat → Int) (i j : Nat) : ∀ k, cg p (msP p A B i j k) (sm (fun k => A i k * B k j) k)
  | 0 => cg.refl _ _
  | k + 1 => by
    rw [msP, sm]
    exact (cg_add hv _ _).trans ((msP_cg hv A B i j k).add (cg_mul hv _ _))
theorem matL_row {n m : Nat} {f : Nat → Nat → Int} : ∀ l ∈ matL n m f, l.length = m := fun l hl => by
  obtain ⟨i, _, rfl⟩ := List.mem_map.1 hl
  simp
theorem det_prod {p : Int} {xs ys : List (List Int)} {n : Nat} (hv : vld p = true) (hn6 : n ≤ 64) (hM : vldM xs = true) (hn : xs.length = n) (hc : colsN xs = n) (hN : vldM ys = true) (hk : ys.length = n) (hd : colsN ys = n) :
    detE p (matL n n (msF p (lf xs) (lf ys) n)) = fmul p (detE p xs) (detE p ys) := by
  have hp := vld_pos hv
  obtain ⟨e1, e2⟩ := vldM_of (matL_len n n (msF p (lf xs) (lf ys) n)) matL_row hn6
  obtain ⟨h1, h2⟩ := detE_cg hv e1 (matL_len n n (msF p (lf xs) (lf ys) n)) e2
  obtain ⟨h3, h4⟩ := detE_cg hv hM hn hc
  obtain ⟨h5, h6⟩ := detE_cg hv hN hk hd
  have h7 := dt_cg p n (lf (matL n n (msF p (lf xs) (lf ys) n))) (mm (elF p xs) (lf ys) n) (fun i j hi hj => by
    rw [lf_matL hi hj]
    exact (msP_cg hv _ _ i j n).trans (sm_cg n fun k _ => (lf_elF p xs i k).mul (cg.refl p _)))
  have h8 := det_mm (n := n) (f := elF p xs) hv (fun i j _ _ => elF_lt (by omega) i j) (lf ys)
  have e : detE p xs = if (elR p n n (elF p xs)).piv.length = n then (elR p n n (elF p xs)).fac else 0 := by
    unfold detE; rw [hv, hM, hn, hc]; simp
  rw [← e] at h8
  refine cg.lt_eq ?_ h2 (fmul_lt hv)
  exact (h1.trans (h7.trans (h8.trans ((cg.refl p _).mul h5.symm)))).trans (cg_mul hv _ _).symm
theorem rsq_c (u : Option Addr) (c : Nat) (ls : List (List Int)) (w : World) (h1 : Mt w u ls) : Calls Try.prog 47 #[.slice u ls.length c] w (Gives (.bool (vldM ls && decide (colsN ls = ls.length))) w) := by
  have hs := h1.small
  have co : Kept (∀ w', Below w.heap.size w w' → Calls Try.prog 38 #[.slice u ls.length c] w' (Gives (.bool (vldM ls)) w')) := ⟨fun w' hw => rvalidm_c u c ls w' (h1.below (Nat.le_refl _) hw)⟩
  have cc : Kept (∀ w', Below w.heap.size w w' → Calls Try.prog 39 #[.slice u ls.length c] w' (Gives (.int .i64 (colsN ls)) w')) := ⟨fun w' hw => rcolumns_c u c ls w' (h1.below (Nat.le_refl _) hw)⟩
  generalize ls.length = n at *
  clear h1
  cases hV : vldM ls
  · rw [hV] at co
    rw [Bool.false_and]
    generalize colsN ls = m at *
    clear hV
    go_enter Try.func47, Try.ntmps47
    go_wp2_with (first | (go_at_call 38; (first | with_reducible refine use1 (co.out _ (by repeat (first | exact Below.refl _ _ | refine Below.later ?_ _ | refine Below.box ?_ _ | refine Below.drew ?_ | refine Below.put ?_ (by dsimp only; omega) _))) ?_ | with_reducible refine use (co.out _ (by repeat (first | exact Below.refl _ _ | refine Below.later ?_ _ | refine Below.box ?_ _ | refine Below.drew ?_ | refine Below.put ?_ (by dsimp only; omega) _))) ?_); intro pw))
    go_ret
    exact ⟨rfl, (by repeat (first | exact Below.refl _ _ | refine Below.later ?_ _ | refine Below.box ?_ _ | refine Below.drew ?_ | refine Below.put ?_ (by dsimp only; omega) _))⟩
  · rw [hV] at co
    rw [Bool.true_and]
    generalize colsN ls = m at *
    clear hV
    by_cases e : m = n
    · have hb : (((n : Nat) : Int) == (m : Int)) = true := by simp; omega
      rw [decide_eq_true e]
      clear e
      go_enter Try.func47, Try.ntmps47
      go_wp2_with (first | (go_at_call 38; (first | with_reducible refine use1 (co.out _ (by repeat (first | exact Below.refl _ _ | refine Below.later ?_ _ | refine Below.box ?_ _ | refine Below.drew ?_ | refine Below.put ?_ (by dsimp only; omega) _))) ?_ | with_reducible refine use (co.out _ (by repeat (first | exact Below.refl _ _ | refine Below.later ?_ _ | refine Below.box ?_ _ | refine Below.drew ?_ | refine Below.put ?_ (by dsimp only; omega) _))) ?_); intro pw) | (go_at_call 39; (first | with_reducible refine use1 (cc.out _ (by repeat (first | exact Below.refl _ _ | refine Below.later ?_ _ | refine Below.box ?_ _ | refine Below.drew ?_ | refine Below.put ?_ (by dsimp only; omega) _))) ?_ | with_reducible refine use (cc.out _ (by repeat (first | exact Below.refl _ _ | refine Below.later ?_ _ | refine Below.box ?_ _ | refine Below.drew ?_ | refine Below.put ?_ (by dsimp only; omega) _))) ?_); intro pw))
      go_ret
      exact ⟨rfl, (by repeat (first | exact Below.refl _ _ | refine Below.later ?_ _ | refine Below.box ?_ _ | refine Below.drew ?_ | refine Below.put ?_ (by dsimp only; omega) _))⟩
    · have hb : (((n : Nat) : Int) == (m : Int)) = false := by simp; omega
      rw [decide_eq_false e]
      clear e
      go_enter Try.func47, Try.ntmps47
      go_wp2_with (first | (go_at_call 38; (first | with_reducible refine use1 (co.out _ (by repeat (first | exact Below.refl _ _ | refine Below.later ?_ _ | refine Below.box ?_ _ | refine Below.drew ?_ | refine Below.put ?_ (by dsimp only; omega) _))) ?_ | with_reducible refine use (co.out _ (by repeat (first | exact Below.refl _ _ | refine Below.later ?_ _ | refine Below.box ?_ _ | refine Below.drew ?_ | refine Below.put ?_ (by dsimp only; omega) _))) ?_); intro pw) | (go_at_call 39; (first | with_reducible refine use1 (cc.out _ (by repeat (first | exact Below.refl _ _ | refine Below.later ?_ _ | refine Below.box ?_ _ | refine Below.drew ?_ | refine Below.put ?_ (by dsimp only; omega) _))) ?_ | with_reducible refine use (cc.out _ (by repeat (first | exact Below.refl _ _ | refine Below.later ?_ _ | refine Below.box ?_ _ | refine Below.drew ?_ | refine Below.put ?_ (by dsimp only; omega) _))) ?_); intro pw))
      go_ret
      exact ⟨rfl, (by repeat (first | exact Below.refl _ _ | refine Below.later ?_ _ | refine Below.box ?_ _ | refine Below.drew ?_ | refine Below.put ?_ (by dsimp only; omega) _))⟩
end Go.Proofs.Ytjnlnbkdnjainaa
