/- The two determinants agree. -/
import Derived.Test.YtjnlnbkdnjainaaHRdt
namespace Go.Proofs.Ytjnlnbkdnjainaa
open Go.RowKit Go.Sort

set_option maxRecDepth 100000
theorem lf_elF (p : Int) (ls : List (List Int)) (i j : Nat) : cg p (lf ls i j) (elF p ls i j) := (cg.mod p _).symm
theorem detE_cg {p : Int} {ls : List (List Int)} {n : Nat} (hv : vld p = true) (hM : vldM ls = true) (hn : ls.length = n) (hc : colsN ls = n) : cg p (detE p ls) (dt n (lf ls)) ∧ 0 ≤ detE p ls ∧ detE p ls < p := by
  have hp := vld_pos hv
  have h1 := det_el (n := n) (f := elF p ls) hv (fun i j _ _ => elF_lt (by omega) i j)
  have h2 := dt_cg p n (lf ls) (elF p ls) (fun i c _ _ => lf_elF p ls i c)
  have h3 := elR_ok (n := n) (m := n) (f := elF p ls) hv (fun i j _ _ => elF_lt (by omega) i j) n
  have e : detE p ls = if (elR p n n (elF p ls)).piv.length = n then (elR p n n (elF p ls)).fac else 0 := by
    unfold detE; rw [hv, hM, hn, hc]; simp
  rw [e]
  refine ⟨(h2.trans h1).symm, ?_⟩
  split
  · exact h3.fac
  · exact ⟨by omega, by omega⟩
theorem detE_rdt {p : Int} {ls : List (List Int)} {n : Nat} (hv : vld p = true) (hM : vldM ls = true) (hn : ls.length = n) (hc : colsN ls = n) : detE p ls = rdt p n (lf ls) := by
  obtain ⟨h1, h2⟩ := detE_cg hv hM hn hc
  exact (h1.trans (rdt_cg hv n (lf ls)).symm).lt_eq h2 (rdt_lt hv _ _)
theorem rdet_no (p : Int) (u : Option Addr) (c : Nat) (ls : List (List Int)) (w : World) (h1 : Mt w u ls) (h : (vld p && vldM ls) = false ∨ colsN ls ≠ ls.length) : Calls Try.prog 37 #[.int .u64 p, .slice u ls.length c] w (Gives (.int .u64 0) w) := by
  have hs := h1.small
  have co : Kept (∀ w', Below w.heap.size w w' → Calls Try.prog 70 #[.int .u64 p, .slice u ls.length c] w' (Gives (.bool (vld p && vldM ls)) w')) := ⟨fun w' hw => rok_c p u c ls w' (h1.below (Nat.le_refl _) hw)⟩
  have cc : Kept (∀ w', Below w.heap.size w w' → Calls Try.prog 39 #[.slice u ls.length c] w' (Gives (.int .i64 (colsN ls)) w')) := ⟨fun w' hw => rcolumns_c u c ls w' (h1.below (Nat.le_refl _) hw)⟩
  generalize ls.length = n at *
  clear h1
  cases hV : (vld p && vldM ls)
  · rw [hV] at co
    clear h hV
    generalize colsN ls = m at *
    go_enter Try.func37, Try.ntmps37
    go_wp2_with (first | (go_at_call 70; (first | with_reducible refine use1 (co.out _ (by repeat (first | exact Below.refl _ _ | refine Below.later ?_ _ | refine Below.box ?_ _ | refine Below.drew ?_ | refine Below.put ?_ (by dsimp only; omega) _))) ?_ | with_reducible refine use (co.out _ (by repeat (first | exact Below.refl _ _ | refine Below.later ?_ _ | refine Below.box ?_ _ | refine Below.drew ?_ | refine Below.put ?_ (by dsimp only; omega) _))) ?_); intro pw))
    go_ret
    exact ⟨rfl, (by repeat (first | exact Below.refl _ _ | refine Below.later ?_ _ | refine Below.box ?_ _ | refine Below.drew ?_ | refine Below.put ?_ (by dsimp only; omega) _))⟩
  · rw [hV] at co
    have hne : colsN ls ≠ n := by
      rcases h with h | h
      · rw [hV] at h; cases h
      · exact h
    have hb : (((n : Nat) : Int) != ((colsN ls : Nat) : Int)) = true := by simp; omega
    clear h hV hne
    generalize colsN ls = m at *
    go_enter Try.func37, Try.ntmps37
    go_wp2_with (first | (go_at_call 70; (first | with_reducible refine use1 (co.out _ (by repeat (first | exact Below.refl _ _ | refine Below.later ?_ _ | refine Below.box ?_ _ | refine Below.drew ?_ | refine Below.put ?_ (by dsimp only; omega) _))) ?_ | with_reducible refine use (co.out _ (by repeat (first | exact Below.refl _ _ | refine Below.later ?_ _ | refine Below.box ?_ _ | refine Below.drew ?_ | refine Below.put ?_ (by dsimp only; omega) _))) ?_); intro pw) | (go_at_call 39; (first | with_reducible refine use1 (cc.out _ (by repeat (first | exact Below.refl _ _ | refine Below.later ?_ _ | refine Below.box ?_ _ | refine Below.drew ?_ | refine Below.put ?_ (by dsimp only; omega) _))) ?_ | with_reducible refine use (cc.out _ (by repeat (first | exact Below.refl _ _ | refine Below.later ?_ _ | refine Below.box ?_ _ | refine Below.drew ?_ | refine Below.put ?_ (by dsimp only; omega) _))) ?_); intro pw))
    go_ret
    exact ⟨rfl, (by repeat (first | exact Below.refl _ _ | refine Below.later ?_ _ | refine Below.box ?_ _ | refine Below.drew ?_ | refine Below.put ?_ (by dsimp only; omega) _))⟩
end Go.Proofs.Ytjnlnbkdnjainaa
