/- LinearDeterminantProduct: for any prime of the list and any two matrices the call returns true: the determinant of the product is the product of the determinants (square matrices of one size, of at most 12 rows; for others there is nothing to show). No condition. -/
import Derived.Test.YtjnlnbkdnjainaaHPl5
import Derived.Test.YtjnlnbkdnjainaaHRoot
namespace Go.Proofs.Ytjnlnbkdnjainaa.linearDeterminantProduct
open Go.ChangeShapes Go.WideShapes Go.ChangeAt Go.RowKit Go.Sort

set_option maxHeartbeats 16000000 in
set_option maxRecDepth 100000 in
theorem walk (w : World) (nn : Int) (hnn : 0 ≤ nn ∧ nn ≤ 255) (u1 : Option Addr) (xs : List (List Int)) (c1 : Nat) (h1 : Arg w u1 c1 xs) (u2 : Option Addr) (ys : List (List Int)) (c2 : Nat) (h2 : Arg w u2 c2 ys) :
    Calls Try.prog 10 #[.int .u8 nn, .slice u1 xs.length c1, .slice u2 ys.length c2] w (Gives (.bool true) w) := by
  have hs1 := h1.1.small
  have hs2 := h2.1.small
  obtain ⟨n, hn⟩ : ∃ n, xs.length = n := ⟨_, rfl⟩
  obtain ⟨m, hm⟩ : ∃ m, ys.length = m := ⟨_, rfl⟩
  obtain ⟨p, hp⟩ : ∃ p, primeOf nn = p := ⟨_, rfl⟩
  have hv : vld p = true := by rw [← hp]; exact prime_valid nn
  have hUp : U p := by rw [← hp]; exact prime_U nn
  have cpr : Kept (∀ w, Calls Try.prog 12 #[.int .u8 nn] w (Gives (.int .u64 p) w)) := ⟨fun w => by have := prime_c nn w hnn.1 hnn.2; rw [hp] at this; exact this⟩
  have cs1 : Kept (∀ w', Below w.heap.size w w' → Calls Try.prog 31 #[.slice u1 n c1] w' (Gives (.bool (smlM xs 12)) w')) := ⟨fun w' hw => by have := lsmall_c u1 c1 xs w' (h1.mt hw); rw [hn] at this; exact this⟩
  have cs2 : Kept (∀ w', Below w.heap.size w w' → Calls Try.prog 31 #[.slice u2 m c2] w' (Gives (.bool (smlM ys 12)) w')) := ⟨fun w' hw => by have := lsmall_c u2 c2 ys w' (h2.mt hw); rw [hm] at this; exact this⟩
  have cq1 : Kept (∀ w', Below w.heap.size w w' → Calls Try.prog 47 #[.slice u1 n c1] w' (Gives (.bool (vldM xs && decide (colsN xs = n))) w')) := ⟨fun w' hw => by have := rsq_c u1 c1 xs w' (h1.mt hw); rw [hn] at this; exact this⟩
  have cq2 : Kept (∀ w', Below w.heap.size w w' → Calls Try.prog 47 #[.slice u2 m c2] w' (Gives (.bool (vldM ys && decide (colsN ys = m))) w')) := ⟨fun w' hw => by have := rsq_c u2 c2 ys w' (h2.mt hw); rw [hm] at this; exact this⟩
  rw [hn] at hs1
  rw [hm] at hs2
  cases a1 : smlM xs 12
  case false =>
    rw [a1] at cs1
    rw [hn, hm]
    clear h1 h2 hn hm hp hv hUp hnn a1
    go_enter Try.func10, Try.ntmps10
    go_wp2_with (first | (go_at_call 12; (first | with_reducible refine use1 (cpr.out _) ?_ | with_reducible refine use (cpr.out _) ?_); intro pw) | (go_at_call 30; (first | with_reducible refine use1 (awake05_c _) ?_ | with_reducible refine use (awake05_c _) ?_); intro pw) | (go_at_call 31; (first | with_reducible refine use1 (cs1.out _ (by repeat (first | exact Below.refl _ _ | refine Below.later ?_ _ | refine Below.box ?_ _ | refine Below.drew ?_ | refine Below.put ?_ (by dsimp only; omega) _))) ?_ | with_reducible refine use (cs1.out _ (by repeat (first | exact Below.refl _ _ | refine Below.later ?_ _ | refine Below.box ?_ _ | refine Below.drew ?_ | refine Below.put ?_ (by dsimp only; omega) _))) ?_); intro pw) | (go_at_call 31; (first | with_reducible refine use1 (cs2.out _ (by repeat (first | exact Below.refl _ _ | refine Below.later ?_ _ | refine Below.box ?_ _ | refine Below.drew ?_ | refine Below.put ?_ (by dsimp only; omega) _))) ?_ | with_reducible refine use (cs2.out _ (by repeat (first | exact Below.refl _ _ | refine Below.later ?_ _ | refine Below.box ?_ _ | refine Below.drew ?_ | refine Below.put ?_ (by dsimp only; omega) _))) ?_); intro pw) | (go_at_call 47; (first | with_reducible refine use1 (cq1.out _ (by repeat (first | exact Below.refl _ _ | refine Below.later ?_ _ | refine Below.box ?_ _ | refine Below.drew ?_ | refine Below.put ?_ (by dsimp only; omega) _))) ?_ | with_reducible refine use (cq1.out _ (by repeat (first | exact Below.refl _ _ | refine Below.later ?_ _ | refine Below.box ?_ _ | refine Below.drew ?_ | refine Below.put ?_ (by dsimp only; omega) _))) ?_); intro pw) | (go_at_call 47; (first | with_reducible refine use1 (cq2.out _ (by repeat (first | exact Below.refl _ _ | refine Below.later ?_ _ | refine Below.box ?_ _ | refine Below.drew ?_ | refine Below.put ?_ (by dsimp only; omega) _))) ?_ | with_reducible refine use (cq2.out _ (by repeat (first | exact Below.refl _ _ | refine Below.later ?_ _ | refine Below.box ?_ _ | refine Below.drew ?_ | refine Below.put ?_ (by dsimp only; omega) _))) ?_); intro pw))
    go_ret
    exact ⟨rfl, (by repeat (first | exact Below.refl _ _ | refine Below.later ?_ _ | refine Below.box ?_ _ | refine Below.drew ?_ | refine Below.put ?_ (by dsimp only; omega) _))⟩
  rw [a1] at cs1
  cases a2 : smlM ys 12
  case false =>
    rw [a2] at cs2
    rw [hn, hm]
    clear h1 h2 hn hm hp hv hUp hnn a2
    go_enter Try.func10, Try.ntmps10
    go_wp2_with (first | (go_at_call 12; (first | with_reducible refine use1 (cpr.out _) ?_ | with_reducible refine use (cpr.out _) ?_); intro pw) | (go_at_call 30; (first | with_reducible refine use1 (awake05_c _) ?_ | with_reducible refine use (awake05_c _) ?_); intro pw) | (go_at_call 31; (first | with_reducible refine use1 (cs1.out _ (by repeat (first | exact Below.refl _ _ | refine Below.later ?_ _ | refine Below.box ?_ _ | refine Below.drew ?_ | refine Below.put ?_ (by dsimp only; omega) _))) ?_ | with_reducible refine use (cs1.out _ (by repeat (first | exact Below.refl _ _ | refine Below.later ?_ _ | refine Below.box ?_ _ | refine Below.drew ?_ | refine Below.put ?_ (by dsimp only; omega) _))) ?_); intro pw) | (go_at_call 31; (first | with_reducible refine use1 (cs2.out _ (by repeat (first | exact Below.refl _ _ | refine Below.later ?_ _ | refine Below.box ?_ _ | refine Below.drew ?_ | refine Below.put ?_ (by dsimp only; omega) _))) ?_ | with_reducible refine use (cs2.out _ (by repeat (first | exact Below.refl _ _ | refine Below.later ?_ _ | refine Below.box ?_ _ | refine Below.drew ?_ | refine Below.put ?_ (by dsimp only; omega) _))) ?_); intro pw) | (go_at_call 47; (first | with_reducible refine use1 (cq1.out _ (by repeat (first | exact Below.refl _ _ | refine Below.later ?_ _ | refine Below.box ?_ _ | refine Below.drew ?_ | refine Below.put ?_ (by dsimp only; omega) _))) ?_ | with_reducible refine use (cq1.out _ (by repeat (first | exact Below.refl _ _ | refine Below.later ?_ _ | refine Below.box ?_ _ | refine Below.drew ?_ | refine Below.put ?_ (by dsimp only; omega) _))) ?_); intro pw) | (go_at_call 47; (first | with_reducible refine use1 (cq2.out _ (by repeat (first | exact Below.refl _ _ | refine Below.later ?_ _ | refine Below.box ?_ _ | refine Below.drew ?_ | refine Below.put ?_ (by dsimp only; omega) _))) ?_ | with_reducible refine use (cq2.out _ (by repeat (first | exact Below.refl _ _ | refine Below.later ?_ _ | refine Below.box ?_ _ | refine Below.drew ?_ | refine Below.put ?_ (by dsimp only; omega) _))) ?_); intro pw))
    go_ret
    exact ⟨rfl, (by repeat (first | exact Below.refl _ _ | refine Below.later ?_ _ | refine Below.box ?_ _ | refine Below.drew ?_ | refine Below.put ?_ (by dsimp only; omega) _))⟩
  rw [a2] at cs2
  cases a3 : (vldM xs && decide (colsN xs = n))
  case false =>
    rw [a3] at cq1
    rw [hn, hm]
    clear h1 h2 hn hm hp hv hUp hnn a3
    go_enter Try.func10, Try.ntmps10
    go_wp2_with (first | (go_at_call 12; (first | with_reducible refine use1 (cpr.out _) ?_ | with_reducible refine use (cpr.out _) ?_); intro pw) | (go_at_call 30; (first | with_reducible refine use1 (awake05_c _) ?_ | with_reducible refine use (awake05_c _) ?_); intro pw) | (go_at_call 31; (first | with_reducible refine use1 (cs1.out _ (by repeat (first | exact Below.refl _ _ | refine Below.later ?_ _ | refine Below.box ?_ _ | refine Below.drew ?_ | refine Below.put ?_ (by dsimp only; omega) _))) ?_ | with_reducible refine use (cs1.out _ (by repeat (first | exact Below.refl _ _ | refine Below.later ?_ _ | refine Below.box ?_ _ | refine Below.drew ?_ | refine Below.put ?_ (by dsimp only; omega) _))) ?_); intro pw) | (go_at_call 31; (first | with_reducible refine use1 (cs2.out _ (by repeat (first | exact Below.refl _ _ | refine Below.later ?_ _ | refine Below.box ?_ _ | refine Below.drew ?_ | refine Below.put ?_ (by dsimp only; omega) _))) ?_ | with_reducible refine use (cs2.out _ (by repeat (first | exact Below.refl _ _ | refine Below.later ?_ _ | refine Below.box ?_ _ | refine Below.drew ?_ | refine Below.put ?_ (by dsimp only; omega) _))) ?_); intro pw) | (go_at_call 47; (first | with_reducible refine use1 (cq1.out _ (by repeat (first | exact Below.refl _ _ | refine Below.later ?_ _ | refine Below.box ?_ _ | refine Below.drew ?_ | refine Below.put ?_ (by dsimp only; omega) _))) ?_ | with_reducible refine use (cq1.out _ (by repeat (first | exact Below.refl _ _ | refine Below.later ?_ _ | refine Below.box ?_ _ | refine Below.drew ?_ | refine Below.put ?_ (by dsimp only; omega) _))) ?_); intro pw) | (go_at_call 47; (first | with_reducible refine use1 (cq2.out _ (by repeat (first | exact Below.refl _ _ | refine Below.later ?_ _ | refine Below.box ?_ _ | refine Below.drew ?_ | refine Below.put ?_ (by dsimp only; omega) _))) ?_ | with_reducible refine use (cq2.out _ (by repeat (first | exact Below.refl _ _ | refine Below.later ?_ _ | refine Below.box ?_ _ | refine Below.drew ?_ | refine Below.put ?_ (by dsimp only; omega) _))) ?_); intro pw))
    go_ret
    exact ⟨rfl, (by repeat (first | exact Below.refl _ _ | refine Below.later ?_ _ | refine Below.box ?_ _ | refine Below.drew ?_ | refine Below.put ?_ (by dsimp only; omega) _))⟩
  rw [a3] at cq1
  cases a4 : (vldM ys && decide (colsN ys = m))
  case false =>
    rw [a4] at cq2
    rw [hn, hm]
    clear h1 h2 hn hm hp hv hUp hnn a4
    go_enter Try.func10, Try.ntmps10
    go_wp2_with (first | (go_at_call 12; (first | with_reducible refine use1 (cpr.out _) ?_ | with_reducible refine use (cpr.out _) ?_); intro pw) | (go_at_call 30; (first | with_reducible refine use1 (awake05_c _) ?_ | with_reducible refine use (awake05_c _) ?_); intro pw) | (go_at_call 31; (first | with_reducible refine use1 (cs1.out _ (by repeat (first | exact Below.refl _ _ | refine Below.later ?_ _ | refine Below.box ?_ _ | refine Below.drew ?_ | refine Below.put ?_ (by dsimp only; omega) _))) ?_ | with_reducible refine use (cs1.out _ (by repeat (first | exact Below.refl _ _ | refine Below.later ?_ _ | refine Below.box ?_ _ | refine Below.drew ?_ | refine Below.put ?_ (by dsimp only; omega) _))) ?_); intro pw) | (go_at_call 31; (first | with_reducible refine use1 (cs2.out _ (by repeat (first | exact Below.refl _ _ | refine Below.later ?_ _ | refine Below.box ?_ _ | refine Below.drew ?_ | refine Below.put ?_ (by dsimp only; omega) _))) ?_ | with_reducible refine use (cs2.out _ (by repeat (first | exact Below.refl _ _ | refine Below.later ?_ _ | refine Below.box ?_ _ | refine Below.drew ?_ | refine Below.put ?_ (by dsimp only; omega) _))) ?_); intro pw) | (go_at_call 47; (first | with_reducible refine use1 (cq1.out _ (by repeat (first | exact Below.refl _ _ | refine Below.later ?_ _ | refine Below.box ?_ _ | refine Below.drew ?_ | refine Below.put ?_ (by dsimp only; omega) _))) ?_ | with_reducible refine use (cq1.out _ (by repeat (first | exact Below.refl _ _ | refine Below.later ?_ _ | refine Below.box ?_ _ | refine Below.drew ?_ | refine Below.put ?_ (by dsimp only; omega) _))) ?_); intro pw) | (go_at_call 47; (first | with_reducible refine use1 (cq2.out _ (by repeat (first | exact Below.refl _ _ | refine Below.later ?_ _ | refine Below.box ?_ _ | refine Below.drew ?_ | refine Below.put ?_ (by dsimp only; omega) _))) ?_ | with_reducible refine use (cq2.out _ (by repeat (first | exact Below.refl _ _ | refine Below.later ?_ _ | refine Below.box ?_ _ | refine Below.drew ?_ | refine Below.put ?_ (by dsimp only; omega) _))) ?_); intro pw))
    go_ret
    exact ⟨rfl, (by repeat (first | exact Below.refl _ _ | refine Below.later ?_ _ | refine Below.box ?_ _ | refine Below.drew ?_ | refine Below.put ?_ (by dsimp only; omega) _))⟩
  rw [a4] at cq2
  by_cases a5 : n = m
  case neg =>
    have hb : (((n : Nat) : Int) != (m : Int)) = true := by simp; omega
    rw [hn, hm]
    clear h1 h2 hn hm hp hv hUp hnn a1 a2 a3 a4 a5
    go_enter Try.func10, Try.ntmps10
    go_wp2_with (first | (go_at_call 12; (first | with_reducible refine use1 (cpr.out _) ?_ | with_reducible refine use (cpr.out _) ?_); intro pw) | (go_at_call 30; (first | with_reducible refine use1 (awake05_c _) ?_ | with_reducible refine use (awake05_c _) ?_); intro pw) | (go_at_call 31; (first | with_reducible refine use1 (cs1.out _ (by repeat (first | exact Below.refl _ _ | refine Below.later ?_ _ | refine Below.box ?_ _ | refine Below.drew ?_ | refine Below.put ?_ (by dsimp only; omega) _))) ?_ | with_reducible refine use (cs1.out _ (by repeat (first | exact Below.refl _ _ | refine Below.later ?_ _ | refine Below.box ?_ _ | refine Below.drew ?_ | refine Below.put ?_ (by dsimp only; omega) _))) ?_); intro pw) | (go_at_call 31; (first | with_reducible refine use1 (cs2.out _ (by repeat (first | exact Below.refl _ _ | refine Below.later ?_ _ | refine Below.box ?_ _ | refine Below.drew ?_ | refine Below.put ?_ (by dsimp only; omega) _))) ?_ | with_reducible refine use (cs2.out _ (by repeat (first | exact Below.refl _ _ | refine Below.later ?_ _ | refine Below.box ?_ _ | refine Below.drew ?_ | refine Below.put ?_ (by dsimp only; omega) _))) ?_); intro pw) | (go_at_call 47; (first | with_reducible refine use1 (cq1.out _ (by repeat (first | exact Below.refl _ _ | refine Below.later ?_ _ | refine Below.box ?_ _ | refine Below.drew ?_ | refine Below.put ?_ (by dsimp only; omega) _))) ?_ | with_reducible refine use (cq1.out _ (by repeat (first | exact Below.refl _ _ | refine Below.later ?_ _ | refine Below.box ?_ _ | refine Below.drew ?_ | refine Below.put ?_ (by dsimp only; omega) _))) ?_); intro pw) | (go_at_call 47; (first | with_reducible refine use1 (cq2.out _ (by repeat (first | exact Below.refl _ _ | refine Below.later ?_ _ | refine Below.box ?_ _ | refine Below.drew ?_ | refine Below.put ?_ (by dsimp only; omega) _))) ?_ | with_reducible refine use (cq2.out _ (by repeat (first | exact Below.refl _ _ | refine Below.later ?_ _ | refine Below.box ?_ _ | refine Below.drew ?_ | refine Below.put ?_ (by dsimp only; omega) _))) ?_); intro pw))
    go_ret
    exact ⟨rfl, (by repeat (first | exact Below.refl _ _ | refine Below.later ?_ _ | refine Below.box ?_ _ | refine Below.drew ?_ | refine Below.put ?_ (by dsimp only; omega) _))⟩
  subst a5
  simp only [Bool.and_eq_true, decide_eq_true_eq] at a3 a4
  have hn12 : n ≤ 12 := by have := (smlM_le a1).1; omega
  have ccp1 : Kept (∀ w', Below w.heap.size w w' → Calls Try.prog 33 #[.slice u1 n c1] w' (GivesC xs w')) := ⟨fun w' hw => by have := h1.cp a1 (by omega) hw; rw [hn] at this; exact this⟩
  have ccp2 : Kept (∀ w', Below w.heap.size w w' → Calls Try.prog 33 #[.slice u2 n c2] w' (GivesC ys w')) := ⟨fun w' hw => by have := h2.cp a2 (by omega) hw; rw [hm] at this; exact this⟩
  have cmu : Kept (∀ w' u v c d, Mt w' u xs → Mt w' v ys → Calls Try.prog 18 #[.agg #[.int .u64 p], .slice u n c, .slice v n d] w' (GivesM0 w' n n (msF p (lf xs) (lf ys) n))) := ⟨fun w' u v c d hx hy => multiply_lc p n n n u v c d xs ys w' hx hy hv a3.1 a4.1 hn a3.2 hm a4.2⟩
  have cdt : Kept (∀ w' u c (ls : List (List Int)), ls.length = n → Mt w' u ls → Calls Try.prog 20 #[.agg #[.int .u64 p], .slice u n c] w' (fun e w'' => e = .returned (.int .u64 (detE p ls)) ∧ Below w'.heap.size w' w'')) := ⟨fun w' u c ls hl h => by have := det_c p u c ls w' h; rw [hl] at this; exact this⟩
  have kU : Kept (∀ i j, i < n → j < n → U (msF p (lf xs) (lf ys) n i j)) := ⟨fun i j _ _ => msP_U p _ _ i j n⟩
  have kpr : Kept (detE p (matL n n (msF p (lf xs) (lf ys) n)) = fmul p (detE p xs) (detE p ys)) := ⟨det_prod hv (by omega) a3.1 hn a3.2 a4.1 hm a4.2⟩
  have b1 := (detE_cg hv a3.1 hn a3.2).2
  have b2 := (detE_cg hv a4.1 hm a4.2).2
  have hpp := vld_pos hv
  have cml : Kept (∀ w, Calls Try.prog 15 #[.agg #[.int .u64 p], .int .u64 (detE p xs), .int .u64 (detE p ys)] w (Gives (.int .u64 (fmul p (detE p xs) (detE p ys))) w)) := ⟨fun w => mul_c p _ _ w ⟨b1.1, by omega⟩ ⟨b2.1, by omega⟩⟩
  rw [hn, hm]
  have kn := (⟨hn⟩ : Kept _)
  have km := (⟨hm⟩ : Kept _)
  clear h1 h2 hn hm hp hv hUp hnn a1 a2 a3 a4 b1 b2 hpp
  go_enter Try.func10, Try.ntmps10
  go_wp2_with (first | (go_at_call 12; (first | with_reducible refine use1 (cpr.out _) ?_ | with_reducible refine use (cpr.out _) ?_); intro pw) | (go_at_call 30; (first | with_reducible refine use1 (awake05_c _) ?_ | with_reducible refine use (awake05_c _) ?_); intro pw) | (go_at_call 31; (first | with_reducible refine use1 (cs1.out _ (by repeat (first | exact Below.refl _ _ | refine Below.later ?_ _ | refine Below.box ?_ _ | refine Below.drew ?_ | refine Below.put ?_ (by dsimp only; omega) _))) ?_ | with_reducible refine use (cs1.out _ (by repeat (first | exact Below.refl _ _ | refine Below.later ?_ _ | refine Below.box ?_ _ | refine Below.drew ?_ | refine Below.put ?_ (by dsimp only; omega) _))) ?_); intro pw) | (go_at_call 31; (first | with_reducible refine use1 (cs2.out _ (by repeat (first | exact Below.refl _ _ | refine Below.later ?_ _ | refine Below.box ?_ _ | refine Below.drew ?_ | refine Below.put ?_ (by dsimp only; omega) _))) ?_ | with_reducible refine use (cs2.out _ (by repeat (first | exact Below.refl _ _ | refine Below.later ?_ _ | refine Below.box ?_ _ | refine Below.drew ?_ | refine Below.put ?_ (by dsimp only; omega) _))) ?_); intro pw) | (go_at_call 47; (first | with_reducible refine use1 (cq1.out _ (by repeat (first | exact Below.refl _ _ | refine Below.later ?_ _ | refine Below.box ?_ _ | refine Below.drew ?_ | refine Below.put ?_ (by dsimp only; omega) _))) ?_ | with_reducible refine use (cq1.out _ (by repeat (first | exact Below.refl _ _ | refine Below.later ?_ _ | refine Below.box ?_ _ | refine Below.drew ?_ | refine Below.put ?_ (by dsimp only; omega) _))) ?_); intro pw) | (go_at_call 47; (first | with_reducible refine use1 (cq2.out _ (by repeat (first | exact Below.refl _ _ | refine Below.later ?_ _ | refine Below.box ?_ _ | refine Below.drew ?_ | refine Below.put ?_ (by dsimp only; omega) _))) ?_ | with_reducible refine use (cq2.out _ (by repeat (first | exact Below.refl _ _ | refine Below.later ?_ _ | refine Below.box ?_ _ | refine Below.drew ?_ | refine Below.put ?_ (by dsimp only; omega) _))) ?_); intro pw))
  obtain ⟨w0, hw0⟩ : ∃ w0, w0 = after w pw := ⟨_, rfl⟩
  have hXs : w.heap.size + pw.os.size = w0.heap.size := by rw [hw0]; simp
  rw [hXs, ← hw0]
  have kB0 : Kept (Below w.heap.size w w0) := ⟨by rw [hw0]; exact (by repeat (first | exact Below.refl _ _ | refine Below.later ?_ _ | refine Below.box ?_ _ | refine Below.drew ?_ | refine Below.put ?_ (by dsimp only; omega) _))⟩
  clear hw0 hXs cs1 cs2 cq1 cq2 cpr
  obtain ⟨X, hX⟩ : ∃ X, w0.heap.size = X := ⟨_, rfl⟩
  have hB1 : Below w.heap.size w (w0.alloc (.cells #[.int .u64 p] 27)) := Below.next kB0.out (by repeat (first | exact Below.refl _ _ | refine Below.later ?_ _ | refine Below.box ?_ _ | refine Below.drew ?_ | refine Below.put ?_ (by dsimp only; omega) _))
  have hb1 : (w0.alloc (.cells #[.int .u64 p] 27)).cell? ⟨X, 0, none⟩ = some (.int .u64 p) := by rw [← hX]; simp [go_sem]
  have hl1 : X < (w0.alloc (.cells #[.int .u64 p] 27)).heap.size := by rw [← hX]; simp
  rw [hX]
  generalize w0.alloc (.cells #[.int .u64 p] 27) = W1 at hB1 hb1 hl1 ⊢
  have kB1 := (⟨hB1⟩ : Kept _)
  have hS : Kept (∀ w', Below W1.heap.size W1 w' → w'.cell? ⟨X, 0, none⟩ = some (.int .u64 p)) := ⟨fun w' hw => by rw [hw.cell (p := ⟨X, 0, none⟩) hl1]; exact hb1⟩
  clear hB1 hX
  refine wp_region_noPanic ?_
  refine wp_region_held_drew (S := (fun w' => w'.cell? ⟨X, 0, none⟩ = some (.int .u64 p))) (by kernel_rfl) (hS.out _ (by repeat (first | exact Below.refl _ _ | refine Below.later ?_ _ | refine Below.box ?_ _ | refine Below.drew ?_ | refine Below.put ?_ (by dsimp only; omega) _))) (fun hHeld => ?_)
  refine wpAnyH_take (i := 0) (oi := ?o0q1) (v := ?v0q1) ?hi0q1 (by kernel_rfl) (by kernel_rfl) (by kernel_rfl) (fun _ _ _ h => h) (Or.inl ⟨?hg0q1, ?hy0q1⟩) (by assumption) ?rest0q1
  case hi0q1 => rfl
  case hg0q1 => rfl
  case' hy0q1 =>
    dsimp only [List.getElem?_toArray, List.getElem?_cons_succ, List.getElem?_cons_zero, List.getElem_cons_succ, List.getElem_cons_zero, List.getElem_toArray]
    intro w hSw
    try dsimp only at hSw
    go_simp
    try with_reducible rfl
  case' rest0q1 =>
    dsimp only [List.getElem?_toArray, List.getElem?_cons_succ, List.getElem?_cons_zero, List.getElem_cons_succ, List.getElem_cons_zero, List.getElem_toArray]
    try simp only [Act.put, List.setIfInBounds_toArray, List.set_cons_zero, List.set_cons_succ]
  refine wpAnyH_take (i := 1) (oi := ?o1q2) (v := ?v1q2) ?hi1q2 (by kernel_rfl) (by kernel_rfl) (by kernel_rfl) (fun _ _ _ h => h) (Or.inl ⟨?hg1q2, ?hy1q2⟩) (by assumption) ?rest1q2
  case hi1q2 => rfl
  case hg1q2 => rfl
  case' hy1q2 =>
    dsimp only [List.getElem?_toArray, List.getElem?_cons_succ, List.getElem?_cons_zero, List.getElem_cons_succ, List.getElem_cons_zero, List.getElem_toArray]
    intro w hSw
    try dsimp only at hSw
    go_simp
    try with_reducible rfl
  case' rest1q2 =>
    dsimp only [List.getElem?_toArray, List.getElem?_cons_succ, List.getElem?_cons_zero, List.getElem_cons_succ, List.getElem_cons_zero, List.getElem_toArray]
    try simp only [Act.put, List.setIfInBounds_toArray, List.set_cons_zero, List.set_cons_succ]
  refine wpAnyH_take (i := 2) (oi := ?o2q3) (v := ?v2q3) ?hi2q3 (by kernel_rfl) (by kernel_rfl) (by kernel_rfl) (fun _ _ _ h => h) (Or.inl ⟨?hg2q3, ?hy2q3⟩) (by assumption) ?rest2q3
  case hi2q3 => rfl
  case hg2q3 => rfl
  case' hy2q3 =>
    dsimp only [List.getElem?_toArray, List.getElem?_cons_succ, List.getElem?_cons_zero, List.getElem_cons_succ, List.getElem_cons_zero, List.getElem_toArray]
    intro w hSw
    try dsimp only at hSw
    go_simp
    try with_reducible rfl
  case' rest2q3 =>
    dsimp only [List.getElem?_toArray, List.getElem?_cons_succ, List.getElem?_cons_zero, List.getElem_cons_succ, List.getElem_cons_zero, List.getElem_toArray]
    try simp only [Act.put, List.setIfInBounds_toArray, List.set_cons_zero, List.set_cons_succ]
  refine wpAnyH_take (i := 4) (oi := ?o4q4) (v := ?v4q4) ?hi4q4 (by kernel_rfl) (by kernel_rfl) (by kernel_rfl) (fun _ _ _ h => h) (Or.inl ⟨?hg4q4, ?hy4q4⟩) (by assumption) ?rest4q4
  case hi4q4 => rfl
  case hg4q4 => rfl
  case' hy4q4 =>
    dsimp only [List.getElem?_toArray, List.getElem?_cons_succ, List.getElem?_cons_zero, List.getElem_cons_succ, List.getElem_cons_zero, List.getElem_toArray]
    intro w hSw
    try dsimp only at hSw
    go_simp
    try with_reducible rfl
  case' rest4q4 =>
    dsimp only [List.getElem?_toArray, List.getElem?_cons_succ, List.getElem?_cons_zero, List.getElem_cons_succ, List.getElem_cons_zero, List.getElem_toArray]
    try simp only [Act.put, List.setIfInBounds_toArray, List.set_cons_zero, List.set_cons_succ]
  refine wpAnyH_take (i := 8) (oi := ?o8q5) (v := ?v8q5) ?hi8q5 (by kernel_rfl) (by kernel_rfl) (by kernel_rfl) (fun _ _ _ h => h) (Or.inl ⟨?hg8q5, ?hy8q5⟩) (by assumption) ?rest8q5
  case hi8q5 => rfl
  case hg8q5 => rfl
  case' hy8q5 =>
    dsimp only [List.getElem?_toArray, List.getElem?_cons_succ, List.getElem?_cons_zero, List.getElem_cons_succ, List.getElem_cons_zero, List.getElem_toArray]
    intro w hSw
    try dsimp only at hSw
    go_simp
    try with_reducible rfl
  case' rest8q5 =>
    dsimp only [List.getElem?_toArray, List.getElem?_cons_succ, List.getElem?_cons_zero, List.getElem_cons_succ, List.getElem_cons_zero, List.getElem_toArray]
    try simp only [Act.put, List.setIfInBounds_toArray, List.set_cons_zero, List.set_cons_succ]
  refine wpAnyH_take (i := 9) (oi := ?o9q6) (v := ?v9q6) ?hi9q6 (by kernel_rfl) (by kernel_rfl) (by kernel_rfl) (fun _ _ _ h => h) (Or.inl ⟨?hg9q6, ?hy9q6⟩) (by assumption) ?rest9q6
  case hi9q6 => rfl
  case hg9q6 => rfl
  case' hy9q6 =>
    dsimp only [List.getElem?_toArray, List.getElem?_cons_succ, List.getElem?_cons_zero, List.getElem_cons_succ, List.getElem_cons_zero, List.getElem_toArray]
    intro w hSw
    try dsimp only at hSw
    go_simp
    try with_reducible rfl
  case' rest9q6 =>
    dsimp only [List.getElem?_toArray, List.getElem?_cons_succ, List.getElem?_cons_zero, List.getElem_cons_succ, List.getElem_cons_zero, List.getElem_toArray]
    try simp only [Act.put, List.setIfInBounds_toArray, List.set_cons_zero, List.set_cons_succ]
  refine wpAnyH_take (i := 10) (oi := ?o10q7) (v := ?v10q7) ?hi10q7 (by kernel_rfl) (by kernel_rfl) (by kernel_rfl) (fun _ _ _ h => h) (Or.inl ⟨?hg10q7, ?hy10q7⟩) (by assumption) ?rest10q7
  case hi10q7 => rfl
  case hg10q7 => rfl
  case' hy10q7 =>
    dsimp only [List.getElem?_toArray, List.getElem?_cons_succ, List.getElem?_cons_zero, List.getElem_cons_succ, List.getElem_cons_zero, List.getElem_toArray]
    intro w hSw
    try dsimp only at hSw
    go_simp
    try with_reducible rfl
  case' rest10q7 =>
    dsimp only [List.getElem?_toArray, List.getElem?_cons_succ, List.getElem?_cons_zero, List.getElem_cons_succ, List.getElem_cons_zero, List.getElem_toArray]
    try simp only [Act.put, List.setIfInBounds_toArray, List.set_cons_zero, List.set_cons_succ]
  refine wpAnyH_take (i := 13) (oi := ?o13q8) (v := ?v13q8) ?hi13q8 (by kernel_rfl) (by kernel_rfl) (by kernel_rfl) (fun _ _ _ h => h) (Or.inl ⟨?hg13q8, ?hy13q8⟩) (by assumption) ?rest13q8
  case hi13q8 => rfl
  case hg13q8 => rfl
  case' hy13q8 =>
    dsimp only [List.getElem?_toArray, List.getElem?_cons_succ, List.getElem?_cons_zero, List.getElem_cons_succ, List.getElem_cons_zero, List.getElem_toArray]
    intro w hSw
    try dsimp only at hSw
    go_simp
    try with_reducible rfl
  case' rest13q8 =>
    dsimp only [List.getElem?_toArray, List.getElem?_cons_succ, List.getElem?_cons_zero, List.getElem_cons_succ, List.getElem_cons_zero, List.getElem_toArray]
    try simp only [Act.put, List.setIfInBounds_toArray, List.set_cons_zero, List.set_cons_succ]
  refine wpAnyH_take (i := 14) (oi := ?o14q9) (v := ?v14q9) ?hi14q9 (by kernel_rfl) (by kernel_rfl) (by kernel_rfl) (fun _ _ _ h => h) (Or.inl ⟨?hg14q9, ?hy14q9⟩) (by assumption) ?rest14q9
  case hi14q9 => rfl
  case hg14q9 => rfl
  case' hy14q9 =>
    dsimp only [List.getElem?_toArray, List.getElem?_cons_succ, List.getElem?_cons_zero, List.getElem_cons_succ, List.getElem_cons_zero, List.getElem_toArray]
    intro w hSw
    try dsimp only at hSw
    go_simp
    try with_reducible rfl
  case' rest14q9 =>
    dsimp only [List.getElem?_toArray, List.getElem?_cons_succ, List.getElem?_cons_zero, List.getElem_cons_succ, List.getElem_cons_zero, List.getElem_toArray]
    try simp only [Act.put, List.setIfInBounds_toArray, List.set_cons_zero, List.set_cons_succ]
  refine wpAnyH_ready (rs := [3]) (by kernel_rfl) (by simp) ?_
  refine AllReadyH.cons rfl (fun K hK => ?_) AllReadyH.nil
  dsimp only [List.getElem?_toArray, List.getElem?_cons_succ, List.getElem?_cons_zero, List.getElem_cons_succ, List.getElem_cons_zero, List.getElem_toArray]
  go_simp
  go_at_call 33
  refine (ccp1.out _ (Below.next kB1.out (by repeat (first | exact Below.refl _ _ | refine Below.later ?_ _ | refine Below.box ?_ _ | refine Below.drew ?_ | refine Below.put ?_ (by dsimp only; omega) _)))).mono ?_
  rintro e w2 ⟨ua, ca, rfl, hMa, _, hB2⟩
  replace hB2 : Below W1.heap.size W1 w2 := Below.next (by repeat (first | exact Below.refl _ _ | refine Below.later ?_ _ | refine Below.box ?_ _ | refine Below.drew ?_ | refine Below.put ?_ (by dsimp only; omega) _)) hB2
  simp only [kn.out]
  go_wp2
  refine hK.out _ _ ?_ (fun hHeld => ?_)
  · exact hS.out _ (hB2)
  clear hK K
  try simp only [Act.put, List.setIfInBounds_toArray, List.set_cons_zero, List.set_cons_succ]
  refine wpAnyH_ready (rs := [5]) (by kernel_rfl) (by simp) ?_
  refine AllReadyH.cons rfl (fun K hK => ?_) AllReadyH.nil
  dsimp only [List.getElem?_toArray, List.getElem?_cons_succ, List.getElem?_cons_zero, List.getElem_cons_succ, List.getElem_cons_zero, List.getElem_toArray]
  go_simp
  go_at_call 33
  refine (ccp2.out _ (Below.next kB1.out hB2)).mono ?_
  rintro e w3 ⟨ub, cb, rfl, hMb, _, hB3⟩
  replace hMa := hMa.below (Nat.le_refl _) hB3
  replace hB3 : Below W1.heap.size W1 w3 := Below.next hB2 hB3
  simp only [km.out]
  go_wp2
  refine hK.out _ _ ?_ (fun hHeld => ?_)
  · exact hS.out _ (hB3)
  clear hK K
  try simp only [Act.put, List.setIfInBounds_toArray, List.set_cons_zero, List.set_cons_succ]
  refine wpAnyH_ready (rs := [6]) (by kernel_rfl) (by simp) ?_
  refine AllReadyH.cons rfl (fun K hK => ?_) AllReadyH.nil
  dsimp only [List.getElem?_toArray, List.getElem?_cons_succ, List.getElem?_cons_zero, List.getElem_cons_succ, List.getElem_cons_zero, List.getElem_toArray]
  go_simp
  go_at_call 18
  refine (cmu.out _ _ _ _ _ hMa hMb).mono ?_
  rintro e w4 ⟨Bm, bfm, rfl, hRm⟩
  have hMm := hRm.done.mt (by omega) (by omega) kU.out
  have hB4 : Below W1.heap.size W1 w4 := Below.next hB3 hRm.below
  clear hRm hMa hMb
  go_wp2
  refine hK.out _ _ ?_ (fun hHeld => ?_)
  · exact hS.out _ (hB4)
  clear hK K
  try simp only [Act.put, List.setIfInBounds_toArray, List.set_cons_zero, List.set_cons_succ]
  refine wpAnyH_ready (rs := [7]) (by kernel_rfl) (by simp) ?_
  refine AllReadyH.cons rfl (fun K hK => ?_) AllReadyH.nil
  dsimp only [List.getElem?_toArray, List.getElem?_cons_succ, List.getElem?_cons_zero, List.getElem_cons_succ, List.getElem_cons_zero, List.getElem_toArray]
  go_simp
  go_at_call 20
  refine (cdt.out _ _ _ _ (matL_len n n _) hMm).mono ?_
  rintro e w5 ⟨rfl, hB5⟩
  replace hB5 : Below W1.heap.size W1 w5 := Below.next hB4 hB5
  go_wp2
  refine hK.out _ _ ?_ (fun hHeld => ?_)
  · exact hS.out _ (hB5)
  clear hK K
  try simp only [Act.put, List.setIfInBounds_toArray, List.set_cons_zero, List.set_cons_succ]
  refine wpAnyH_ready (rs := [11]) (by kernel_rfl) (by simp) ?_
  refine AllReadyH.cons rfl (fun K hK => ?_) AllReadyH.nil
  dsimp only [List.getElem?_toArray, List.getElem?_cons_succ, List.getElem?_cons_zero, List.getElem_cons_succ, List.getElem_cons_zero, List.getElem_toArray]
  go_simp
  go_at_call 33
  refine (ccp1.out _ (Below.next kB1.out hB5)).mono ?_
  rintro e w6 ⟨uc, cc, rfl, hMc, _, hB6⟩
  replace hB6 : Below W1.heap.size W1 w6 := Below.next hB5 hB6
  simp only [kn.out]
  go_wp2
  refine hK.out _ _ ?_ (fun hHeld => ?_)
  · exact hS.out _ (hB6)
  clear hK K
  try simp only [Act.put, List.setIfInBounds_toArray, List.set_cons_zero, List.set_cons_succ]
  refine wpAnyH_ready (rs := [12]) (by kernel_rfl) (by simp) ?_
  refine AllReadyH.cons rfl (fun K hK => ?_) AllReadyH.nil
  dsimp only [List.getElem?_toArray, List.getElem?_cons_succ, List.getElem?_cons_zero, List.getElem_cons_succ, List.getElem_cons_zero, List.getElem_toArray]
  go_simp
  go_at_call 20
  refine (cdt.out _ _ _ _ kn.out hMc).mono ?_
  rintro e w7 ⟨rfl, hB7⟩
  replace hB7 : Below W1.heap.size W1 w7 := Below.next hB6 hB7
  go_wp2
  refine hK.out _ _ ?_ (fun hHeld => ?_)
  · exact hS.out _ (hB7)
  clear hK K
  try simp only [Act.put, List.setIfInBounds_toArray, List.set_cons_zero, List.set_cons_succ]
  refine wpAnyH_ready (rs := [15]) (by kernel_rfl) (by simp) ?_
  refine AllReadyH.cons rfl (fun K hK => ?_) AllReadyH.nil
  dsimp only [List.getElem?_toArray, List.getElem?_cons_succ, List.getElem?_cons_zero, List.getElem_cons_succ, List.getElem_cons_zero, List.getElem_toArray]
  go_simp
  go_at_call 33
  refine (ccp2.out _ (Below.next kB1.out hB7)).mono ?_
  rintro e w8 ⟨ud, cd, rfl, hMd, _, hB8⟩
  replace hB8 : Below W1.heap.size W1 w8 := Below.next hB7 hB8
  simp only [km.out]
  go_wp2
  refine hK.out _ _ ?_ (fun hHeld => ?_)
  · exact hS.out _ (hB8)
  clear hK K
  try simp only [Act.put, List.setIfInBounds_toArray, List.set_cons_zero, List.set_cons_succ]
  refine wpAnyH_ready (rs := [16]) (by kernel_rfl) (by simp) ?_
  refine AllReadyH.cons rfl (fun K hK => ?_) AllReadyH.nil
  dsimp only [List.getElem?_toArray, List.getElem?_cons_succ, List.getElem?_cons_zero, List.getElem_cons_succ, List.getElem_cons_zero, List.getElem_toArray]
  go_simp
  go_at_call 20
  refine (cdt.out _ _ _ _ km.out hMd).mono ?_
  rintro e w9 ⟨rfl, hB9⟩
  replace hB9 : Below W1.heap.size W1 w9 := Below.next hB8 hB9
  go_wp2
  refine hK.out _ _ ?_ (fun hHeld => ?_)
  · exact hS.out _ (hB9)
  clear hK K
  try simp only [Act.put, List.setIfInBounds_toArray, List.set_cons_zero, List.set_cons_succ]
  refine wpAnyH_ready (rs := [17]) (by kernel_rfl) (by simp) ?_
  refine AllReadyH.cons rfl (fun K hK => ?_) AllReadyH.nil
  dsimp only [List.getElem?_toArray, List.getElem?_cons_succ, List.getElem?_cons_zero, List.getElem_cons_succ, List.getElem_cons_zero, List.getElem_toArray]
  go_simp
  go_at_call 15
  refine use (cml.out _) ?_
  intro pw9
  go_wp2
  refine hK.out _ _ ?_ (fun hHeld => ?_)
  · exact hS.out _ (Below.later hB9 _)
  clear hK K
  try simp only [Act.put, List.setIfInBounds_toArray, List.set_cons_zero, List.set_cons_succ]
  rw [kpr.out]
  generalize fmul p (detE p xs) (detE p ys) = z
  refine wpAnyH_take (i := 18) (oi := ?o18q10) (v := ?v18q10) ?hi18q10 (by kernel_rfl) (by kernel_rfl) (by kernel_rfl) (fun _ _ _ h => h) (Or.inl ⟨?hg18q10, ?hy18q10⟩) (by assumption) ?rest18q10
  case hi18q10 => rfl
  case hg18q10 => rfl
  case' hy18q10 =>
    dsimp only [List.getElem?_toArray, List.getElem?_cons_succ, List.getElem?_cons_zero, List.getElem_cons_succ, List.getElem_cons_zero, List.getElem_toArray]
    intro w hSw
    try dsimp only at hSw
    go_simp
    try with_reducible rfl
  case' rest18q10 =>
    dsimp only [List.getElem?_toArray, List.getElem?_cons_succ, List.getElem?_cons_zero, List.getElem_cons_succ, List.getElem_cons_zero, List.getElem_toArray]
    try simp only [Act.put, List.setIfInBounds_toArray, List.set_cons_zero, List.set_cons_succ]
  refine wpAnyH_take (i := 19) (oi := ?o19q11) (v := ?v19q11) ?hi19q11 (by kernel_rfl) (by kernel_rfl) (by kernel_rfl) (fun _ _ _ h => h) (Or.inl ⟨?hg19q11, ?hy19q11⟩) (by assumption) ?rest19q11
  case hi19q11 => rfl
  case hg19q11 => rfl
  case' hy19q11 =>
    dsimp only [List.getElem?_toArray, List.getElem?_cons_succ, List.getElem?_cons_zero, List.getElem_cons_succ, List.getElem_cons_zero, List.getElem_toArray]
    intro w hSw
    try dsimp only at hSw
    go_simp
    try with_reducible rfl
  case' rest19q11 =>
    dsimp only [List.getElem?_toArray, List.getElem?_cons_succ, List.getElem?_cons_zero, List.getElem_cons_succ, List.getElem_cons_zero, List.getElem_toArray]
    try simp only [Act.put, List.setIfInBounds_toArray, List.set_cons_zero, List.set_cons_succ]
  refine wpAnyH_done (by kernel_rfl) ?_ _
  refine NoPanic.normal ?_
  have kB9 : Kept (Below w.heap.size w (after w9 pw9)) := ⟨Below.next kB1.out (Below.later hB9 _)⟩
  generalize after w9 pw9 = w10 at kB9 ⊢
  clear hB2 hB3 hB4 hB5 hB6 hB7 hB8 hB9 hMm hMc hMd hHeld
  go_wp2
  go_ret
  exact ⟨by simp, kB9.out⟩
set_option maxRecDepth 100000 in
theorem lifted (os : Os) (started : os.Started) (H : Type) (enc : TypeId × Value → H) :
    ReturnsInHanded {} Try.checked os 10 .any (Rows.linearDeterminantProductSpec.pre6 enc Try.prog Try.f10 Rows.linearDeterminantProductRow.domain false) (Rows.linearDeterminantProductSpec.post enc Try.prog Try.f10 false true false false) := by
  refine returnsInHanded_of_change (C := Try.checked) own started (by kernel_rfl) Try.func10
    (ChangeSpec.witness6 (enc := enc) (C := Try.checked) false ⟨#[], #[.int .u8 0, .slice none 0 0, .slice none 0 0], []⟩ 8 (by kernel_rfl) (by kernel_rfl) (by kernel_rfl) (by kernel_rfl)) ?_
  intro W base args ds gs before hval0 hW hcnd _
  have hval : ∀ (j : Nat) t v, Try.f10.params[j]? = some t → args[j]? = some v → Value.okWide Try.prog W .any base t v := hval0
  have hW0 : DataW.Whole enc Try.prog Try.f10.params.toList Rows.linearDeterminantProductSpec.vars false W args.toList ds gs before := hW
  obtain ⟨p, q, hA0, hV, rfl, _, _⟩ := hW
  have hA : DataW.TrodAll enc Try.prog W 0 (fun _ => true) true Try.f10.params.toList args.toList ds p := hA0
  rw [Try.params10] at hA hval
  obtain ⟨v0, vs0, d0, ds0, p0, q0, hargs, rfl, rfl, h0, r0⟩ := trodAll_cons hA
  obtain ⟨v1, vs1, d1, ds1, p1, q1, rfl, rfl, rfl, h1, r1⟩ := trodAll_cons r0
  obtain ⟨v2, vs2, d2, ds2, p2, q2, rfl, rfl, rfl, h2, r2⟩ := trodAll_cons r1
  obtain ⟨rfl, rfl, rfl⟩ := trodAll_nil r2
  obtain rfl : args = #[v0, v1, v2] := by cases args; simp_all
  obtain ⟨rfl, rfl⟩ := trodVars_none hV
  obtain ⟨a0, rfl, u0⟩ := open_u8 (hval 0 5 v0 rfl rfl)
  obtain ⟨a1x, a1y, a1z, rfl, u1⟩ := open_mat (hval 1 28 v1 rfl rfl) h1
  obtain ⟨a2x, a2y, a2z, rfl, u2⟩ := open_mat (hval 2 28 v2 rfl rfl) h2
  clear hA0 hval0
  refine (walk W a0 u0 a1x a1y a1z u1 a2x a2y a2z u2).mono fun e W' ⟨he, hb⟩ => ⟨.bool true, he, ?_⟩
  exact law_post (fun t ht => by have ht' : t ∈ [5, 28, 28] := ht; simp only [List.mem_cons, List.not_mem_nil, or_false] at ht'; rcases ht' with rfl | rfl | rfl <;> exact ⟨by kernel_rfl, of_decide_eq_true (by kernel_rfl)⟩) rfl rfl hW0 rfl hb

theorem over : Rows.linearDeterminantProductRow.holds Try.pinned (OpenSpec.ofChange Rows.linearDeterminantProductSpec) :=
  OpenClaim.holds_of_wide 10 Try.f10 rfl rfl rfl rfl rfl rfl rfl ⟨rfl, rfl, rfl, rfl, rfl⟩ rfl rfl rfl rfl rfl (by kernel_rfl) Try.func10 (by kernel_rfl)
    (of_decide_eq_true (by kernel_rfl)) (by unfold Func.isWrapper; first | (rw [if_pos (by decide +kernel)]; kernel_rfl) | (rw [if_neg (by decide +kernel)]; exact ⟨rfl, rfl⟩))
    (fun os started H enc _ => lifted os started H enc)

/-- The statement. -/
theorem proved : Rows.LinearDeterminantProductSaid := over
#print axioms proved
end Go.Proofs.Ytjnlnbkdnjainaa.linearDeterminantProduct
