/- The reference's New, well-formed, blowup 1. -/
import Derived.Test.YtpkjlnelkacbgaaHTabN
namespace Go.Proofs.Ytpkjlnelkacbgaa
open Go.RowKit Go.Sort

set_option maxHeartbeats 8000000 in
theorem rnew_1 (p pub vs b q N0 NN r1 r2 : Int) (u : Option Addr) (c m : Nat) (w : World) (cv : Kept (∀ w', Below w.heap.size w w' → Calls Try.prog 33 #[.agg #[.int .u64 p, .int .i64 pub, .int .i64 vs, .slice u m c]] w' (Gives (.bool true) w')))
    (g1 : ¬ b < 2) (g2 : ¬ b > 256) (g3 : bits .and .i64 b (b - 1) = 0) (g4 : ¬ q < 1) (g5 : ¬ q > 64) (t1 : 0 ≤ pub) (t2 : pub < vs) (t3 : vs ≤ 65536) (t4 : m ≤ 16384) (hp2 : 17 ≤ p ∧ p ≤ 18446744069414584321)
    (hf : 1 ≤ N0 ∧ N0 ≤ 2048) (hN : Kept (newN b 1 q = NN)) (cf : Kept (∀ w', Calls Try.prog 34 #[.int .i64 (2 * (b + q))] w' (Gives (.int .i64 N0) w'))) (_hb0 : 1 ≤ NN ∧ NN ≤ 16384) (hNN : N0 = NN)
    (hr1 : (p - 1) % b = r1) (hr2 : (p - 1) % NN = r2) (hr1t : (p - 1).tmod b = r1) (hr2t : (p - 1).tmod NN = r2)
    (hE : Kept (newE p b 1 q true = if r1 ≠ 0 ∨ r2 ≠ 0 ∨ p - 1 ≤ NN then 7 else if 1024 < NN then 3 else 0)) (hb2 : ¬ NN = 0) (_hb3 : (NN == 0) = false) :
    Calls Try.prog 13 #[.agg #[.int .u64 p, .int .i64 pub, .int .i64 vs, .slice u m c], .agg #[.int .i64 b, .int .i64 1, .int .i64 q]] w (Gives (.tuple #[newV p pub vs b 1 q m true, .int .i64 (newE p b 1 q true)]) w) := by
  have cp : Kept (∀ n w', 0 ≤ n → n ≤ 1000000 → Calls Try.prog 35 #[.int .i64 n, .int .i64 b] w' (fun e w'' => e = .returned (.int .i64 ((n + b - 1) / b)) ∧ w' = w'')) := ⟨fun n w' h1 h2 => up_c n b w' h1 h2 (by omega) (by omega)⟩
  go_enter Try.func13, Try.ntmps13
  go_wp2_with (first | (go_at_call 33; (first | with_reducible refine use1 (cv.out _ ((by repeat (first | exact Below.refl _ _ | refine Below.later ?_ _ | refine Below.box ?_ _ | refine Below.drew ?_ | refine Below.put ?_ (by dsimp only; omega) _)))) ?_ | with_reducible refine use (cv.out _ ((by repeat (first | exact Below.refl _ _ | refine Below.later ?_ _ | refine Below.box ?_ _ | refine Below.drew ?_ | refine Below.put ?_ (by dsimp only; omega) _)))) ?_); intro pw))
  first | refine region_tail1 (by kernel_rfl) (by kernel_rfl) (by kernel_rfl) ?_ | refine region_tail (by kernel_rfl) (by kernel_rfl) (by kernel_rfl) ?_
  simp only [initOf, lastOf]
  repeat (go_big_quiet_step (first | (go_at_call 34; with_reducible exact quiet (cf.out _))))
  refine wpQuiet_nil ?_
  intro _
  refine Stop.out ?_
  by_cases c1 : r1 = 0
  · by_cases c2 : r2 = 0
    · by_cases c3 : NN ≥ p - 1
      · have hE1 : Kept (newE p b 1 q true = 7) := ⟨by rw [hE.out, if_pos (by omega)]⟩
        have hV : Kept (newV p pub vs b 1 q m true = lay0) := ⟨by rw [newV, hE1.out, if_neg (by decide)]⟩
        clear hE hN
        subst c1 c2
        refine ⟨?_⟩
        go_wp2
        exact bodyPost_ret (v := .tuple #[lay0, .int .i64 7]) (by simp [results, Try.results13, go_sem, lay0]) rfl ⟨by rw [hV.out, hE1.out], (by repeat (first | with_reducible exact Below.refl _ _ | with_reducible refine Below.later ?_ _ | with_reducible refine Below.box ?_ _ | with_reducible refine Below.drew ?_ | with_reducible refine Below.put ?_ (by dsimp only; omega) _))⟩
      · have c3' : decide (NN ≥ p - 1) = false := by simp; omega
        by_cases c4 : NN > 1024
        · have hE1 : Kept (newE p b 1 q true = 3) := ⟨by rw [hE.out, if_neg (by omega), if_pos (by omega)]⟩
          have hV : Kept (newV p pub vs b 1 q m true = lay0) := ⟨by rw [newV, hE1.out, if_neg (by decide)]⟩
          clear hE hN
          subst c1 c2
          refine ⟨?_⟩
          go_wp2
          exact bodyPost_ret (v := .tuple #[lay0, .int .i64 3]) (by simp [results, Try.results13, go_sem, lay0]) rfl ⟨by rw [hV.out, hE1.out], (by repeat (first | with_reducible exact Below.refl _ _ | with_reducible refine Below.later ?_ _ | with_reducible refine Below.box ?_ _ | with_reducible refine Below.drew ?_ | with_reducible refine Below.put ?_ (by dsimp only; omega) _))⟩
        · have hE1 : Kept (newE p b 1 q true = 0) := ⟨by rw [hE.out, if_neg (by omega), if_neg (by omega)]⟩
          have hV : Kept (newV p pub vs b 1 q m true = layV p b q NN (vs - 1 - pub) m) := ⟨by rw [newV, hE1.out, if_pos rfl, hN.out]⟩
          clear hE hN
          subst c1 c2
          refine ⟨?_⟩
          go_wp2_with (first | (go_at_call 35; with_reducible refine use0 (cp.out _ _ (by omega) (by omega)) ?_))
          exact bodyPost_ret (v := .tuple #[layV p b q NN (vs - 1 - pub) m, .int .i64 0]) (by simp [results, Try.results13, go_sem, layV]) rfl ⟨by rw [hV.out, hE1.out], (by repeat (first | with_reducible exact Below.refl _ _ | with_reducible refine Below.later ?_ _ | with_reducible refine Below.box ?_ _ | with_reducible refine Below.drew ?_ | with_reducible refine Below.put ?_ (by dsimp only; omega) _))⟩
    · have hE1 : Kept (newE p b 1 q true = 7) := ⟨by rw [hE.out, if_pos (by omega)]⟩
      have hV : Kept (newV p pub vs b 1 q m true = lay0) := ⟨by rw [newV, hE1.out, if_neg (by decide)]⟩
      have c2' : (r2 != 0) = true := by simp [c2]
      clear hE hN
      subst c1
      refine ⟨?_⟩
      go_wp2
      exact bodyPost_ret (v := .tuple #[lay0, .int .i64 7]) (by simp [results, Try.results13, go_sem, lay0]) rfl ⟨by rw [hV.out, hE1.out], (by repeat (first | with_reducible exact Below.refl _ _ | with_reducible refine Below.later ?_ _ | with_reducible refine Below.box ?_ _ | with_reducible refine Below.drew ?_ | with_reducible refine Below.put ?_ (by dsimp only; omega) _))⟩
  · have hE1 : Kept (newE p b 1 q true = 7) := ⟨by rw [hE.out, if_pos (by omega)]⟩
    have hV : Kept (newV p pub vs b 1 q m true = lay0) := ⟨by rw [newV, hE1.out, if_neg (by decide)]⟩
    have c1' : (r1 != 0) = true := by simp [c1]
    clear hE hN
    refine ⟨?_⟩
    go_wp2
    exact bodyPost_ret (v := .tuple #[lay0, .int .i64 7]) (by simp [results, Try.results13, go_sem, lay0]) rfl ⟨by rw [hV.out, hE1.out], (by repeat (first | with_reducible exact Below.refl _ _ | with_reducible refine Below.later ?_ _ | with_reducible refine Below.box ?_ _ | with_reducible refine Below.drew ?_ | with_reducible refine Below.put ?_ (by dsimp only; omega) _))⟩
end Go.Proofs.Ytpkjlnelkacbgaa
