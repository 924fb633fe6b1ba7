/- The reference's New. -/
import Derived.Test.YtpkjlnelkacbgaaHTabM1
import Derived.Test.YtpkjlnelkacbgaaHTabM2
import Derived.Test.YtpkjlnelkacbgaaHTabM4
import Derived.Test.YtpkjlnelkacbgaaHTabM8
namespace Go.Proofs.Ytpkjlnelkacbgaa
open Go.RowKit Go.Sort

set_option maxHeartbeats 8000000 in
theorem rnew_c (p pub vs b bl q : Int) (u : Option Addr) (c : Nat) (rs : List Rw) (w : World) (h1 : Rws w u rs) :
    Calls Try.prog 13 #[.agg #[.int .u64 p, .int .i64 pub, .int .i64 vs, .slice u rs.length c], .agg #[.int .i64 b, .int .i64 bl, .int .i64 q]] w
      (Gives (.tuple #[newV p pub vs b bl q rs.length (tabB p pub vs rs && okX b bl q), .int .i64 (newE p b bl q (tabB p pub vs rs && okX b bl q))]) w) := by
  obtain ⟨m, hm⟩ : ∃ m, rs.length = m := ⟨_, rfl⟩
  have cv : Kept (∀ w', Below w.heap.size w w' → Calls Try.prog 33 #[.agg #[.int .u64 p, .int .i64 pub, .int .i64 vs, .slice u m c]] w' (Gives (.bool (tabB p pub vs rs)) w')) := ⟨fun w' hw' => by
    have := rtvalid_c p pub vs u c rs w' (h1.below (Nat.le_refl _) hw'); rw [hm] at this; exact this⟩
  rw [hm]
  cases hT : tabB p pub vs rs
  · have hE1 : Kept (newE p b bl q (false && okX b bl q) = 1) := ⟨by simp [newE]⟩
    have hV : Kept (newV p pub vs b bl q m (false && okX b bl q) = lay0) := ⟨by rw [newV, hE1.out, if_neg (by decide)]⟩
    rw [hV.out, hE1.out]
    rw [hT] at cv
    clear hT hE1 hV hm h1
    go_enter Try.func13, Try.ntmps13
    go_wp2_with (first | (go_at_call 33; (first | with_reducible refine use1 (cv.out _ ((by repeat (first | exact Below.refl _ _ | refine Below.later ?_ _ | refine Below.box ?_ _ | refine Below.drew ?_ | refine Below.put ?_ (by dsimp only; omega) _)))) ?_ | with_reducible refine use (cv.out _ ((by repeat (first | exact Below.refl _ _ | refine Below.later ?_ _ | refine Below.box ?_ _ | refine Below.drew ?_ | refine Below.put ?_ (by dsimp only; omega) _)))) ?_); intro pw))
    exact bodyPost_ret (v := .tuple #[lay0, .int .i64 1]) (by simp [results, Try.results13, go_sem, lay0]) rfl ⟨rfl, (by repeat (first | with_reducible exact Below.refl _ _ | with_reducible refine Below.later ?_ _ | with_reducible refine Below.box ?_ _ | with_reducible refine Below.drew ?_ | with_reducible refine Below.put ?_ (by dsimp only; omega) _))⟩
  rw [hT] at cv
  rw [Bool.true_and]
  by_cases g1 : b < 2
  · have hX : okX b bl q = false := by rw [okX, show decide (2 ≤ b) = false from by simp; omega]; simp
    have hE1 : newE p b bl q (okX b bl q) = 1 := by simp [newE, hX]
    rw [newV, hE1, if_neg (by decide)]
    clear hT hE1 hm h1 hX
    skip
    go_enter Try.func13, Try.ntmps13
    go_wp2_with (first | (go_at_call 33; (first | with_reducible refine use1 (cv.out _ ((by repeat (first | exact Below.refl _ _ | refine Below.later ?_ _ | refine Below.box ?_ _ | refine Below.drew ?_ | refine Below.put ?_ (by dsimp only; omega) _)))) ?_ | with_reducible refine use (cv.out _ ((by repeat (first | exact Below.refl _ _ | refine Below.later ?_ _ | refine Below.box ?_ _ | refine Below.drew ?_ | refine Below.put ?_ (by dsimp only; omega) _)))) ?_); intro pw))
    exact bodyPost_ret (v := .tuple #[lay0, .int .i64 1]) (by simp [results, Try.results13, go_sem, lay0]) rfl ⟨rfl, (by repeat (first | with_reducible exact Below.refl _ _ | with_reducible refine Below.later ?_ _ | with_reducible refine Below.box ?_ _ | with_reducible refine Below.drew ?_ | with_reducible refine Below.put ?_ (by dsimp only; omega) _))⟩
  by_cases g2 : b > 256
  · have hX : okX b bl q = false := by rw [okX, show decide (b ≤ 256) = false from by simp; omega]; simp
    have hE1 : newE p b bl q (okX b bl q) = 1 := by simp [newE, hX]
    rw [newV, hE1, if_neg (by decide)]
    clear hT hE1 hm h1 hX
    skip
    go_enter Try.func13, Try.ntmps13
    go_wp2_with (first | (go_at_call 33; (first | with_reducible refine use1 (cv.out _ ((by repeat (first | exact Below.refl _ _ | refine Below.later ?_ _ | refine Below.box ?_ _ | refine Below.drew ?_ | refine Below.put ?_ (by dsimp only; omega) _)))) ?_ | with_reducible refine use (cv.out _ ((by repeat (first | exact Below.refl _ _ | refine Below.later ?_ _ | refine Below.box ?_ _ | refine Below.drew ?_ | refine Below.put ?_ (by dsimp only; omega) _)))) ?_); intro pw))
    exact bodyPost_ret (v := .tuple #[lay0, .int .i64 1]) (by simp [results, Try.results13, go_sem, lay0]) rfl ⟨rfl, (by repeat (first | with_reducible exact Below.refl _ _ | with_reducible refine Below.later ?_ _ | with_reducible refine Below.box ?_ _ | with_reducible refine Below.drew ?_ | with_reducible refine Below.put ?_ (by dsimp only; omega) _))⟩
  by_cases g3 : ¬ bits .and .i64 b (b - 1) = 0
  · have hX : okX b bl q = false := by rw [okX, show (bits .and .i64 b (b - 1) == 0) = false from by simp [g3]]; simp
    have hE1 : newE p b bl q (okX b bl q) = 1 := by simp [newE, hX]
    rw [newV, hE1, if_neg (by decide)]
    clear hT hE1 hm h1 hX
    have g3' : (bits .and .i64 b (b - 1) != 0) = true := by simp [g3]
    go_enter Try.func13, Try.ntmps13
    go_wp2_with (first | (go_at_call 33; (first | with_reducible refine use1 (cv.out _ ((by repeat (first | exact Below.refl _ _ | refine Below.later ?_ _ | refine Below.box ?_ _ | refine Below.drew ?_ | refine Below.put ?_ (by dsimp only; omega) _)))) ?_ | with_reducible refine use (cv.out _ ((by repeat (first | exact Below.refl _ _ | refine Below.later ?_ _ | refine Below.box ?_ _ | refine Below.drew ?_ | refine Below.put ?_ (by dsimp only; omega) _)))) ?_); intro pw))
    exact bodyPost_ret (v := .tuple #[lay0, .int .i64 1]) (by simp [results, Try.results13, go_sem, lay0]) rfl ⟨rfl, (by repeat (first | with_reducible exact Below.refl _ _ | with_reducible refine Below.later ?_ _ | with_reducible refine Below.box ?_ _ | with_reducible refine Below.drew ?_ | with_reducible refine Below.put ?_ (by dsimp only; omega) _))⟩
  by_cases g4 : q < 1
  · have hX : okX b bl q = false := by rw [okX, show decide (1 ≤ q) = false from by simp; omega]; simp
    have hE1 : newE p b bl q (okX b bl q) = 1 := by simp [newE, hX]
    rw [newV, hE1, if_neg (by decide)]
    clear hT hE1 hm h1 hX
    skip
    go_enter Try.func13, Try.ntmps13
    go_wp2_with (first | (go_at_call 33; (first | with_reducible refine use1 (cv.out _ ((by repeat (first | exact Below.refl _ _ | refine Below.later ?_ _ | refine Below.box ?_ _ | refine Below.drew ?_ | refine Below.put ?_ (by dsimp only; omega) _)))) ?_ | with_reducible refine use (cv.out _ ((by repeat (first | exact Below.refl _ _ | refine Below.later ?_ _ | refine Below.box ?_ _ | refine Below.drew ?_ | refine Below.put ?_ (by dsimp only; omega) _)))) ?_); intro pw))
    exact bodyPost_ret (v := .tuple #[lay0, .int .i64 1]) (by simp [results, Try.results13, go_sem, lay0]) rfl ⟨rfl, (by repeat (first | with_reducible exact Below.refl _ _ | with_reducible refine Below.later ?_ _ | with_reducible refine Below.box ?_ _ | with_reducible refine Below.drew ?_ | with_reducible refine Below.put ?_ (by dsimp only; omega) _))⟩
  by_cases g5 : q > 64
  · have hX : okX b bl q = false := by rw [okX, show decide (q ≤ 64) = false from by simp; omega]; simp
    have hE1 : newE p b bl q (okX b bl q) = 1 := by simp [newE, hX]
    rw [newV, hE1, if_neg (by decide)]
    clear hT hE1 hm h1 hX
    skip
    go_enter Try.func13, Try.ntmps13
    go_wp2_with (first | (go_at_call 33; (first | with_reducible refine use1 (cv.out _ ((by repeat (first | exact Below.refl _ _ | refine Below.later ?_ _ | refine Below.box ?_ _ | refine Below.drew ?_ | refine Below.put ?_ (by dsimp only; omega) _)))) ?_ | with_reducible refine use (cv.out _ ((by repeat (first | exact Below.refl _ _ | refine Below.later ?_ _ | refine Below.box ?_ _ | refine Below.drew ?_ | refine Below.put ?_ (by dsimp only; omega) _)))) ?_); intro pw))
    exact bodyPost_ret (v := .tuple #[lay0, .int .i64 1]) (by simp [results, Try.results13, go_sem, lay0]) rfl ⟨rfl, (by repeat (first | with_reducible exact Below.refl _ _ | with_reducible refine Below.later ?_ _ | with_reducible refine Below.box ?_ _ | with_reducible refine Below.drew ?_ | with_reducible refine Below.put ?_ (by dsimp only; omega) _))⟩
  by_cases g6 : ¬ (bl = 1 ∨ bl = 2 ∨ bl = 4 ∨ bl = 8)
  · have hX : okX b bl q = false := by rw [okX, show (bl == 1) = false from by simp; omega, show (bl == 2) = false from by simp; omega, show (bl == 4) = false from by simp; omega, show (bl == 8) = false from by simp; omega]; simp
    have hE1 : newE p b bl q (okX b bl q) = 1 := by simp [newE, hX]
    rw [newV, hE1, if_neg (by decide)]
    clear hT hE1 hm h1 hX
    have f1 : (bl != 1) = true := by simp; omega
    have f2 : (bl != 2) = true := by simp; omega
    have f3 : (bl != 4) = true := by simp; omega
    have f4 : (bl != 8) = true := by simp; omega
    have e1 : ¬ bl = 1 := by omega
    have e2 : ¬ bl = 2 := by omega
    have e3 : ¬ bl = 4 := by omega
    have e4 : ¬ bl = 8 := by omega
    clear g6
    go_enter Try.func13, Try.ntmps13
    go_wp2_with (first | (go_at_call 33; (first | with_reducible refine use1 (cv.out _ ((by repeat (first | exact Below.refl _ _ | refine Below.later ?_ _ | refine Below.box ?_ _ | refine Below.drew ?_ | refine Below.put ?_ (by dsimp only; omega) _)))) ?_ | with_reducible refine use (cv.out _ ((by repeat (first | exact Below.refl _ _ | refine Below.later ?_ _ | refine Below.box ?_ _ | refine Below.drew ?_ | refine Below.put ?_ (by dsimp only; omega) _)))) ?_); intro pw))
    exact bodyPost_ret (v := .tuple #[lay0, .int .i64 1]) (by simp [results, Try.results13, go_sem, lay0]) rfl ⟨rfl, (by repeat (first | with_reducible exact Below.refl _ _ | with_reducible refine Below.later ?_ _ | with_reducible refine Below.box ?_ _ | with_reducible refine Below.drew ?_ | with_reducible refine Below.put ?_ (by dsimp only; omega) _))⟩
  have g6' : bl = 1 ∨ bl = 2 ∨ bl = 4 ∨ bl = 8 := by omega
  have hX : okX b bl q = true := by
    rw [okX, show decide (2 ≤ b) = true from by simp; omega, show decide (b ≤ 256) = true from by simp; omega, show (bits .and .i64 b (b - 1) == 0) = true from by simp; omega, show decide (1 ≤ q) = true from by simp; omega, show decide (q ≤ 64) = true from by simp; omega]
    rcases g6' with e | e | e | e <;> subst e <;> rfl
  rw [hX]
  have g3' : bits .and .i64 b (b - 1) = 0 := by omega
  have ht1 : 0 ≤ pub ∧ pub < vs ∧ vs ≤ 65536 ∧ m ≤ 16384 ∧ vld p = true := by
    simp only [tabB, szB, Bool.and_eq_true, decide_eq_true_eq, hm] at hT
    exact ⟨hT.1.1.1.1.2, hT.1.1.1.2, hT.1.1.2, hT.1.2, hT.1.1.1.1.1⟩
  have hp2 := vld_pos ht1.2.2.2.2
  clear hT hX hm h1 g6 g3
  obtain ⟨t1, t2, t3, t4, _⟩ := ht1
  have hf := fits_le (2 * (b + q))
  obtain ⟨N0, hN0⟩ : ∃ N0, fits (2 * (b + q)) = N0 := ⟨_, rfl⟩
  have hN : Kept (newN b bl q = bl * N0) := ⟨by rw [newN, hN0, Int.mul_comm]⟩
  have cf : Kept (∀ w', Calls Try.prog 34 #[.int .i64 (2 * (b + q))] w' (Gives (.int .i64 N0) w')) := ⟨fun w' => by have := fits_c (2 * (b + q)) w' (by omega); rw [hN0] at this; exact this⟩
  rw [hN0] at hf
  clear hN0
  have hb0 : 1 ≤ bl * N0 ∧ bl * N0 ≤ 16384 := by rcases g6' with e | e | e | e <;> subst e <;> omega
  obtain ⟨NN, hNN⟩ : ∃ NN, bl * N0 = NN := ⟨_, rfl⟩
  rw [hNN] at hN hb0
  obtain ⟨r1, hr1⟩ : ∃ r, (p - 1) % b = r := ⟨_, rfl⟩
  obtain ⟨r2, hr2⟩ : ∃ r, (p - 1) % NN = r := ⟨_, rfl⟩
  have hr1t : (p - 1).tmod b = r1 := by rw [Int.tmod_eq_emod_of_nonneg (by omega)]; exact hr1
  have hr2t : (p - 1).tmod NN = r2 := by rw [Int.tmod_eq_emod_of_nonneg (by omega)]; exact hr2
  have hE : Kept (newE p b bl q true = if r1 ≠ 0 ∨ r2 ≠ 0 ∨ p - 1 ≤ NN then 7 else if 1024 < NN then 3 else 0) := ⟨by rw [newE, if_neg (by decide), hN.out, hr1, hr2]⟩
  have hb2 : ¬ NN = 0 := by omega
  have hb3 : (NN == 0) = false := by simp; omega
  rcases g6' with rfl | rfl | rfl | rfl
  · exact rnew_1 p pub vs b q N0 NN r1 r2 u c m w cv g1 g2 g3' g4 g5 t1 t2 t3 t4 hp2 hf hN cf hb0 (by omega) hr1 hr2 hr1t hr2t hE hb2 hb3
  · exact rnew_2 p pub vs b q N0 NN r1 r2 u c m w cv g1 g2 g3' g4 g5 t1 t2 t3 t4 hp2 hf hN cf hb0 hNN hr1 hr2 hr1t hr2t hE hb2 hb3
  · exact rnew_4 p pub vs b q N0 NN r1 r2 u c m w cv g1 g2 g3' g4 g5 t1 t2 t3 t4 hp2 hf hN cf hb0 hNN hr1 hr2 hr1t hr2t hE hb2 hb3
  · exact rnew_8 p pub vs b q N0 NN r1 r2 u c m w cv g1 g2 g3' g4 g5 t1 t2 t3 t4 hp2 hf hN cf hb0 hNN hr1 hr2 hr1t hr2t hE hb2 hb3
end Go.Proofs.Ytpkjlnelkacbgaa
