/- moidoreref05.Same; linear.Rank; a matrix of the call's own as rows to be read. -/
import Derived.Test.YtjnlnbkdnjainaaHLinD
namespace Go.Proofs.Ytjnlnbkdnjainaa
open Go.RowKit Go.Sort

set_option maxRecDepth 100000
set_option maxHeartbeats 4000000 in
/-- Rows of the same lengths compared. -/
theorem same05_eq (u1 u2 : Option Addr) (c1 c2 : Nat) (xs ys : List (List Int)) (w : World) (h1 : Mt w u1 xs) (h2 : Mt w u2 ys) (hlen : xs.length = ys.length) :
    Calls Try.prog 17 #[.slice u1 xs.length c1, .slice u2 ys.length c2] w (Gives (.bool (decide (xs = ys))) w) := by
  obtain ⟨n, hn⟩ : ∃ n, xs.length = n := ⟨_, rfl⟩
  have hn2 : ys.length = n := by omega
  have hs := h1.small
  rw [hn] at hs
  have k1 := (⟨h1.get hn⟩ : Kept _)
  have k2 := (⟨h2.get hn2⟩ : Kept _)
  have e1 : Kept (xs.length = n ∧ ys.length = n) := ⟨hn, hn2⟩
  rw [hn, hn2]
  clear hlen h1 h2 hn hn2
  go_enter Try.func17, Try.ntmps17
  go_wp2
  go_loopw [5] (fun v wr => ∃ (k : Nat) (q : Regrown), v = .int .i64 (k : Int) ∧ wr = after w q ∧ k ≤ n ∧ Kept (xs.take k = ys.take k)) (fun v _ => (n : Int).toNat - (intOf v).toNat)
  case atStart => exact ⟨0, ⟨w.drawn, #[]⟩, rfl, (after_none w).symm, by omega, ⟨by simp⟩⟩
  case round =>
    obtain ⟨k, q, rfl, rfl, hk, hI⟩ := hrel
    by_cases h : k < n
    · obtain ⟨b1, o1, x, v1, d1, rfl, hx1, hb1, hc1, hL1⟩ := k1.out k h
      obtain ⟨b2, o2, y, v2, d2, rfl, hy1, hb2, hc2, hL2⟩ := k2.out k h
      have cs : Kept (∀ q, Calls Try.prog 28 #[.slice v1 x.length d1, .slice v2 y.length d2] (after w q) (Gives (.bool (decide (x = y))) (after w q))) := ⟨fun q => same_c v1 v2 d1 d2 x y (after w q) (hL1.later q) (hL2.later q)⟩
      by_cases hx : x = y
      · have hI2 : Kept (xs.take (k + 1) = ys.take (k + 1)) := ⟨by rw [List.take_add_one, List.take_add_one, hx1, hy1, hI.out, hx]⟩
        rw [decide_eq_true hx] at cs
        clear hI hx1 hy1 k1 k2 hL1 hL2 hx
        generalize x.length = nx at *
        generalize y.length = ny at *
        go_wp2
        first | refine region_quiet1 (by kernel_rfl) ?_ | refine region_quiet (by kernel_rfl) ?_
        repeat (go_big_quiet_step (first | (go_at_call 28; with_reducible exact quiet (cs.out _))))
        refine wpQuiet_nil ?_
        intro _
        go_wp2
        go_roundw
        case rel => exact ⟨k + 1, _, by go_num, rfl, by omega, hI2⟩
        case measure => first | (simp [intOf]; omega) | (simp [intOf]; done)
      · have hno : Kept (decide (xs = ys) = false) := ⟨by
          rw [decide_eq_false_iff_not]; intro e; rw [e] at hx1; rw [hx1] at hy1; injection hy1 with hy1; exact hx hy1⟩
        rw [decide_eq_false hx] at cs
        clear hI hx1 hy1 k1 k2 hL1 hL2 hx
        generalize x.length = nx at *
        generalize y.length = ny at *
        go_wp2
        first | refine region_quiet1 (by kernel_rfl) ?_ | refine region_quiet (by kernel_rfl) ?_
        repeat (go_big_quiet_step (first | (go_at_call 28; with_reducible exact quiet (cs.out _))))
        refine wpQuiet_nil ?_
        intro _
        go_wp2
        go_ret
        exact ⟨by rw [hno.out]; rfl, (by repeat (first | exact Below.refl _ _ | refine Below.later ?_ _ | refine Below.box ?_ _ | refine Below.drew ?_ | refine Below.put ?_ (by dsimp only; omega) _))⟩
    · have hI2 : Kept (decide (xs = ys) = true) := ⟨by
        have := hI.out
        rw [List.take_of_length_le (by have := e1.out.1; omega), List.take_of_length_le (by have := e1.out.2; omega)] at this
        simp [this]⟩
      clear hI k1 k2
      go_wp2
      go_ret
      exact ⟨by rw [hI2.out]; rfl, (by repeat (first | exact Below.refl _ _ | refine Below.later ?_ _ | refine Below.box ?_ _ | refine Below.drew ?_ | refine Below.put ?_ (by dsimp only; omega) _))⟩
theorem same05_c (u1 u2 : Option Addr) (c1 c2 : Nat) (xs ys : List (List Int)) (w : World) (h1 : Mt w u1 xs) (h2 : Mt w u2 ys) :
    Calls Try.prog 17 #[.slice u1 xs.length c1, .slice u2 ys.length c2] w (Gives (.bool (decide (xs = ys))) w) := by
  by_cases hlen : xs.length = ys.length
  · exact same05_eq u1 u2 c1 c2 xs ys w h1 h2 hlen
  · have hno : decide (xs = ys) = false := by rw [decide_eq_false_iff_not]; intro e; rw [e] at hlen; exact hlen rfl
    have s1 := h1.small
    have s2 := h2.small
    rw [hno]
    generalize xs.length = n1 at *
    generalize ys.length = n2 at *
    have hb : ((n1 : Int) != (n2 : Int)) = true := by simp; omega
    clear h1 h2 hno
    go_enter Try.func17, Try.ntmps17
    go_wp2
    go_ret
    exact ⟨rfl, (by repeat (first | exact Below.refl _ _ | refine Below.later ?_ _ | refine Below.box ?_ _ | refine Below.drew ?_ | refine Below.put ?_ (by dsimp only; omega) _))⟩
def matL (n m : Nat) (f : Nat → Nat → Int) : List (List Int) := (List.range n).map fun i => (List.range m).map fun j => f i j
theorem matL_len (n m : Nat) (f : Nat → Nat → Int) : (matL n m f).length = n := by simp [matL]
theorem Mx.mt {W w : World} {B n m : Nat} {bf cf : Nat → Nat} {f : Nat → Nat → Int} (h : Mx W w B n m bf cf f) (hn : n ≤ 1000000) (hm : m ≤ 1000000) (hU : ∀ i j, i < n → j < m → U (f i j)) : Mt w (some ⟨B, 0, none⟩) (matL n m f) := by
  refine ⟨by rw [matL_len]; omega, fun _ => ⟨B, 0, rfl, h.arr.lt, fun i l hl => ?_⟩⟩
  have hi : i < n := by have := (List.getElem?_eq_some_iff.1 hl).1; rw [matL_len] at this; exact this
  rw [matL, List.getElem?_map, List.getElem?_range hi] at hl
  injection hl with hl
  have hll : l.length = m := by rw [← hl]; simp
  refine ⟨some ⟨bf i, 0, none⟩, cf i, by rw [Nat.zero_add, (h.cells hi).1, hll], by omega, fun x hx => ?_, fun _ => ⟨bf i, 0, rfl, (h.row i hi).lt, fun j x hx => ?_⟩⟩
  · rw [← hl, List.mem_map] at hx
    obtain ⟨j, hj, rfl⟩ := hx
    exact hU i j hi (List.mem_range.1 hj)
  · have hj : j < m := by have := (List.getElem?_eq_some_iff.1 hx).1; omega
    rw [← hl, List.getElem?_map, List.getElem?_range hj] at hx
    injection hx with hx
    rw [Nat.zero_add, (h.elem hi hj).1]; exact congrArg (fun z => some (Value.int .u64 z)) hx
theorem rank_no (p : Int) (u : Option Addr) (c : Nat) (ls : List (List Int)) (w : World) (h1 : Mt w u ls) (hv : (vld p && vldM ls) = false) : Calls Try.prog 45 #[.agg #[.int .u64 p], .slice u ls.length c] w (Gives (.int .i64 0) w) := by
  have hs := h1.small
  have cf : Kept (∀ w', Below w.heap.size w w' → Calls Try.prog 44 #[.agg #[.int .u64 p], .slice u ls.length c] w' (Gives (.tuple #[.slice none 0 0, .slice none 0 0]) w')) := ⟨fun w' hw => reduce_no p u c ls w' (h1.below (Nat.le_refl _) hw) hv⟩
  generalize ls.length = n at *
  clear h1 hv
  go_enter Try.func45, Try.ntmps45
  go_wp2_with (first | (go_at_call 44; (first | with_reducible refine use1 (cf.out _ (by repeat (first | exact Below.refl _ _ | refine Below.later ?_ _ | refine Below.box ?_ _ | refine Below.drew ?_ | refine Below.put ?_ (by dsimp only; omega) _))) ?_ | with_reducible refine use (cf.out _ (by repeat (first | exact Below.refl _ _ | refine Below.later ?_ _ | refine Below.box ?_ _ | refine Below.drew ?_ | refine Below.put ?_ (by dsimp only; omega) _))) ?_); intro pw))
  go_ret
  exact ⟨rfl, (by repeat (first | exact Below.refl _ _ | refine Below.later ?_ _ | refine Below.box ?_ _ | refine Below.drew ?_ | refine Below.put ?_ (by dsimp only; omega) _))⟩
theorem rank_c (p : Int) (n m : Nat) (u : Option Addr) (c : Nat) (ls : List (List Int)) (w : World) (h1 : Mt w u ls) (hv : vld p = true) (hM : vldM ls = true) (hn : ls.length = n) (hm : colsN ls = m) : Calls Try.prog 45 #[.agg #[.int .u64 p], .slice u n c] w (fun e w' => e = .returned (.int .i64 ((elR p n m (elF p ls)).piv.length : Int)) ∧ Below w.heap.size w w') := by
  have hs := h1.small
  have cr : Kept (∀ w', Below w.heap.size w w' → Calls Try.prog 44 #[.agg #[.int .u64 p], .slice u n c] w' (GivesRd n m (elR p n m (elF p ls)) w')) := ⟨fun w' hw => reduce_lc p n m u c ls w' (h1.below (Nat.le_refl _) hw) hv hM hn hm⟩
  rw [hn] at hs
  generalize elR p n m (elF p ls) = es at *
  clear h1 hM hn hm
  go_enter Try.func45, Try.ntmps45
  go_wp2_with (first | (go_at_call 44; refine (cr.out _ (by repeat (first | exact Below.refl _ _ | refine Below.later ?_ _ | refine Below.box ?_ _ | refine Below.drew ?_ | refine Below.put ?_ (by dsimp only; omega) _))).mono ?_; rintro e w2 ⟨B, bf, cf', u2, c2, rfl, hMx, hO⟩; refine Stop.out ?_))
  refine ⟨?_⟩
  have kb := (⟨hMx.below⟩ : Kept _)
  clear hMx hO
  obtain ⟨k, hk⟩ : ∃ k, es.piv.length = k := ⟨_, rfl⟩
  rw [hk]
  have kk := (⟨hk⟩ : Kept _)
  clear hk
  go_wp2
  go_ret
  exact ⟨by rw [kk.out]; rfl, Below.next (by repeat (first | exact Below.refl _ _ | refine Below.later ?_ _ | refine Below.box ?_ _ | refine Below.drew ?_ | refine Below.put ?_ (by dsimp only; omega) _)) kb.out⟩
end Go.Proofs.Ytjnlnbkdnjainaa
