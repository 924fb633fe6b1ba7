/- The layout's New, of both. -/
import Derived.Test.YtpkjlnelkacbgaaHTabT
import Derived.Test.YtpkjlnelkacbgaaHTabU
namespace Go.Proofs.Ytpkjlnelkacbgaa
open Go.RowKit Go.Sort

def lay0 : Value := .agg #[.int .u64 0, .int .i64 0, .int .i64 0, .int .i64 0, .int .i64 0, .int .i64 0, .int .i64 0, .int .i64 0, .int .i64 0, .int .i64 0, .int .i64 0]
def layV (p b q n s r : Int) : Value := .agg #[.int .u64 p, .int .i64 b, .int .i64 q, .int .i64 (b + q), .int .i64 n, .int .i64 s, .int .i64 r, .int .i64 ((s + b - 1) / b), .int .i64 ((r + b - 1) / b), .int .i64 ((r + b - 1) / b), .int .i64 ((r + b - 1) / b)]
def newN (b bl q : Int) : Int := fits (2 * (b + q)) * bl
def newE (p b bl q : Int) (ok : Bool) : Int := if ok = false then 1 else if (p - 1) % b ≠ 0 ∨ (p - 1) % newN b bl q ≠ 0 ∨ p - 1 ≤ newN b bl q then 7 else if 1024 < newN b bl q then 3 else 0
def newV (p pub vs b bl q m : Int) (ok : Bool) : Value := if newE p b bl q ok = 0 then layV p b q (newN b bl q) (vs - 1 - pub) m else lay0

theorem fitF_le : ∀ (f : Nat) (n m : Int), 1 ≤ n → 1 ≤ fitF f n m ∧ fitF f n m ≤ n * 2 ^ f
  | 0, n, m, h => by simp [fitF]; omega
  | f + 1, n, m, h => by
    unfold fitF
    have := fitF_le f (2 * n) m (by omega)
    have e : n * 2 ^ (f + 1) = 2 * n * 2 ^ f := by rw [Int.pow_succ]; rw [Int.mul_comm 2 n, Int.mul_assoc, Int.mul_comm 2]
    split
    · rw [e]; exact this
    · have hp : (1 : Int) ≤ 2 ^ (f + 1) := Int.le_of_lt_add_one (by have := Int.pow_pos (n := 2) (m := f + 1) (by omega); omega)
      refine ⟨h, ?_⟩
      calc n = n * 1 := by omega
        _ ≤ n * 2 ^ (f + 1) := Int.mul_le_mul_of_nonneg_left hp (by omega)
theorem fits_le (m : Int) : 1 ≤ fits m ∧ fits m ≤ 2048 := fitF_le 11 1 m (by omega)

set_option maxHeartbeats 4000000 in
theorem lnew_c (p pub vs b bl q : Int) (u : Option Addr) (c : Nat) (rs : List Rw) (w : World) (h1 : Rws w u rs) :
    Calls Try.prog 12 #[.agg #[.int .u64 p, .int .i64 pub, .int .i64 vs, .slice u rs.length c], .agg #[.int .i64 b, .int .i64 bl, .int .i64 q]] w
      (Gives (.tuple #[newV p pub vs b bl q rs.length (tabB p pub vs rs && okX b bl q), .int .i64 (newE p b bl q (tabB p pub vs rs && okX b bl q))]) w) := by
  obtain ⟨m, hm⟩ : ∃ m, rs.length = m := ⟨_, rfl⟩
  have cv : Kept (∀ w', Below w.heap.size w w' → Calls Try.prog 30 #[.agg #[.int .u64 p, .int .i64 pub, .int .i64 vs, .slice u m c]] w' (Gives (.bool (tabB p pub vs rs)) w')) := ⟨fun w' hw' => by
    have := tvalid_c p pub vs u c rs w' (h1.below (Nat.le_refl _) hw'); rw [hm] at this; exact this⟩
  have cx : Kept (∀ w', Calls Try.prog 31 #[.agg #[.int .i64 b, .int .i64 bl, .int .i64 q]] w' (Gives (.bool (okX b bl q)) w')) := ⟨fun w' => validParams_c b bl q w'⟩
  rw [hm]
  cases hT : tabB p pub vs rs
  · have hE : newE p b bl q (false && okX b bl q) = 1 := by simp [newE]
    rw [newV, hE, if_neg (by decide)]
    rw [hT] at cv
    clear hT hE hm h1
    go_enter Try.func12, Try.ntmps12
    go_wp2_with (first | (go_at_call 30; (first | with_reducible refine use1 (cv.out _ ((by repeat (first | exact Below.refl _ _ | refine Below.later ?_ _ | refine Below.box ?_ _ | refine Below.drew ?_ | refine Below.put ?_ (by dsimp only; omega) _)))) ?_ | with_reducible refine use (cv.out _ ((by repeat (first | exact Below.refl _ _ | refine Below.later ?_ _ | refine Below.box ?_ _ | refine Below.drew ?_ | refine Below.put ?_ (by dsimp only; omega) _)))) ?_); intro pw))
    exact bodyPost_ret (v := .tuple #[lay0, .int .i64 1]) (by simp [results, Try.results12, go_sem, lay0]) rfl ⟨by first | rfl | rw [hV.out, hE1.out], (by repeat (first | with_reducible exact Below.refl _ _ | with_reducible refine Below.later ?_ _ | with_reducible refine Below.box ?_ _ | with_reducible refine Below.drew ?_ | with_reducible refine Below.put ?_ (by dsimp only; omega) _))⟩
  rw [hT] at cv
  rw [Bool.true_and]
  cases hX : okX b bl q
  · have hE : newE p b bl q false = 1 := by simp [newE]
    rw [newV, hE, if_neg (by decide)]
    rw [hX] at cx
    clear hT hE hm h1 hX
    go_enter Try.func12, Try.ntmps12
    go_wp2_with (first | (go_at_call 30; (first | with_reducible refine use1 (cv.out _ ((by repeat (first | exact Below.refl _ _ | refine Below.later ?_ _ | refine Below.box ?_ _ | refine Below.drew ?_ | refine Below.put ?_ (by dsimp only; omega) _)))) ?_ | with_reducible refine use (cv.out _ ((by repeat (first | exact Below.refl _ _ | refine Below.later ?_ _ | refine Below.box ?_ _ | refine Below.drew ?_ | refine Below.put ?_ (by dsimp only; omega) _)))) ?_); intro pw) | (go_at_call 31; (first | with_reducible refine use1 (cx.out _) ?_ | with_reducible refine use (cx.out _) ?_); intro pw))
    exact bodyPost_ret (v := .tuple #[lay0, .int .i64 1]) (by simp [results, Try.results12, go_sem, lay0]) rfl ⟨by first | rfl | rw [hV.out, hE1.out], (by repeat (first | with_reducible exact Below.refl _ _ | with_reducible refine Below.later ?_ _ | with_reducible refine Below.box ?_ _ | with_reducible refine Below.drew ?_ | with_reducible refine Below.put ?_ (by dsimp only; omega) _))⟩
  rw [hX] at cx
  have hb1 : 2 ≤ b ∧ b ≤ 256 ∧ 1 ≤ q ∧ q ≤ 64 ∧ (bl = 1 ∨ bl = 2 ∨ bl = 4 ∨ bl = 8) := by
    simp only [okX, Bool.and_eq_true, Bool.or_eq_true, decide_eq_true_eq, beq_iff_eq] at hX
    omega
  have ht1 : 0 ≤ pub ∧ pub < vs ∧ vs ≤ 65536 ∧ m ≤ 16384 ∧ vld p = true := by
    simp only [tabB, szB, Bool.and_eq_true, decide_eq_true_eq, hm] at hT
    exact ⟨hT.1.1.1.1.2, hT.1.1.1.2, hT.1.1.2, hT.1.2, hT.1.1.1.1.1⟩
  have hp2 := vld_pos ht1.2.2.2.2
  clear hT hX hm h1
  obtain ⟨g1, g2, g3, g4, g5⟩ := hb1
  obtain ⟨t1, t2, t3, t4, _⟩ := ht1
  have hf := fits_le (2 * (b + q))
  obtain ⟨N0, hN0⟩ : ∃ N0, fits (2 * (b + q)) = N0 := ⟨_, rfl⟩
  have hN : Kept (newN b bl q = N0 * bl) := ⟨by rw [newN, hN0]⟩
  have hN0' : Kept (fits (2 * (b + q)) = N0) := ⟨hN0⟩
  rw [hN0] at hf
  clear hN0
  go_enter Try.func12, Try.ntmps12
  go_wp2_with (first | (go_at_call 30; (first | with_reducible refine use1 (cv.out _ ((by repeat (first | exact Below.refl _ _ | refine Below.later ?_ _ | refine Below.box ?_ _ | refine Below.drew ?_ | refine Below.put ?_ (by dsimp only; omega) _)))) ?_ | with_reducible refine use (cv.out _ ((by repeat (first | exact Below.refl _ _ | refine Below.later ?_ _ | refine Below.box ?_ _ | refine Below.drew ?_ | refine Below.put ?_ (by dsimp only; omega) _)))) ?_); intro pw) | (go_at_call 31; (first | with_reducible refine use1 (cx.out _) ?_ | with_reducible refine use (cx.out _) ?_); intro pw))
  go_loopw [38] (fun v wr => ∃ (f : Nat) (n : Int), Kept (intOf v ≤ n) ∧ wr = (after (((w.alloc (.cells #[.int .u64 p, .int .i64 pub, .int .i64 vs, .slice u m c] 25)).alloc (.cells #[.int .i64 b, .int .i64 bl, .int .i64 q] 27)).alloc (.cells #[.int .u64 0, .int .i64 0, .int .i64 0, .int .i64 0, .int .i64 0, .int .i64 0, .int .i64 0, .int .i64 0, .int .i64 0, .int .i64 0, .int .i64 0] 32)) pw).alloc (.cells #[.int .u64 p, .int .i64 b, .int .i64 q, .int .i64 (b + q), .int .i64 (n), .int .i64 (0), .int .i64 (0), .int .i64 (0), .int .i64 (0), .int .i64 (0), .int .i64 (0)] 32) ∧ 1 ≤ n ∧ n ≤ 2048 ∧ Kept (n * 2 ^ f = 2048) ∧ Kept (N0 = fitF f n (2 * (b + q))))
    (fun v _ => (8192 - intOf v).toNat)
  case atStart => exact ⟨11, 1, ⟨by decide⟩, rfl, by omega, by omega, ⟨by decide⟩, ⟨hN0'.out.symm⟩⟩
  case round =>
    obtain ⟨f, n, hvn, rfl, h1, h2, hff, hI⟩ := hrel
    by_cases h : n < 2 * (b + q)
    · obtain ⟨g, rfl⟩ : ∃ g, f = g + 1 := by
        cases f with
        | zero => have := hff.out; simp at this; omega
        | succ g => exact ⟨g, rfl⟩
      have hf2 : Kept ((2 * n) * 2 ^ g = 2048) := ⟨by rw [← hff.out, Int.pow_succ]; rw [Int.mul_comm 2 n, Int.mul_assoc, Int.mul_comm 2]⟩
      have hI2 : Kept (N0 = fitF g (2 * n) (2 * (b + q))) := ⟨by rw [hI.out, fitF, if_pos h]⟩
      clear hff hI
      go_wp2
      go_roundw
      case rel => exact ⟨g, 2 * n, ⟨by simp [intOf]; omega⟩, by rw [Int.mul_comm 2 n], by omega, by omega, hf2, hI2⟩
      case measure => have := hvn.out; show (8192 - n * 2).toNat < _; omega
    · have hI2 : N0 = n := by rw [hI.out, fitF_done h]
      subst hI2
      clear hff hI
      have hb0 : 1 ≤ N0 * bl ∧ N0 * bl ≤ 16384 := by rcases g5 with e | e | e | e <;> subst e <;> omega
      obtain ⟨NN, hNN⟩ : ∃ NN, N0 * bl = NN := ⟨_, rfl⟩
      rw [hNN] at hN hb0
      obtain ⟨r1, hr1⟩ : ∃ r, (p - 1) % b = r := ⟨_, rfl⟩
      obtain ⟨r2, hr2⟩ : ∃ r, (p - 1) % NN = r := ⟨_, rfl⟩
      have hr1t : (p - 1).tmod b = r1 := by rw [Int.tmod_eq_emod_of_nonneg (by omega)]; exact hr1
      have hr2t : (p - 1).tmod NN = r2 := by rw [Int.tmod_eq_emod_of_nonneg (by omega)]; exact hr2
      have hE : Kept (newE p b bl q true = if r1 ≠ 0 ∨ r2 ≠ 0 ∨ p - 1 ≤ NN then 7 else if 1024 < NN then 3 else 0) := ⟨by rw [newE, if_neg (by decide), hN.out, hr1, hr2]⟩
      have hb2 : ¬ NN = 0 := by omega
      have hb3 : (NN == 0) = false := by simp; omega
      clear g5 hN0'
      by_cases c1 : r1 = 0
      · by_cases c2 : r2 = 0
        · by_cases c3 : NN ≥ p - 1
          · have hE1 : Kept (newE p b bl q true = 7) := ⟨by rw [hE.out, if_pos (by omega)]⟩
            have hV : Kept (newV p pub vs b bl q m true = lay0) := ⟨by rw [newV, hE1.out, if_neg (by decide)]⟩
            clear hE hN
            subst c1 c2
            go_wp2
            exact bodyPost_ret (v := .tuple #[lay0, .int .i64 7]) (by simp [results, Try.results12, go_sem, lay0]) rfl ⟨by first | rfl | rw [hV.out, hE1.out], (by repeat (first | with_reducible exact Below.refl _ _ | with_reducible refine Below.later ?_ _ | with_reducible refine Below.box ?_ _ | with_reducible refine Below.drew ?_ | with_reducible refine Below.put ?_ (by dsimp only; omega) _))⟩
          · have c3' : decide (NN ≥ p - 1) = false := by simp; omega
            by_cases c4 : NN > 1024
            · have hE1 : Kept (newE p b bl q true = 3) := ⟨by rw [hE.out, if_neg (by omega), if_pos (by omega)]⟩
              have hV : Kept (newV p pub vs b bl q m true = lay0) := ⟨by rw [newV, hE1.out, if_neg (by decide)]⟩
              clear hE hN
              subst c1 c2
              go_wp2
              exact bodyPost_ret (v := .tuple #[lay0, .int .i64 3]) (by simp [results, Try.results12, go_sem, lay0]) rfl ⟨by first | rfl | rw [hV.out, hE1.out], (by repeat (first | with_reducible exact Below.refl _ _ | with_reducible refine Below.later ?_ _ | with_reducible refine Below.box ?_ _ | with_reducible refine Below.drew ?_ | with_reducible refine Below.put ?_ (by dsimp only; omega) _))⟩
            · have hE1 : Kept (newE p b bl q true = 0) := ⟨by rw [hE.out, if_neg (by omega), if_neg (by omega)]⟩
              have hV : Kept (newV p pub vs b bl q m true = layV p b q NN (vs - 1 - pub) m) := ⟨by rw [newV, hE1.out, if_pos rfl, hN.out]⟩
              clear hE hN
              subst c1 c2
              have cp : Kept (∀ n w', 0 ≤ n → n ≤ 1000000 → Calls Try.prog 32 #[.int .i64 n, .int .i64 b] w' (fun e w'' => e = .returned (.int .i64 ((n + b - 1) / b)) ∧ w' = w'')) := ⟨fun n w' h1 h2 => parts_c n b w' h1 h2 (by omega) (by omega)⟩
              go_wp2_with (first | (go_at_call 32; with_reducible refine use0 (cp.out _ _ (by omega) (by omega)) ?_))
              go_loopw [8] (fun v wr => ∃ (i a1 a2 a3 : Int), v = .int .i64 i ∧ wr = (after (((w.alloc (.cells #[.int .u64 p, .int .i64 pub, .int .i64 vs, .slice u m c] 25)).alloc (.cells #[.int .i64 b, .int .i64 bl, .int .i64 q] 27)).alloc (.cells #[.int .u64 0, .int .i64 0, .int .i64 0, .int .i64 0, .int .i64 0, .int .i64 0, .int .i64 0, .int .i64 0, .int .i64 0, .int .i64 0, .int .i64 0] 32)) pw).alloc (.cells #[.int .u64 p, .int .i64 b, .int .i64 q, .int .i64 (b + q), .int .i64 NN, .int .i64 (vs - 1 - pub), .int .i64 m, .int .i64 ((vs - 1 - pub + b - 1) / b), .int .i64 a1, .int .i64 a2, .int .i64 a3] 32) ∧ ((i = 1 ∧ a1 = 0 ∧ a2 = 0 ∧ a3 = 0) ∨ (i = 2 ∧ a1 = (m + b - 1) / b ∧ a2 = 0 ∧ a3 = 0) ∨ (i = 3 ∧ a1 = (m + b - 1) / b ∧ a2 = (m + b - 1) / b ∧ a3 = 0) ∨ (i = 4 ∧ a1 = (m + b - 1) / b ∧ a2 = (m + b - 1) / b ∧ a3 = (m + b - 1) / b))) (fun v _ => (8 - intOf v).toNat)
              case atStart => exact ⟨1, 0, 0, 0, rfl, rfl, .inl ⟨rfl, rfl, rfl, rfl⟩⟩
              case round =>
                obtain ⟨i, a1, a2, a3, rfl, rfl, ha⟩ := hrel
                rcases ha with ⟨rfl, rfl, rfl, rfl⟩ | ⟨rfl, rfl, rfl, rfl⟩ | ⟨rfl, rfl, rfl, rfl⟩ | ⟨rfl, rfl, rfl, rfl⟩
                · go_wp2_with (first | (go_at_call 32; with_reducible refine use0 (cp.out _ _ (by omega) (by omega)) ?_))
                  go_roundw
                  case rel => exact ⟨2, (m + b - 1) / b, 0, 0, rfl, rfl, .inr (.inl ⟨rfl, rfl, rfl, rfl⟩)⟩
                  case measure => simp [intOf]
                · go_wp2_with (first | (go_at_call 32; with_reducible refine use0 (cp.out _ _ (by omega) (by omega)) ?_))
                  go_roundw
                  case rel => exact ⟨3, (m + b - 1) / b, (m + b - 1) / b, 0, rfl, rfl, .inr (.inr (.inl ⟨rfl, rfl, rfl, rfl⟩))⟩
                  case measure => simp [intOf]
                · go_wp2_with (first | (go_at_call 32; with_reducible refine use0 (cp.out _ _ (by omega) (by omega)) ?_))
                  go_roundw
                  case rel => exact ⟨4, (m + b - 1) / b, (m + b - 1) / b, (m + b - 1) / b, rfl, rfl, .inr (.inr (.inr ⟨rfl, rfl, rfl, rfl⟩))⟩
                  case measure => simp [intOf]
                · go_wp2
                  exact bodyPost_ret (v := .tuple #[layV p b q NN (vs - 1 - pub) m, .int .i64 0]) (by simp [results, Try.results12, go_sem, layV]) rfl ⟨by first | rfl | rw [hV.out, hE1.out], (by repeat (first | with_reducible exact Below.refl _ _ | with_reducible refine Below.later ?_ _ | with_reducible refine Below.box ?_ _ | with_reducible refine Below.drew ?_ | with_reducible refine Below.put ?_ (by dsimp only; omega) _))⟩
        · have hE1 : Kept (newE p b bl q true = 7) := ⟨by rw [hE.out, if_pos (by omega)]⟩
          have hV : Kept (newV p pub vs b bl q m true = lay0) := ⟨by rw [newV, hE1.out, if_neg (by decide)]⟩
          have c2' : (r2 != 0) = true := by simp [c2]
          clear hE hN
          subst c1
          go_wp2
          exact bodyPost_ret (v := .tuple #[lay0, .int .i64 7]) (by simp [results, Try.results12, go_sem, lay0]) rfl ⟨by first | rfl | rw [hV.out, hE1.out], (by repeat (first | with_reducible exact Below.refl _ _ | with_reducible refine Below.later ?_ _ | with_reducible refine Below.box ?_ _ | with_reducible refine Below.drew ?_ | with_reducible refine Below.put ?_ (by dsimp only; omega) _))⟩
      · have hE1 : Kept (newE p b bl q true = 7) := ⟨by rw [hE.out, if_pos (by omega)]⟩
        have hV : Kept (newV p pub vs b bl q m true = lay0) := ⟨by rw [newV, hE1.out, if_neg (by decide)]⟩
        have c1' : (r1 != 0) = true := by simp [c1]
        clear hE hN
        go_wp2
        exact bodyPost_ret (v := .tuple #[lay0, .int .i64 7]) (by simp [results, Try.results12, go_sem, lay0]) rfl ⟨by first | rfl | rw [hV.out, hE1.out], (by repeat (first | with_reducible exact Below.refl _ _ | with_reducible refine Below.later ?_ _ | with_reducible refine Below.box ?_ _ | with_reducible refine Below.drew ?_ | with_reducible refine Below.put ?_ (by dsimp only; omega) _))⟩
end Go.Proofs.Ytpkjlnelkacbgaa
