/- Small, Assignment; the layout's small functions. -/
import Derived.Test.YtpkjlnelkacbgaaQG
namespace Go.Proofs.Ytpkjlnelkacbgaa
open Go.RowKit Go.Sort

/-! ### parts -/
theorem parts_c (n b : Int) (w : World) (hn : 0 ≤ n) (hn2 : n ≤ 1000000) (hb : 1 ≤ b) (hb2 : b ≤ 1000000) : Calls Try.prog 32 #[.int .i64 n, .int .i64 b] w (fun e w' => e = .returned (.int .i64 ((n + b - 1) / b)) ∧ w = w') := by
  go_enter Try.func32, Try.ntmps32
  go_wp2
  go_ret
  exact ⟨rfl, rfl⟩
theorem up_c (n b : Int) (w : World) (hn : 0 ≤ n) (hn2 : n ≤ 1000000) (hb : 1 ≤ b) (hb2 : b ≤ 1000000) : Calls Try.prog 35 #[.int .i64 n, .int .i64 b] w (fun e w' => e = .returned (.int .i64 ((n + b - 1) / b)) ∧ w = w') := by
  go_enter Try.func35, Try.ntmps35
  go_wp2
  go_ret
  exact ⟨rfl, rfl⟩

/-! ### the least power of two -/
def fitF : Nat → Int → Int → Int
  | 0, n, _ => n
  | f + 1, n, m => if n < m then fitF f (2 * n) m else n
def fits (m : Int) : Int := fitF 11 1 m
theorem fitF_done {f : Nat} {n m : Int} (h : ¬ n < m) : fitF f n m = n := by
  cases f with
  | zero => rfl
  | succ f => simp [fitF, h]
theorem fits_c (m : Int) (w : World) (hm : m ≤ 1024) : Calls Try.prog 34 #[.int .i64 m] w (Gives (.int .i64 (fits m)) w) := by
  go_enter Try.func34, Try.ntmps34
  go_wp2
  go_loopw [3] (fun v wr => ∃ (f : Nat) (n : Int) (q : Regrown), v = .int .i64 n ∧ wr = after w q ∧ 1 ≤ n ∧ n ≤ 2048 ∧ Kept (n * 2 ^ f = 2048) ∧ Kept (fits m = fitF f n m)) (fun v _ => (4096 : Int).toNat - (intOf v).toNat)
  case atStart => exact ⟨11, 1, ⟨_, #[]⟩, rfl, by rw [after_none], by omega, by omega, ⟨by decide⟩, ⟨rfl⟩⟩
  case round =>
    obtain ⟨f, n, q, rfl, rfl, h1, h2, hf, hI⟩ := hrel
    by_cases h : n < m
    · obtain ⟨g, rfl⟩ : ∃ g, f = g + 1 := by
        cases f with
        | zero => have := hf.out; simp at this; omega
        | succ g => exact ⟨g, rfl⟩
      have hf2 : Kept ((2 * n) * 2 ^ g = 2048) := ⟨by rw [← hf.out, Int.pow_succ]; rw [Int.mul_comm 2 n, Int.mul_assoc, Int.mul_comm 2]⟩
      have hI2 : Kept (fits m = fitF g (2 * n) m) := ⟨by rw [hI.out, fitF, if_pos h]⟩
      clear hf hI
      go_wp2
      go_roundw
      case rel => exact ⟨g, 2 * n, q, rfl, rfl, by omega, by omega, hf2, hI2⟩
      case measure => first | (simp [intOf]; omega) | (simp [intOf]; done)
    · have hI2 : Kept (fits m = n) := ⟨by rw [hI.out, fitF_done h]⟩
      clear hf hI
      go_wp2
      go_ret
      exact ⟨by rw [hI2.out]; rfl, (by repeat (first | exact Below.refl _ _ | refine Below.later ?_ _ | refine Below.box ?_ _ | refine Below.drew ?_ | refine Below.put ?_ (by dsimp only; omega) _))⟩

/-! ### the parameters -/
def okX (b bl q : Int) : Bool := (bl == 1 || bl == 2 || bl == 4 || bl == 8) && decide (2 ≤ b) && decide (b ≤ 256) && (bits .and .i64 b (b - 1) == 0) && decide (1 ≤ q) && decide (q ≤ 64)
set_option maxHeartbeats 4000000 in
theorem validParams_c (b bl q : Int) (w : World) : Calls Try.prog 31 #[.agg #[.int .i64 b, .int .i64 bl, .int .i64 q]] w (Gives (.bool (okX b bl q)) w) := by
  by_cases h1 : bl = 1 ∨ bl = 2 ∨ bl = 4 ∨ bl = 8
  · have hk : Kept (okX b bl q = (decide (2 ≤ b) && decide (b ≤ 256) && (bits .and .i64 b (b - 1) == 0) && decide (1 ≤ q) && decide (q ≤ 64))) := ⟨by rcases h1 with h | h | h | h <;> subst h <;> simp [okX]⟩
    by_cases h2 : 2 ≤ b
    · by_cases h3 : b ≤ 256
      · have hk2 : Kept (okX b bl q = ((bits .and .i64 b (b - 1) == 0) && decide (1 ≤ q) && decide (q ≤ 64))) := ⟨by rw [hk.out]; simp [h2, h3]⟩
        clear hk
        generalize ht : bits .and .i64 b (b - 1) = t at *
        by_cases h4 : t = 0
        · have hk3 : Kept (okX b bl q = (decide (1 ≤ q) && decide (q ≤ 64))) := ⟨by rw [hk2.out]; simp [h4]⟩
          clear hk2
          subst h4
          by_cases h5 : 1 ≤ q
          · by_cases h6 : q ≤ 64
            · have hno : Kept (okX b bl q = true) := ⟨by rw [hk3.out]; simp [h5, h6]⟩
              clear hk3
              rcases h1 with h | h | h | h <;> subst h
              all_goals (
                go_enter Try.func31, Try.ntmps31
                go_wp2
                go_ret
                exact ⟨by rw [hno.out]; rfl, (by repeat (first | exact Below.refl _ _ | refine Below.later ?_ _ | refine Below.box ?_ _ | refine Below.drew ?_ | refine Below.put ?_ (by dsimp only; omega) _))⟩)
            · have hno : Kept (okX b bl q = false) := ⟨by rw [hk3.out]; simp [h6]⟩
              clear hk3
              rcases h1 with h | h | h | h <;> subst h
              all_goals (
                go_enter Try.func31, Try.ntmps31
                go_wp2
                go_ret
                exact ⟨by rw [hno.out]; rfl, (by repeat (first | exact Below.refl _ _ | refine Below.later ?_ _ | refine Below.box ?_ _ | refine Below.drew ?_ | refine Below.put ?_ (by dsimp only; omega) _))⟩)
          · have hno : Kept (okX b bl q = false) := ⟨by rw [hk3.out]; simp [h5]⟩
            clear hk3
            rcases h1 with h | h | h | h <;> subst h
            all_goals (
              go_enter Try.func31, Try.ntmps31
              go_wp2
              go_ret
              exact ⟨by rw [hno.out]; rfl, (by repeat (first | exact Below.refl _ _ | refine Below.later ?_ _ | refine Below.box ?_ _ | refine Below.drew ?_ | refine Below.put ?_ (by dsimp only; omega) _))⟩)
        · have hno : Kept (okX b bl q = false) := ⟨by rw [hk2.out]; simp [h4]⟩
          have hb : (t == 0) = false := by simp [h4]
          clear hk2
          rcases h1 with h | h | h | h <;> subst h
          all_goals (
            go_enter Try.func31, Try.ntmps31
            go_wp2
            go_ret
            exact ⟨by rw [hno.out]; rfl, (by repeat (first | exact Below.refl _ _ | refine Below.later ?_ _ | refine Below.box ?_ _ | refine Below.drew ?_ | refine Below.put ?_ (by dsimp only; omega) _))⟩)
      · have hno : Kept (okX b bl q = false) := ⟨by rw [hk.out]; simp [h3]⟩
        clear hk
        rcases h1 with h | h | h | h <;> subst h
        all_goals (
          go_enter Try.func31, Try.ntmps31
          go_wp2
          go_ret
          exact ⟨by rw [hno.out]; rfl, (by repeat (first | exact Below.refl _ _ | refine Below.later ?_ _ | refine Below.box ?_ _ | refine Below.drew ?_ | refine Below.put ?_ (by dsimp only; omega) _))⟩)
    · have hno : Kept (okX b bl q = false) := ⟨by rw [hk.out]; simp [h2]⟩
      clear hk
      rcases h1 with h | h | h | h <;> subst h
      all_goals (
        go_enter Try.func31, Try.ntmps31
        go_wp2
        go_ret
        exact ⟨by rw [hno.out]; rfl, (by repeat (first | exact Below.refl _ _ | refine Below.later ?_ _ | refine Below.box ?_ _ | refine Below.drew ?_ | refine Below.put ?_ (by dsimp only; omega) _))⟩)
  · have hno : Kept (okX b bl q = false) := ⟨by
      have e1 : (bl == 1) = false := by simp; omega
      have e2 : (bl == 2) = false := by simp; omega
      have e3 : (bl == 4) = false := by simp; omega
      have e4 : (bl == 8) = false := by simp; omega
      simp [okX, e1, e2, e3, e4]⟩
    have e1 : ¬ bl = 1 := by omega
    have e2 : ¬ bl = 2 := by omega
    have e3 : ¬ bl = 4 := by omega
    have e4 : ¬ bl = 8 := by omega
    have f1 : (bl != 1) = true := by simp; omega
    have f2 : (bl != 2) = true := by simp; omega
    have f3 : (bl != 4) = true := by simp; omega
    have f4 : (bl != 8) = true := by simp; omega
    clear h1
    go_enter Try.func31, Try.ntmps31
    go_wp2
    go_ret
    exact ⟨by rw [hno.out]; rfl, (by repeat (first | exact Below.refl _ _ | refine Below.later ?_ _ | refine Below.box ?_ _ | refine Below.drew ?_ | refine Below.put ?_ (by dsimp only; omega) _))⟩

end Go.Proofs.Ytpkjlnelkacbgaa
