/- Small, Assignment. -/
import Derived.Test.YtpkjlnelkacbgaaQG
namespace Go.Proofs.Ytpkjlnelkacbgaa
open Go.RowKit Go.Sort

/-! ### Small, Assignment -/
def GivesB (w : World) (e : Ending) (w' : World) : Prop := ∃ b, Gives (.bool b) w e w'
theorem small_c (p q n : Int) (u : Option Addr) (c : Nat) (rs : List Rw) (w : World) (h1 : Rws w u rs) :
    Calls Try.prog 11 #[.agg #[.int .u64 p, .int .i64 q, .int .i64 n, .slice u rs.length c]] w (GivesB w) := by
  obtain ⟨m, hm⟩ : ∃ m, rs.length = m := ⟨_, rfl⟩
  have hs1 := h1.small
  have k1 := (⟨h1.get hm⟩ : Kept _)
  rw [hm] at hs1 ⊢
  clear h1 hm
  go_enter Try.func11, Try.ntmps11
  go_wp2
  go_loopw [3, 4] (fun vs v wr => ∃ (z : Int) (k : Nat), vs = .int .i64 z ∧ v = .int .i64 (k : Int) ∧ Below (w.alloc (.cells #[.int .u64 p, .int .i64 q, .int .i64 n, .slice u m c] 25)).heap.size (w.alloc (.cells #[.int .u64 p, .int .i64 q, .int .i64 n, .slice u m c] 25)) wr ∧ k ≤ m) (fun _ v _ => (m : Int).toNat - (intOf v).toNat)
  case atStart => exact ⟨m, 0, rfl, rfl, (by repeat (first | exact Below.refl _ _ | refine Below.later ?_ _ | refine Below.box ?_ _ | refine Below.drew ?_ | refine Below.put ?_ (by dsimp only; omega) _)), by omega⟩
  case round =>
    obtain ⟨z, k, rfl, rfl, hBr, hk⟩ := hrel
    obtain ⟨q0, rfl⟩ := after_of hBr
    clear hBr
    by_cases h : k < m
    · by_cases hz : z ≤ 400
      · obtain ⟨b1, o1, x, rfl, hx1, hb1, hc1, hc2, hc3, ha, hb, hc⟩ := k1.out k h
        clear k1 ha hb hc hx1
        simp only [Lin.v] at *
        generalize x.a.l.length = an at *
        generalize x.b.l.length = bn at *
        generalize x.c.l.length = cn at *
        generalize x.a.u = au at *
        generalize x.b.u = bu at *
        generalize x.c.u = cu at *
        generalize x.a.c = ac at *
        generalize x.b.c = bc at *
        generalize x.c.c = cc at *
        go_wp2
        first | refine region_quiet1 (by kernel_rfl) ?_ | refine region_quiet (by kernel_rfl) ?_
        repeat (go_big_quiet_step (first | fail))
        refine wpQuiet_nil ?_
        intro _
        go_wp2
        go_roundw
        case rel => exact ⟨_, k + 1, rfl, by go_num, (by repeat (first | exact Below.refl _ _ | refine Below.later ?_ _ | refine Below.box ?_ _ | refine Below.drew ?_ | refine Below.put ?_ (by dsimp only; omega) _)), by omega⟩
        case measure => first | (simp [intOf]; omega) | (simp [intOf]; done)
      · have hz2 : decide (z ≤ 400) = false := by simp; omega
        go_wp2
        go_ret
        exact ⟨_, ⟨rfl, (by repeat (first | exact Below.refl _ _ | refine Below.later ?_ _ | refine Below.box ?_ _ | refine Below.drew ?_ | refine Below.put ?_ (by dsimp only; omega) _))⟩⟩
    · by_cases hz : z ≤ 400
      · go_wp2
        go_ret
        exact ⟨_, ⟨rfl, (by repeat (first | exact Below.refl _ _ | refine Below.later ?_ _ | refine Below.box ?_ _ | refine Below.drew ?_ | refine Below.put ?_ (by dsimp only; omega) _))⟩⟩
      · have hz2 : decide (z ≤ 400) = false := by simp; omega
        go_wp2
        go_ret
        exact ⟨_, ⟨rfl, (by repeat (first | exact Below.refl _ _ | refine Below.later ?_ _ | refine Below.box ?_ _ | refine Below.drew ?_ | refine Below.put ?_ (by dsimp only; omega) _))⟩⟩

def asgB (p n : Int) (l : List Int) : Bool := decide ((l.length : Int) = n) && (l.head? == some 1) && l.all (fun x => decide (x < p))
theorem asg_c (p q n : Int) (ur : Option Addr) (nr cr : Nat) (u : Option Addr) (c : Nat) (l : List Int) (w : World) (h1 : Ls w u l) :
    Calls Try.prog 36 #[.agg #[.int .u64 p, .int .i64 q, .int .i64 n, .slice ur nr cr], .slice u l.length c] w (Gives (.bool (asgB p n l)) w) := by
  obtain ⟨m, hm⟩ : ∃ m, l.length = m := ⟨_, rfl⟩
  have hs1 := h1.small
  have k1 := (⟨h1.get hm⟩ : Kept _)
  have e1 : Kept (l.length = m) := ⟨hm⟩
  rw [hm] at hs1 ⊢
  clear h1
  by_cases g1 : (m : Int) = n
  · by_cases g2 : m = 0
    · have hno : Kept (asgB p n l = false) := ⟨by
        have : l = [] := List.length_eq_zero_iff.1 (by omega)
        subst this; simp [asgB]⟩
      subst g2
      have g1' : ((0 : Int) != n) = false := by simp; omega
      have g1'' : n = 0 := by omega
      subst g1''
      clear k1 e1 hm g1 g1'
      go_enter Try.func36, Try.ntmps36
      go_wp2
      go_ret
      exact ⟨by rw [hno.out]; rfl, (by repeat (first | exact Below.refl _ _ | refine Below.later ?_ _ | refine Below.box ?_ _ | refine Below.drew ?_ | refine Below.put ?_ (by dsimp only; omega) _))⟩
    · obtain ⟨b0, o0, x0, rfl, hx0, hb0, hc0, hU0⟩ := k1.out 0 (by omega)
      rw [Nat.add_zero] at hc0
      have g3 : ((m : Int) == 0) = false := by simp; omega
      subst g1
      by_cases g4 : x0 = 1
      · have hI0 : Kept (asgB p m l = l.all (fun x => decide (x < p))) := ⟨by
          have : l.head? = some 1 := by rw [List.head?_eq_getElem?, hx0, g4]
          simp [asgB, hm, this]⟩
        subst g4
        clear hm hx0 hU0
        go_enter Try.func36, Try.ntmps36
        go_wp2
        go_loopw [5] (fun v wr => ∃ (k : Nat), v = .int .i64 (k : Int) ∧ Below (w.alloc (.cells #[.int .u64 p, .int .i64 q, .int .i64 m, .slice ur nr cr] 25)).heap.size (w.alloc (.cells #[.int .u64 p, .int .i64 q, .int .i64 m, .slice ur nr cr] 25)) wr ∧ k ≤ m ∧ Kept (asgB p m l = (l.drop k).all (fun x => decide (x < p)))) (fun v _ => (m : Int).toNat - (intOf v).toNat)
        case atStart => exact ⟨0, rfl, (by repeat (first | exact Below.refl _ _ | refine Below.later ?_ _ | refine Below.box ?_ _ | refine Below.drew ?_ | refine Below.put ?_ (by dsimp only; omega) _)), by omega, ⟨by rw [hI0.out]; simp⟩⟩
        case round =>
          obtain ⟨k, rfl, hBr, hk, hI⟩ := hrel
          obtain ⟨q0, rfl⟩ := after_of hBr
          clear hBr hI0
          by_cases h : k < m
          · obtain ⟨b1, o1, x1, e2, hx1, hb1, hc1, hU1⟩ := k1.out k h
            injection e2 with e2
            injection e2 with e2 e3
            subst e2 e3
            by_cases t : x1 ≥ p
            · have hno : Kept (asgB p m l = false) := ⟨by rw [hI.out, drop_next hx1]; simp only [List.all_cons]; rw [show decide (x1 < p) = false from by simp; omega]; rfl⟩
              clear hI hx1 k1 e1 hU1 hc0
              go_wp2
              first | refine region_quiet1 (by kernel_rfl) ?_ | refine region_quiet (by kernel_rfl) ?_
              repeat (go_big_quiet_step (first | fail))
              refine wpQuiet_nil ?_
              intro _
              go_wp2
              go_ret
              exact ⟨by rw [hno.out]; rfl, (by repeat (first | exact Below.refl _ _ | refine Below.later ?_ _ | refine Below.box ?_ _ | refine Below.drew ?_ | refine Below.put ?_ (by dsimp only; omega) _))⟩
            · have hI2 : Kept (asgB p m l = (l.drop (k + 1)).all (fun x => decide (x < p))) := ⟨by rw [hI.out, drop_next hx1]; simp only [List.all_cons]; rw [show decide (x1 < p) = true from by simp; omega]; rfl⟩
              have t2 : decide (p ≤ x1) = false := by simp; omega
              clear hI hx1 k1 hU1 hc0 e1
              go_wp2
              first | refine region_quiet1 (by kernel_rfl) ?_ | refine region_quiet (by kernel_rfl) ?_
              repeat (go_big_quiet_step (first | fail))
              refine wpQuiet_nil ?_
              intro _
              go_wp2
              go_roundw
              case rel => exact ⟨k + 1, by go_num, (by repeat (first | exact Below.refl _ _ | refine Below.later ?_ _ | refine Below.box ?_ _ | refine Below.drew ?_ | refine Below.put ?_ (by dsimp only; omega) _)), by omega, hI2⟩
              case measure => first | (simp [intOf]; omega) | (simp [intOf]; done)
          · have hno : Kept (asgB p m l = true) := ⟨by rw [hI.out, List.drop_eq_nil_of_le (by have := e1.out; omega)]; rfl⟩
            clear hI k1 e1
            go_wp2
            go_ret
            exact ⟨by rw [hno.out]; rfl, (by repeat (first | exact Below.refl _ _ | refine Below.later ?_ _ | refine Below.box ?_ _ | refine Below.drew ?_ | refine Below.put ?_ (by dsimp only; omega) _))⟩
      · have hno : Kept (asgB p m l = false) := ⟨by
          have : (l.head? == some 1) = false := by rw [List.head?_eq_getElem?, hx0]; simp [g4]
          simp [asgB, this]⟩
        have g5 : (x0 != 1) = true := by simp [g4]
        clear hm hx0 hU0 k1 e1
        go_enter Try.func36, Try.ntmps36
        go_wp2
        go_ret
        exact ⟨by rw [hno.out]; rfl, (by repeat (first | exact Below.refl _ _ | refine Below.later ?_ _ | refine Below.box ?_ _ | refine Below.drew ?_ | refine Below.put ?_ (by dsimp only; omega) _))⟩
  · have hno : Kept (asgB p n l = false) := ⟨by rw [asgB, hm, show decide ((m : Int) = n) = false from by simp [g1]]; rfl⟩
    have g1' : ((m : Int) != n) = true := by simp [g1]
    clear k1 e1 hm
    go_enter Try.func36, Try.ntmps36
    go_wp2
    go_ret
    exact ⟨by rw [hno.out]; rfl, (by repeat (first | exact Below.refl _ _ | refine Below.later ?_ _ | refine Below.box ?_ _ | refine Below.drew ?_ | refine Below.put ?_ (by dsimp only; omega) _))⟩
end Go.Proofs.Ytpkjlnelkacbgaa
