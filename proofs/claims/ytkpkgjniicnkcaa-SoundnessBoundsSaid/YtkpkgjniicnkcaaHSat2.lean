/- The reference's First, Satisfied. -/
import Derived.Test.YtkpkgjniicnkcaaHSat
import Derived.Test.YtkpkgjniicnkcaaHTabS
namespace Go.Proofs.Ytkpkgjniicnkcaa
open Go.RowKit Go.Sort

def firstZ (p : Int) (ws : List Int) : List Rw → Int → Int
  | [], _ => -1
  | r :: rs, k => if holdB p ws r = true then firstZ p ws rs (k + 1) else k
theorem firstZ_neg (p : Int) (ws : List Int) : ∀ (rs : List Rw) (k : Int), 0 ≤ k → decide (firstZ p ws rs k < 0) = rs.all (holdB p ws)
  | [], k, _ => rfl
  | r :: rs, k, h => by
    unfold firstZ
    rw [List.all_cons]
    cases hr : holdB p ws r with
    | true => rw [if_pos rfl, Bool.true_and]; exact firstZ_neg p ws rs (k + 1) (by omega)
    | false => rw [if_neg (by simp), Bool.false_and]; simp; omega
def firstV (p pub vs : Int) (ws : List Int) (rs : List Rw) : Int := if tabB p pub vs rs && asgB p vs ws then firstZ p ws rs 0 else -1
def satB (p pub vs : Int) (ws : List Int) (rs : List Rw) : Bool := tabB p pub vs rs && asgB p vs ws && rs.all (holdB p ws)

set_option maxHeartbeats 4000000 in
theorem first_c (p pub vs : Int) (u : Option Addr) (c : Nat) (rs : List Rw) (uw : Option Addr) (cw : Nat) (ws : List Int) (w : World) (h1 : Rws w u rs) (h2 : Ls w uw ws) :
    Calls Try.prog 49 #[.agg #[.int .u64 p, .int .i64 pub, .int .i64 vs, .slice u rs.length c], .slice uw ws.length cw] w (Gives (.int .i64 (firstV p pub vs ws rs)) w) := by
  have c2 : Kept (∀ w', Below w.heap.size w w' → Calls Try.prog 34 #[.agg #[.int .u64 p, .int .i64 pub, .int .i64 vs, .slice u rs.length c]] w' (Gives (.bool (tabB p pub vs rs)) w')) := ⟨fun w' hw => rtvalid_c p pub vs u c rs w' (h1.below (Nat.le_refl _) hw)⟩
  have c3 : Kept (∀ w', Below w.heap.size w w' → Calls Try.prog 35 #[.agg #[.int .u64 p, .int .i64 pub, .int .i64 vs, .slice u rs.length c], .slice uw ws.length cw] w' (Gives (.bool (asgB p vs ws)) w')) := ⟨fun w' hw => asg_c p pub vs u rs.length c uw cw ws w' (h2.below (Nat.le_refl _) hw)⟩
  have c4 : Kept (∀ r w', Below w.heap.size w w' → Tm w r.a.u r.a.l → Tm w r.b.u r.b.l → Tm w r.c.u r.c.l → Calls Try.prog 69 #[.int .u64 p, .agg #[r.a.v, r.b.v, r.c.v], .slice uw ws.length cw] w' (Gives (.bool (holdB p ws r)) w')) := ⟨fun r w' hw ha hb hc =>
    holds_c p r uw cw ws w' (ha.below (Nat.le_refl _) hw) (hb.below (Nat.le_refl _) hw) (hc.below (Nat.le_refl _) hw) (h2.below (Nat.le_refl _) hw)⟩
  obtain ⟨m, hm⟩ : ∃ m, rs.length = m := ⟨_, rfl⟩
  have hs1 := h1.small
  have hs2 := h2.small
  have k1 := (⟨h1.get hm⟩ : Kept _)
  have e1 : Kept (rs.length = m) := ⟨hm⟩
  rw [hm] at hs1 c2 c3 ⊢
  clear h1 h2 hm
  generalize ws.length = n at *
  cases hT : tabB p pub vs rs
  · have hV : Kept (firstV p pub vs ws rs = -1) := ⟨by simp [firstV, hT]⟩
    rw [hT] at c2
    clear hT k1 c4 c3
    go_enter Try.func49, Try.ntmps49
    go_wp2_with (first | (go_at_call 34; (first | with_reducible refine use1 (c2.out _ (by repeat (first | exact Below.refl _ _ | refine Below.later ?_ _ | refine Below.box ?_ _ | refine Below.drew ?_ | refine Below.put ?_ (by dsimp only; omega) _))) ?_ | with_reducible refine use (c2.out _ (by repeat (first | exact Below.refl _ _ | refine Below.later ?_ _ | refine Below.box ?_ _ | refine Below.drew ?_ | refine Below.put ?_ (by dsimp only; omega) _))) ?_); intro pw))
    go_ret
    exact ⟨by rw [hV.out]; rfl, (by repeat (first | exact Below.refl _ _ | refine Below.later ?_ _ | refine Below.box ?_ _ | refine Below.drew ?_ | refine Below.put ?_ (by dsimp only; omega) _))⟩
  rw [hT] at c2
  cases hA : asgB p vs ws
  · have hV : Kept (firstV p pub vs ws rs = -1) := ⟨by simp [firstV, hA]⟩
    rw [hA] at c3
    clear hT hA k1 c4
    go_enter Try.func49, Try.ntmps49
    go_wp2_with (first | (go_at_call 34; (first | with_reducible refine use1 (c2.out _ (by repeat (first | exact Below.refl _ _ | refine Below.later ?_ _ | refine Below.box ?_ _ | refine Below.drew ?_ | refine Below.put ?_ (by dsimp only; omega) _))) ?_ | with_reducible refine use (c2.out _ (by repeat (first | exact Below.refl _ _ | refine Below.later ?_ _ | refine Below.box ?_ _ | refine Below.drew ?_ | refine Below.put ?_ (by dsimp only; omega) _))) ?_); intro pw) | (go_at_call 35; (first | with_reducible refine use1 (c3.out _ (by repeat (first | exact Below.refl _ _ | refine Below.later ?_ _ | refine Below.box ?_ _ | refine Below.drew ?_ | refine Below.put ?_ (by dsimp only; omega) _))) ?_ | with_reducible refine use (c3.out _ (by repeat (first | exact Below.refl _ _ | refine Below.later ?_ _ | refine Below.box ?_ _ | refine Below.drew ?_ | refine Below.put ?_ (by dsimp only; omega) _))) ?_); intro pw))
    go_ret
    exact ⟨by rw [hV.out]; rfl, (by repeat (first | exact Below.refl _ _ | refine Below.later ?_ _ | refine Below.box ?_ _ | refine Below.drew ?_ | refine Below.put ?_ (by dsimp only; omega) _))⟩
  rw [hA] at c3
  have hV0 : Kept (firstV p pub vs ws rs = firstZ p ws rs 0) := ⟨by simp [firstV, hT, hA]⟩
  clear hT hA
  go_enter Try.func49, Try.ntmps49
  go_wp2_with (first | (go_at_call 34; (first | with_reducible refine use1 (c2.out _ (by repeat (first | exact Below.refl _ _ | refine Below.later ?_ _ | refine Below.box ?_ _ | refine Below.drew ?_ | refine Below.put ?_ (by dsimp only; omega) _))) ?_ | with_reducible refine use (c2.out _ (by repeat (first | exact Below.refl _ _ | refine Below.later ?_ _ | refine Below.box ?_ _ | refine Below.drew ?_ | refine Below.put ?_ (by dsimp only; omega) _))) ?_); intro pw) | (go_at_call 35; (first | with_reducible refine use1 (c3.out _ (by repeat (first | exact Below.refl _ _ | refine Below.later ?_ _ | refine Below.box ?_ _ | refine Below.drew ?_ | refine Below.put ?_ (by dsimp only; omega) _))) ?_ | with_reducible refine use (c3.out _ (by repeat (first | exact Below.refl _ _ | refine Below.later ?_ _ | refine Below.box ?_ _ | refine Below.drew ?_ | refine Below.put ?_ (by dsimp only; omega) _))) ?_); intro pw))
  go_loopw [5] (fun v wr => ∃ (k : Nat), v = .int .i64 (k : Int) ∧ Below (w.alloc (.cells #[.int .u64 p, .int .i64 pub, .int .i64 vs, .slice u m c] 33)).heap.size (w.alloc (.cells #[.int .u64 p, .int .i64 pub, .int .i64 vs, .slice u m c] 33)) wr ∧ k ≤ m ∧ Kept (firstV p pub vs ws rs = firstZ p ws (rs.drop k) k)) (fun v _ => (m : Int).toNat - (intOf v).toNat)
  case atStart => exact ⟨0, rfl, (by repeat (first | exact Below.refl _ _ | refine Below.later ?_ _ | refine Below.box ?_ _ | refine Below.drew ?_ | refine Below.put ?_ (by dsimp only; omega) _)), by omega, ⟨by rw [hV0.out]; rfl⟩⟩
  case round =>
    obtain ⟨k, rfl, hBr, hk, hI⟩ := hrel
    obtain ⟨q0, rfl⟩ := after_of hBr
    clear hBr
    by_cases h : k < m
    · obtain ⟨b1, o1, x, rfl, hx1, hb1, hc1, hc2, hc3, ha, hb, hc⟩ := k1.out k h
      have cr : Kept (∀ w', Below w.heap.size w w' → Calls Try.prog 69 #[.int .u64 p, .agg #[x.a.v, x.b.v, x.c.v], .slice uw n cw] w' (Gives (.bool (holdB p ws x)) w')) := ⟨fun w' hw => c4.out x w' hw ha hb hc⟩
      cases hh : holdB p ws x
      · have hV : Kept (firstV p pub vs ws rs = k) := ⟨by rw [hI.out, drop_next hx1, firstZ, if_neg (by simp [hh])]⟩
        rw [hh] at cr
        clear hI hh hx1 k1 ha hb hc c4 hV0
        go_wp2_with (first | (go_at_call 69; (first | with_reducible refine use1 (cr.out _ (by repeat (first | exact Below.refl _ _ | refine Below.later ?_ _ | refine Below.box ?_ _ | refine Below.drew ?_ | refine Below.put ?_ (by dsimp only; omega) _))) ?_ | with_reducible refine use (cr.out _ (by repeat (first | exact Below.refl _ _ | refine Below.later ?_ _ | refine Below.box ?_ _ | refine Below.drew ?_ | refine Below.put ?_ (by dsimp only; omega) _))) ?_); intro pw))
        first | refine region_quiet1 (by kernel_rfl) ?_ | refine region_quiet (by kernel_rfl) ?_
        repeat (go_big_quiet_step (first | (go_at_call 69; with_reducible exact quiet (cr.out _ (by repeat (first | exact Below.refl _ _ | refine Below.later ?_ _ | refine Below.box ?_ _ | refine Below.drew ?_ | refine Below.put ?_ (by dsimp only; omega) _))))))
        refine wpQuiet_nil ?_
        intro _
        go_wp2
        go_ret
        exact ⟨by rw [hV.out]; rfl, (by repeat (first | exact Below.refl _ _ | refine Below.later ?_ _ | refine Below.box ?_ _ | refine Below.drew ?_ | refine Below.put ?_ (by dsimp only; omega) _))⟩
      · have hI2 : Kept (firstV p pub vs ws rs = firstZ p ws (rs.drop (k + 1)) ((k + 1 : Nat) : Int)) := ⟨by rw [hI.out, drop_next hx1, firstZ, if_pos hh]; simp⟩
        rw [hh] at cr
        clear hI hh hx1 k1 ha hb hc c4 hV0
        go_wp2_with (first | (go_at_call 69; (first | with_reducible refine use1 (cr.out _ (by repeat (first | exact Below.refl _ _ | refine Below.later ?_ _ | refine Below.box ?_ _ | refine Below.drew ?_ | refine Below.put ?_ (by dsimp only; omega) _))) ?_ | with_reducible refine use (cr.out _ (by repeat (first | exact Below.refl _ _ | refine Below.later ?_ _ | refine Below.box ?_ _ | refine Below.drew ?_ | refine Below.put ?_ (by dsimp only; omega) _))) ?_); intro pw))
        first | refine region_quiet1 (by kernel_rfl) ?_ | refine region_quiet (by kernel_rfl) ?_
        repeat (go_big_quiet_step (first | (go_at_call 69; with_reducible exact quiet (cr.out _ (by repeat (first | exact Below.refl _ _ | refine Below.later ?_ _ | refine Below.box ?_ _ | refine Below.drew ?_ | refine Below.put ?_ (by dsimp only; omega) _))))))
        refine wpQuiet_nil ?_
        intro _
        go_wp2
        go_roundw
        case rel => exact ⟨k + 1, by go_num, (by repeat (first | exact Below.refl _ _ | refine Below.later ?_ _ | refine Below.box ?_ _ | refine Below.drew ?_ | refine Below.put ?_ (by dsimp only; omega) _)), by omega, hI2⟩
        case measure => first | (simp [intOf]; omega) | (simp [intOf]; done)
    · have hV : Kept (firstV p pub vs ws rs = -1) := ⟨by rw [hI.out, List.drop_eq_nil_of_le (by have := e1.out; omega)]; rfl⟩
      clear hI k1 c4 hV0
      go_wp2
      go_ret
      exact ⟨by rw [hV.out]; rfl, (by repeat (first | exact Below.refl _ _ | refine Below.later ?_ _ | refine Below.box ?_ _ | refine Below.drew ?_ | refine Below.put ?_ (by dsimp only; omega) _))⟩

set_option maxHeartbeats 1000000 in
theorem satisfied_c (p pub vs : Int) (u : Option Addr) (c : Nat) (rs : List Rw) (uw : Option Addr) (cw : Nat) (ws : List Int) (w : World) (h1 : Rws w u rs) (h2 : Ls w uw ws) :
    Calls Try.prog 27 #[.agg #[.int .u64 p, .int .i64 pub, .int .i64 vs, .slice u rs.length c], .slice uw ws.length cw] w (Gives (.bool (satB p pub vs ws rs)) w) := by
  have c2 : Kept (∀ w', Below w.heap.size w w' → Calls Try.prog 34 #[.agg #[.int .u64 p, .int .i64 pub, .int .i64 vs, .slice u rs.length c]] w' (Gives (.bool (tabB p pub vs rs)) w')) := ⟨fun w' hw => rtvalid_c p pub vs u c rs w' (h1.below (Nat.le_refl _) hw)⟩
  have c3 : Kept (∀ w', Below w.heap.size w w' → Calls Try.prog 35 #[.agg #[.int .u64 p, .int .i64 pub, .int .i64 vs, .slice u rs.length c], .slice uw ws.length cw] w' (Gives (.bool (asgB p vs ws)) w')) := ⟨fun w' hw => asg_c p pub vs u rs.length c uw cw ws w' (h2.below (Nat.le_refl _) hw)⟩
  have c4 : Kept (∀ w', Below w.heap.size w w' → Calls Try.prog 49 #[.agg #[.int .u64 p, .int .i64 pub, .int .i64 vs, .slice u rs.length c], .slice uw ws.length cw] w' (Gives (.int .i64 (firstV p pub vs ws rs)) w')) := ⟨fun w' hw => first_c p pub vs u c rs uw cw ws w' (h1.below (Nat.le_refl _) hw) (h2.below (Nat.le_refl _) hw)⟩
  have hS : Kept (satB p pub vs ws rs = (tabB p pub vs rs && asgB p vs ws && decide (firstZ p ws rs 0 < 0))) := ⟨by rw [firstZ_neg p ws rs 0 (by omega)]; rfl⟩
  have hF : Kept (tabB p pub vs rs = true → asgB p vs ws = true → firstV p pub vs ws rs = firstZ p ws rs 0) := ⟨fun h1 h2 => by simp [firstV, h1, h2]⟩
  clear h1 h2
  generalize firstZ p ws rs 0 = z at *
  generalize satB p pub vs ws rs = S at *
  generalize tabB p pub vs rs = T at *
  generalize asgB p vs ws = A at *
  generalize firstV p pub vs ws rs = F at *
  generalize rs.length = m at *
  generalize ws.length = n at *
  cases T
  · have hV : Kept (S = false) := ⟨by rw [hS.out]; rfl⟩
    clear hS hF c3 c4
    go_enter Try.func27, Try.ntmps27
    go_wp2_with (first | (go_at_call 34; (first | with_reducible refine use1 (c2.out _ (by repeat (first | exact Below.refl _ _ | refine Below.later ?_ _ | refine Below.box ?_ _ | refine Below.drew ?_ | refine Below.put ?_ (by dsimp only; omega) _))) ?_ | with_reducible refine use (c2.out _ (by repeat (first | exact Below.refl _ _ | refine Below.later ?_ _ | refine Below.box ?_ _ | refine Below.drew ?_ | refine Below.put ?_ (by dsimp only; omega) _))) ?_); intro pw))
    go_ret
    exact ⟨by rw [hV.out]; rfl, (by repeat (first | exact Below.refl _ _ | refine Below.later ?_ _ | refine Below.box ?_ _ | refine Below.drew ?_ | refine Below.put ?_ (by dsimp only; omega) _))⟩
  cases A
  · have hV : Kept (S = false) := ⟨by rw [hS.out]; rfl⟩
    clear hS hF c4
    go_enter Try.func27, Try.ntmps27
    go_wp2_with (first | (go_at_call 34; (first | with_reducible refine use1 (c2.out _ (by repeat (first | exact Below.refl _ _ | refine Below.later ?_ _ | refine Below.box ?_ _ | refine Below.drew ?_ | refine Below.put ?_ (by dsimp only; omega) _))) ?_ | with_reducible refine use (c2.out _ (by repeat (first | exact Below.refl _ _ | refine Below.later ?_ _ | refine Below.box ?_ _ | refine Below.drew ?_ | refine Below.put ?_ (by dsimp only; omega) _))) ?_); intro pw) | (go_at_call 35; (first | with_reducible refine use1 (c3.out _ (by repeat (first | exact Below.refl _ _ | refine Below.later ?_ _ | refine Below.box ?_ _ | refine Below.drew ?_ | refine Below.put ?_ (by dsimp only; omega) _))) ?_ | with_reducible refine use (c3.out _ (by repeat (first | exact Below.refl _ _ | refine Below.later ?_ _ | refine Below.box ?_ _ | refine Below.drew ?_ | refine Below.put ?_ (by dsimp only; omega) _))) ?_); intro pw))
    go_ret
    exact ⟨by rw [hV.out]; rfl, (by repeat (first | exact Below.refl _ _ | refine Below.later ?_ _ | refine Below.box ?_ _ | refine Below.drew ?_ | refine Below.put ?_ (by dsimp only; omega) _))⟩
  have hz := hF.out rfl rfl
  subst hz
  by_cases t : F < 0
  · have hV : Kept (S = true) := ⟨by rw [hS.out]; simp [t]⟩
    clear hS hF
    go_enter Try.func27, Try.ntmps27
    go_wp2_with (first | (go_at_call 34; (first | with_reducible refine use1 (c2.out _ (by repeat (first | exact Below.refl _ _ | refine Below.later ?_ _ | refine Below.box ?_ _ | refine Below.drew ?_ | refine Below.put ?_ (by dsimp only; omega) _))) ?_ | with_reducible refine use (c2.out _ (by repeat (first | exact Below.refl _ _ | refine Below.later ?_ _ | refine Below.box ?_ _ | refine Below.drew ?_ | refine Below.put ?_ (by dsimp only; omega) _))) ?_); intro pw) | (go_at_call 35; (first | with_reducible refine use1 (c3.out _ (by repeat (first | exact Below.refl _ _ | refine Below.later ?_ _ | refine Below.box ?_ _ | refine Below.drew ?_ | refine Below.put ?_ (by dsimp only; omega) _))) ?_ | with_reducible refine use (c3.out _ (by repeat (first | exact Below.refl _ _ | refine Below.later ?_ _ | refine Below.box ?_ _ | refine Below.drew ?_ | refine Below.put ?_ (by dsimp only; omega) _))) ?_); intro pw) | (go_at_call 49; (first | with_reducible refine use1 (c4.out _ (by repeat (first | exact Below.refl _ _ | refine Below.later ?_ _ | refine Below.box ?_ _ | refine Below.drew ?_ | refine Below.put ?_ (by dsimp only; omega) _))) ?_ | with_reducible refine use (c4.out _ (by repeat (first | exact Below.refl _ _ | refine Below.later ?_ _ | refine Below.box ?_ _ | refine Below.drew ?_ | refine Below.put ?_ (by dsimp only; omega) _))) ?_); intro pw))
    go_ret
    exact ⟨by rw [hV.out]; rfl, (by repeat (first | exact Below.refl _ _ | refine Below.later ?_ _ | refine Below.box ?_ _ | refine Below.drew ?_ | refine Below.put ?_ (by dsimp only; omega) _))⟩
  · have hV : Kept (S = false) := ⟨by rw [hS.out, show decide (F < 0) = false from by simp; omega]; rfl⟩
    have t2 : decide (F < 0) = false := by simp; omega
    clear hS hF
    go_enter Try.func27, Try.ntmps27
    go_wp2_with (first | (go_at_call 34; (first | with_reducible refine use1 (c2.out _ (by repeat (first | exact Below.refl _ _ | refine Below.later ?_ _ | refine Below.box ?_ _ | refine Below.drew ?_ | refine Below.put ?_ (by dsimp only; omega) _))) ?_ | with_reducible refine use (c2.out _ (by repeat (first | exact Below.refl _ _ | refine Below.later ?_ _ | refine Below.box ?_ _ | refine Below.drew ?_ | refine Below.put ?_ (by dsimp only; omega) _))) ?_); intro pw) | (go_at_call 35; (first | with_reducible refine use1 (c3.out _ (by repeat (first | exact Below.refl _ _ | refine Below.later ?_ _ | refine Below.box ?_ _ | refine Below.drew ?_ | refine Below.put ?_ (by dsimp only; omega) _))) ?_ | with_reducible refine use (c3.out _ (by repeat (first | exact Below.refl _ _ | refine Below.later ?_ _ | refine Below.box ?_ _ | refine Below.drew ?_ | refine Below.put ?_ (by dsimp only; omega) _))) ?_); intro pw) | (go_at_call 49; (first | with_reducible refine use1 (c4.out _ (by repeat (first | exact Below.refl _ _ | refine Below.later ?_ _ | refine Below.box ?_ _ | refine Below.drew ?_ | refine Below.put ?_ (by dsimp only; omega) _))) ?_ | with_reducible refine use (c4.out _ (by repeat (first | exact Below.refl _ _ | refine Below.later ?_ _ | refine Below.box ?_ _ | refine Below.drew ?_ | refine Below.put ?_ (by dsimp only; omega) _))) ?_); intro pw))
    go_ret
    exact ⟨by rw [hV.out]; rfl, (by repeat (first | exact Below.refl _ _ | refine Below.later ?_ _ | refine Below.box ?_ _ | refine Below.drew ?_ | refine Below.put ?_ (by dsimp only; omega) _))⟩
end Go.Proofs.Ytkpkgjniicnkcaa
