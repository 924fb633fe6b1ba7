/- Small as a function; Right. -/
import Derived.Test.YtpkjlnelkacbgaaHTabM
namespace Go.Proofs.Ytpkjlnelkacbgaa
open Go.RowKit Go.Sort

def smallF : Int → List Rw → Bool
  | z, [] => decide (z ≤ 400)
  | z, r :: rs => if z ≤ 400 then smallF (wrap64 (wrap64 (wrap64 (z + r.a.l.length) + r.b.l.length) + r.c.l.length)) rs else false
theorem small2_c (p q n : Int) (u : Option Addr) (c : Nat) (rs : List Rw) (w : World) (h1 : Rws w u rs) :
    Calls Try.prog 11 #[.agg #[.int .u64 p, .int .i64 q, .int .i64 n, .slice u rs.length c]] w (Gives (.bool (smallF rs.length rs)) w) := by
  obtain ⟨m, hm⟩ : ∃ m, rs.length = m := ⟨_, rfl⟩
  have hs1 := h1.small
  have k1 := (⟨h1.get hm⟩ : Kept _)
  have e1 : Kept (rs.length = m) := ⟨hm⟩
  rw [hm] at hs1 ⊢
  clear h1 hm
  go_enter Try.func11, Try.ntmps11
  go_wp2
  go_loopw [3, 4] (fun vs v wr => ∃ (z : Int) (k : Nat), vs = .int .i64 z ∧ v = .int .i64 (k : Int) ∧ Below (w.alloc (.cells #[.int .u64 p, .int .i64 q, .int .i64 n, .slice u m c] 25)).heap.size (w.alloc (.cells #[.int .u64 p, .int .i64 q, .int .i64 n, .slice u m c] 25)) wr ∧ k ≤ m ∧ Kept (smallF m rs = smallF z (rs.drop k))) (fun _ v _ => (m : Int).toNat - (intOf v).toNat)
  case atStart => exact ⟨m, 0, rfl, rfl, (by repeat (first | exact Below.refl _ _ | refine Below.later ?_ _ | refine Below.box ?_ _ | refine Below.drew ?_ | refine Below.put ?_ (by dsimp only; omega) _)), by omega, ⟨rfl⟩⟩
  case round =>
    obtain ⟨z, k, rfl, rfl, hBr, hk, hI⟩ := hrel
    obtain ⟨q0, rfl⟩ := after_of hBr
    clear hBr
    by_cases h : k < m
    · obtain ⟨b1, o1, x, rfl, hx1, hb1, hc1, hc2, hc3, ha, hb, hc⟩ := k1.out k h
      by_cases hz : z ≤ 400
      · have hI2 : Kept (smallF m rs = smallF (wrap64 (wrap64 (wrap64 (z + x.a.l.length) + x.b.l.length) + x.c.l.length)) (rs.drop (k + 1))) := ⟨by rw [hI.out, drop_next hx1, smallF, if_pos hz]⟩
        clear k1 ha hb hc hx1 hI
        simp only [Lin.v] at *
        generalize x.a.l.length = an at *
        generalize x.b.l.length = bn at *
        generalize x.c.l.length = cn at *
        generalize x.a.u = au at *
        generalize x.b.u = bu at *
        generalize x.c.u = cu at *
        generalize x.a.c = ac at *
        generalize x.b.c = bc at *
        generalize x.c.c = cc at *
        go_wp2
        first | refine region_quiet1 (by kernel_rfl) ?_ | refine region_quiet (by kernel_rfl) ?_
        repeat (go_big_quiet_step (first | fail))
        refine wpQuiet_nil ?_
        intro _
        go_wp2
        go_roundw
        case rel => exact ⟨_, k + 1, rfl, by go_num, (by repeat (first | exact Below.refl _ _ | refine Below.later ?_ _ | refine Below.box ?_ _ | refine Below.drew ?_ | refine Below.put ?_ (by dsimp only; omega) _)), by omega, hI2⟩
        case measure => first | (simp [intOf]; omega) | (simp [intOf]; done)
      · have hz2 : decide (z ≤ 400) = false := by simp; omega
        have hI2 : Kept (smallF m rs = false) := ⟨by rw [hI.out, drop_next hx1, smallF, if_neg hz]⟩
        clear k1 ha hb hc hx1 hI
        go_wp2
        go_ret
        exact ⟨by rw [hI2.out]; rfl, (by repeat (first | exact Below.refl _ _ | refine Below.later ?_ _ | refine Below.box ?_ _ | refine Below.drew ?_ | refine Below.put ?_ (by dsimp only; omega) _))⟩
    · have hI2 : Kept (smallF m rs = decide (z ≤ 400)) := ⟨by rw [hI.out, List.drop_eq_nil_of_le (by have := e1.out; omega), smallF]⟩
      clear hI k1 e1
      by_cases hz : z ≤ 400
      · have hz2 : decide (z ≤ 400) = true := by simp; omega
        rw [hz2] at hI2
        go_wp2
        go_ret
        exact ⟨by rw [hI2.out]; rfl, (by repeat (first | exact Below.refl _ _ | refine Below.later ?_ _ | refine Below.box ?_ _ | refine Below.drew ?_ | refine Below.put ?_ (by dsimp only; omega) _))⟩
      · have hz2 : decide (z ≤ 400) = false := by simp; omega
        rw [hz2] at hI2
        go_wp2
        go_ret
        exact ⟨by rw [hI2.out]; rfl, (by repeat (first | exact Below.refl _ _ | refine Below.later ?_ _ | refine Below.box ?_ _ | refine Below.drew ?_ | refine Below.put ?_ (by dsimp only; omega) _))⟩

def rightB (p pub vs b bl q : Int) (rs : List Rw) (l : List Int) (rows : Int) : Bool :=
  decide ((rs.length : Int) ≤ rows) && smallF rs.length rs && tabB p pub vs rs && asgB p vs l && okX b bl q && decide (newE p b bl q (tabB p pub vs rs && okX b bl q) = 0)
def rightV (p pub vs b bl q : Int) (rs : List Rw) (l : List Int) (rows : Int) : Value :=
  if rightB p pub vs b bl q rs l rows = true then layV p b q (newN b bl q) (vs - 1 - pub) rs.length else lay0

set_option maxHeartbeats 8000000 in
theorem right_c (p pub vs b bl q rows : Int) (u : Option Addr) (c : Nat) (rs : List Rw) (uw : Option Addr) (cw : Nat) (l : List Int) (w : World) (h1 : Rws w u rs) (h2 : Ls w uw l) :
    Calls Try.prog 17 #[.agg #[.int .u64 p, .int .i64 pub, .int .i64 vs, .slice u rs.length c, .int .i64 b, .int .i64 bl, .int .i64 q, .slice uw l.length cw], .int .i64 rows] w
      (Gives (.tuple #[rightV p pub vs b bl q rs l rows, .bool (rightB p pub vs b bl q rs l rows)]) w) := by
  have c1 : Kept (∀ w', Below w.heap.size w w' → Calls Try.prog 11 #[.agg #[.int .u64 p, .int .i64 pub, .int .i64 vs, .slice u rs.length c]] w' (Gives (.bool (smallF rs.length rs)) w')) := ⟨fun w' hw => small2_c p pub vs u c rs w' (h1.below (Nat.le_refl _) hw)⟩
  have c2 : Kept (∀ w', Below w.heap.size w w' → Calls Try.prog 33 #[.agg #[.int .u64 p, .int .i64 pub, .int .i64 vs, .slice u rs.length c]] w' (Gives (.bool (tabB p pub vs rs)) w')) := ⟨fun w' hw => rtvalid_c p pub vs u c rs w' (h1.below (Nat.le_refl _) hw)⟩
  have c3 : Kept (∀ w', Below w.heap.size w w' → Calls Try.prog 36 #[.agg #[.int .u64 p, .int .i64 pub, .int .i64 vs, .slice u rs.length c], .slice uw l.length cw] w' (Gives (.bool (asgB p vs l)) w')) := ⟨fun w' hw => asg_c p pub vs u rs.length c uw cw l w' (h2.below (Nat.le_refl _) hw)⟩
  have c4 : Kept (∀ w', Below w.heap.size w w' → Calls Try.prog 13 #[.agg #[.int .u64 p, .int .i64 pub, .int .i64 vs, .slice u rs.length c], .agg #[.int .i64 b, .int .i64 bl, .int .i64 q]] w'
      (Gives (.tuple #[newV p pub vs b bl q rs.length (tabB p pub vs rs && okX b bl q), .int .i64 (newE p b bl q (tabB p pub vs rs && okX b bl q))]) w')) := ⟨fun w' hw => rnew_c p pub vs b bl q u c rs w' (h1.below (Nat.le_refl _) hw)⟩
  obtain ⟨R, hR⟩ : ∃ R, rightB p pub vs b bl q rs l rows = R := ⟨_, rfl⟩
  have hR' : Kept (rightB p pub vs b bl q rs l rows = R) := ⟨hR⟩
  have hs1 := h1.small
  have hVf : Kept (R = false → rightV p pub vs b bl q rs l rows = lay0) := ⟨fun e => by rw [rightV, hR, e]; rfl⟩
  have hVt : Kept (R = true → rightV p pub vs b bl q rs l rows = layV p b q (newN b bl q) (vs - 1 - pub) rs.length) := ⟨fun e => by rw [rightV, hR, e]; rfl⟩
  rw [hR]
  unfold rightB at hR'
  clear hR h1 h2
  obtain ⟨V, hV⟩ : ∃ V, rightV p pub vs b bl q rs l rows = V := ⟨_, rfl⟩
  rw [hV] at hVf hVt ⊢
  clear hV
  generalize smallF rs.length rs = S at *
  generalize tabB p pub vs rs = T at *
  generalize asgB p vs l = A at *
  generalize rs.length = m at *
  generalize l.length = n at *
  by_cases g : (m : Int) ≤ rows
  · cases S
    · obtain rfl : R = false := by rw [← hR'.out]; simp
      have hV := hVf.out rfl
      subst hV
      clear hR' hVf hVt
      go_enter Try.func17, Try.ntmps17
      go_wp2_with (first | (go_at_call 11; (first | with_reducible refine use1 (c1.out _ (by repeat (first | exact Below.refl _ _ | refine Below.later ?_ _ | refine Below.box ?_ _ | refine Below.drew ?_ | refine Below.put ?_ (by dsimp only; omega) _))) ?_ | with_reducible refine use (c1.out _ (by repeat (first | exact Below.refl _ _ | refine Below.later ?_ _ | refine Below.box ?_ _ | refine Below.drew ?_ | refine Below.put ?_ (by dsimp only; omega) _))) ?_); intro pw))
      exact bodyPost_ret (v := .tuple #[lay0, .bool false]) (by simp [results, Try.results17, go_sem, lay0]) rfl ⟨rfl, (by repeat (first | with_reducible exact Below.refl _ _ | with_reducible refine Below.later ?_ _ | with_reducible refine Below.box ?_ _ | with_reducible refine Below.drew ?_ | with_reducible refine Below.put ?_ (by dsimp only; omega) _))⟩
    cases T
    · obtain rfl : R = false := by rw [← hR'.out]; simp
      have hV := hVf.out rfl
      subst hV
      clear hR' hVf hVt
      go_enter Try.func17, Try.ntmps17
      go_wp2_with (first | (go_at_call 11; (first | with_reducible refine use1 (c1.out _ (by repeat (first | exact Below.refl _ _ | refine Below.later ?_ _ | refine Below.box ?_ _ | refine Below.drew ?_ | refine Below.put ?_ (by dsimp only; omega) _))) ?_ | with_reducible refine use (c1.out _ (by repeat (first | exact Below.refl _ _ | refine Below.later ?_ _ | refine Below.box ?_ _ | refine Below.drew ?_ | refine Below.put ?_ (by dsimp only; omega) _))) ?_); intro pw) | (go_at_call 33; (first | with_reducible refine use1 (c2.out _ (by repeat (first | exact Below.refl _ _ | refine Below.later ?_ _ | refine Below.box ?_ _ | refine Below.drew ?_ | refine Below.put ?_ (by dsimp only; omega) _))) ?_ | with_reducible refine use (c2.out _ (by repeat (first | exact Below.refl _ _ | refine Below.later ?_ _ | refine Below.box ?_ _ | refine Below.drew ?_ | refine Below.put ?_ (by dsimp only; omega) _))) ?_); intro pw))
      exact bodyPost_ret (v := .tuple #[lay0, .bool false]) (by simp [results, Try.results17, go_sem, lay0]) rfl ⟨rfl, (by repeat (first | with_reducible exact Below.refl _ _ | with_reducible refine Below.later ?_ _ | with_reducible refine Below.box ?_ _ | with_reducible refine Below.drew ?_ | with_reducible refine Below.put ?_ (by dsimp only; omega) _))⟩
    cases A
    · obtain rfl : R = false := by rw [← hR'.out]; simp
      have hV := hVf.out rfl
      subst hV
      clear hR' hVf hVt
      go_enter Try.func17, Try.ntmps17
      go_wp2_with (first | (go_at_call 11; (first | with_reducible refine use1 (c1.out _ (by repeat (first | exact Below.refl _ _ | refine Below.later ?_ _ | refine Below.box ?_ _ | refine Below.drew ?_ | refine Below.put ?_ (by dsimp only; omega) _))) ?_ | with_reducible refine use (c1.out _ (by repeat (first | exact Below.refl _ _ | refine Below.later ?_ _ | refine Below.box ?_ _ | refine Below.drew ?_ | refine Below.put ?_ (by dsimp only; omega) _))) ?_); intro pw) | (go_at_call 33; (first | with_reducible refine use1 (c2.out _ (by repeat (first | exact Below.refl _ _ | refine Below.later ?_ _ | refine Below.box ?_ _ | refine Below.drew ?_ | refine Below.put ?_ (by dsimp only; omega) _))) ?_ | with_reducible refine use (c2.out _ (by repeat (first | exact Below.refl _ _ | refine Below.later ?_ _ | refine Below.box ?_ _ | refine Below.drew ?_ | refine Below.put ?_ (by dsimp only; omega) _))) ?_); intro pw) | (go_at_call 36; (first | with_reducible refine use1 (c3.out _ (by repeat (first | exact Below.refl _ _ | refine Below.later ?_ _ | refine Below.box ?_ _ | refine Below.drew ?_ | refine Below.put ?_ (by dsimp only; omega) _))) ?_ | with_reducible refine use (c3.out _ (by repeat (first | exact Below.refl _ _ | refine Below.later ?_ _ | refine Below.box ?_ _ | refine Below.drew ?_ | refine Below.put ?_ (by dsimp only; omega) _))) ?_); intro pw))
      exact bodyPost_ret (v := .tuple #[lay0, .bool false]) (by simp [results, Try.results17, go_sem, lay0]) rfl ⟨rfl, (by repeat (first | with_reducible exact Below.refl _ _ | with_reducible refine Below.later ?_ _ | with_reducible refine Below.box ?_ _ | with_reducible refine Below.drew ?_ | with_reducible refine Below.put ?_ (by dsimp only; omega) _))⟩
    rw [Bool.true_and] at hR' c4
    have hE1 : okX b bl q = false → newE p b bl q (okX b bl q) = 1 := fun e => by simp [newE, e]
    by_cases hE : newE p b bl q (okX b bl q) = 0
    · have hX : okX b bl q = true := by
        cases hx : okX b bl q with
        | true => rfl
        | false => rw [hE1 hx] at hE; omega
      obtain rfl : R = true := by rw [← hR'.out, hE, hX]; simp; exact g
      have hV := hVt.out rfl
      subst hV
      rw [newV, if_pos hE, hE] at c4
      clear hR' hVf hVt hE hE1
      unfold layV at c4 ⊢
      generalize newN b bl q = NN at *
      generalize (vs - 1 - pub + b - 1) / b = P0 at *
      generalize ((m : Int) + b - 1) / b = P1 at *
      generalize vs - 1 - pub = S0 at *
      generalize b + q = K0 at *
      go_enter Try.func17, Try.ntmps17
      go_wp2_with (first | (go_at_call 11; (first | with_reducible refine use1 (c1.out _ (by repeat (first | exact Below.refl _ _ | refine Below.later ?_ _ | refine Below.box ?_ _ | refine Below.drew ?_ | refine Below.put ?_ (by dsimp only; omega) _))) ?_ | with_reducible refine use (c1.out _ (by repeat (first | exact Below.refl _ _ | refine Below.later ?_ _ | refine Below.box ?_ _ | refine Below.drew ?_ | refine Below.put ?_ (by dsimp only; omega) _))) ?_); intro pw) | (go_at_call 33; (first | with_reducible refine use1 (c2.out _ (by repeat (first | exact Below.refl _ _ | refine Below.later ?_ _ | refine Below.box ?_ _ | refine Below.drew ?_ | refine Below.put ?_ (by dsimp only; omega) _))) ?_ | with_reducible refine use (c2.out _ (by repeat (first | exact Below.refl _ _ | refine Below.later ?_ _ | refine Below.box ?_ _ | refine Below.drew ?_ | refine Below.put ?_ (by dsimp only; omega) _))) ?_); intro pw) | (go_at_call 36; (first | with_reducible refine use1 (c3.out _ (by repeat (first | exact Below.refl _ _ | refine Below.later ?_ _ | refine Below.box ?_ _ | refine Below.drew ?_ | refine Below.put ?_ (by dsimp only; omega) _))) ?_ | with_reducible refine use (c3.out _ (by repeat (first | exact Below.refl _ _ | refine Below.later ?_ _ | refine Below.box ?_ _ | refine Below.drew ?_ | refine Below.put ?_ (by dsimp only; omega) _))) ?_); intro pw) | (go_at_call 13; (first | with_reducible refine use1 (c4.out _ (by repeat (first | exact Below.refl _ _ | refine Below.later ?_ _ | refine Below.box ?_ _ | refine Below.drew ?_ | refine Below.put ?_ (by dsimp only; omega) _))) ?_ | with_reducible refine use (c4.out _ (by repeat (first | exact Below.refl _ _ | refine Below.later ?_ _ | refine Below.box ?_ _ | refine Below.drew ?_ | refine Below.put ?_ (by dsimp only; omega) _))) ?_); intro pw))
      exact bodyPost_ret (v := .tuple #[.agg #[.int .u64 p, .int .i64 b, .int .i64 q, .int .i64 K0, .int .i64 NN, .int .i64 S0, .int .i64 m, .int .i64 P0, .int .i64 P1, .int .i64 P1, .int .i64 P1], .bool true]) (by simp [results, Try.results17, go_sem]) rfl ⟨rfl, (by repeat (first | with_reducible exact Below.refl _ _ | with_reducible refine Below.later ?_ _ | with_reducible refine Below.box ?_ _ | with_reducible refine Below.drew ?_ | with_reducible refine Below.put ?_ (by dsimp only; omega) _))⟩
    · obtain rfl : R = false := by rw [← hR'.out]; simp; intros; exact hE
      have hV := hVf.out rfl
      subst hV
      rw [newV, if_neg hE] at c4
      have hE2 : (newE p b bl q (okX b bl q) == 0) = false := by simp; exact hE
      unfold lay0 at c4 ⊢
      clear hR' hVf hVt hE1
      generalize newE p b bl q (okX b bl q) = E at *
      go_enter Try.func17, Try.ntmps17
      go_wp2_with (first | (go_at_call 11; (first | with_reducible refine use1 (c1.out _ (by repeat (first | exact Below.refl _ _ | refine Below.later ?_ _ | refine Below.box ?_ _ | refine Below.drew ?_ | refine Below.put ?_ (by dsimp only; omega) _))) ?_ | with_reducible refine use (c1.out _ (by repeat (first | exact Below.refl _ _ | refine Below.later ?_ _ | refine Below.box ?_ _ | refine Below.drew ?_ | refine Below.put ?_ (by dsimp only; omega) _))) ?_); intro pw) | (go_at_call 33; (first | with_reducible refine use1 (c2.out _ (by repeat (first | exact Below.refl _ _ | refine Below.later ?_ _ | refine Below.box ?_ _ | refine Below.drew ?_ | refine Below.put ?_ (by dsimp only; omega) _))) ?_ | with_reducible refine use (c2.out _ (by repeat (first | exact Below.refl _ _ | refine Below.later ?_ _ | refine Below.box ?_ _ | refine Below.drew ?_ | refine Below.put ?_ (by dsimp only; omega) _))) ?_); intro pw) | (go_at_call 36; (first | with_reducible refine use1 (c3.out _ (by repeat (first | exact Below.refl _ _ | refine Below.later ?_ _ | refine Below.box ?_ _ | refine Below.drew ?_ | refine Below.put ?_ (by dsimp only; omega) _))) ?_ | with_reducible refine use (c3.out _ (by repeat (first | exact Below.refl _ _ | refine Below.later ?_ _ | refine Below.box ?_ _ | refine Below.drew ?_ | refine Below.put ?_ (by dsimp only; omega) _))) ?_); intro pw) | (go_at_call 13; (first | with_reducible refine use1 (c4.out _ (by repeat (first | exact Below.refl _ _ | refine Below.later ?_ _ | refine Below.box ?_ _ | refine Below.drew ?_ | refine Below.put ?_ (by dsimp only; omega) _))) ?_ | with_reducible refine use (c4.out _ (by repeat (first | exact Below.refl _ _ | refine Below.later ?_ _ | refine Below.box ?_ _ | refine Below.drew ?_ | refine Below.put ?_ (by dsimp only; omega) _))) ?_); intro pw))
      exact bodyPost_ret (v := .tuple #[lay0, .bool false]) (by simp [results, Try.results17, go_sem, lay0]) rfl ⟨rfl, (by repeat (first | with_reducible exact Below.refl _ _ | with_reducible refine Below.later ?_ _ | with_reducible refine Below.box ?_ _ | with_reducible refine Below.drew ?_ | with_reducible refine Below.put ?_ (by dsimp only; omega) _))⟩
  · obtain rfl : R = false := by rw [← hR'.out]; simp; intro; omega
    have hV := hVf.out rfl
    subst hV
    have g2 : decide ((m : Int) > rows) = true := by simp; omega
    clear hR' hVf hVt
    go_enter Try.func17, Try.ntmps17
    go_wp2
    exact bodyPost_ret (v := .tuple #[lay0, .bool false]) (by simp [results, Try.results17, go_sem, lay0]) rfl ⟨rfl, (by repeat (first | with_reducible exact Below.refl _ _ | with_reducible refine Below.later ?_ _ | with_reducible refine Below.box ?_ _ | with_reducible refine Below.drew ?_ | with_reducible refine Below.put ?_ (by dsimp only; omega) _))⟩
end Go.Proofs.Ytpkjlnelkacbgaa
