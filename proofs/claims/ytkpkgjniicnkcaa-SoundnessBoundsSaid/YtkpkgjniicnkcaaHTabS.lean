/- The reference's row, Valid; Small, Assignment. -/
import Derived.Test.YtkpkgjniicnkcaaHTabR
import Derived.Test.YtkpkgjniicnkcaaHTabV
import Derived.Test.YtkpkgjniicnkcaaQB
namespace Go.Proofs.Ytkpkgjniicnkcaa
open Go.RowKit Go.Sort

theorem rrow_c (p q n : Int) (ur : Option Addr) (nr cr : Nat) (x : Rw) (w : World) (ha : Tm w x.a.u x.a.l) (hb : Tm w x.b.u x.b.l) (hc : Tm w x.c.u x.c.l) :
    Calls Try.prog 62 #[.agg #[.int .u64 p, .int .i64 q, .int .i64 n, .slice ur nr cr], .agg #[x.a.v, x.b.v, x.c.v]] w (Gives (.bool (rowB p n x)) w) := by
  obtain ⟨⟨au, ac, al⟩, ⟨bu, bc, bl⟩, ⟨cu, cc, cl⟩⟩ := x
  simp only [Lin.v, rowB] at *
  obtain ⟨tb, hB⟩ : ∃ t, linB p n (-1) bl = t := ⟨_, rfl⟩
  obtain ⟨tc, hC⟩ : ∃ t, linB p n (-1) cl = t := ⟨_, rfl⟩
  obtain ⟨ta, hA⟩ : ∃ t, linB p n (-1) al = t := ⟨_, rfl⟩
  have c1 : Kept (∀ w', Below w.heap.size w w' → Calls Try.prog 82 #[.int .u64 p, .slice au al.length ac, .int .i64 n] w' (Gives (.bool ta) w')) := ⟨fun w' h => by
    have := rlinear_c p n au ac al w' (ha.below (Nat.le_refl _) h); rw [hA] at this; exact this⟩
  have c2 : Kept (∀ w', Below w.heap.size w w' → Calls Try.prog 82 #[.int .u64 p, .slice bu bl.length bc, .int .i64 n] w' (Gives (.bool tb) w')) := ⟨fun w' h => by
    have := rlinear_c p n bu bc bl w' (hb.below (Nat.le_refl _) h); rw [hB] at this; exact this⟩
  have c3 : Kept (∀ w', Below w.heap.size w w' → Calls Try.prog 82 #[.int .u64 p, .slice cu cl.length cc, .int .i64 n] w' (Gives (.bool tc) w')) := ⟨fun w' h => by
    have := rlinear_c p n cu cc cl w' (hc.below (Nat.le_refl _) h); rw [hC] at this; exact this⟩
  rw [hA, hB, hC]
  generalize al.length = an at *
  generalize bl.length = bn at *
  generalize cl.length = cn at *
  clear hA hB hC ha hb hc
  go_enter Try.func62, Try.ntmps62
  cases ta
  · go_wp2_with (first | (go_at_call 82; (first | with_reducible refine use1 (c1.out _ (by repeat (first | exact Below.refl _ _ | refine Below.later ?_ _ | refine Below.box ?_ _ | refine Below.drew ?_ | refine Below.put ?_ (by dsimp only; omega) _))) ?_ | with_reducible refine use (c1.out _ (by repeat (first | exact Below.refl _ _ | refine Below.later ?_ _ | refine Below.box ?_ _ | refine Below.drew ?_ | refine Below.put ?_ (by dsimp only; omega) _))) ?_); intro pw))
    go_ret
    exact ⟨rfl, (by repeat (first | exact Below.refl _ _ | refine Below.later ?_ _ | refine Below.box ?_ _ | refine Below.drew ?_ | refine Below.put ?_ (by dsimp only; omega) _))⟩
  cases tb
  · go_wp2_with (first | (go_at_call 82; (first | with_reducible refine use1 (c1.out _ (by repeat (first | exact Below.refl _ _ | refine Below.later ?_ _ | refine Below.box ?_ _ | refine Below.drew ?_ | refine Below.put ?_ (by dsimp only; omega) _))) ?_ | with_reducible refine use (c1.out _ (by repeat (first | exact Below.refl _ _ | refine Below.later ?_ _ | refine Below.box ?_ _ | refine Below.drew ?_ | refine Below.put ?_ (by dsimp only; omega) _))) ?_); intro pw) | (go_at_call 82; (first | with_reducible refine use1 (c2.out _ (by repeat (first | exact Below.refl _ _ | refine Below.later ?_ _ | refine Below.box ?_ _ | refine Below.drew ?_ | refine Below.put ?_ (by dsimp only; omega) _))) ?_ | with_reducible refine use (c2.out _ (by repeat (first | exact Below.refl _ _ | refine Below.later ?_ _ | refine Below.box ?_ _ | refine Below.drew ?_ | refine Below.put ?_ (by dsimp only; omega) _))) ?_); intro pw))
    go_ret
    exact ⟨rfl, (by repeat (first | exact Below.refl _ _ | refine Below.later ?_ _ | refine Below.box ?_ _ | refine Below.drew ?_ | refine Below.put ?_ (by dsimp only; omega) _))⟩
  cases tc
  · go_wp2_with (first | (go_at_call 82; (first | with_reducible refine use1 (c1.out _ (by repeat (first | exact Below.refl _ _ | refine Below.later ?_ _ | refine Below.box ?_ _ | refine Below.drew ?_ | refine Below.put ?_ (by dsimp only; omega) _))) ?_ | with_reducible refine use (c1.out _ (by repeat (first | exact Below.refl _ _ | refine Below.later ?_ _ | refine Below.box ?_ _ | refine Below.drew ?_ | refine Below.put ?_ (by dsimp only; omega) _))) ?_); intro pw) | (go_at_call 82; (first | with_reducible refine use1 (c2.out _ (by repeat (first | exact Below.refl _ _ | refine Below.later ?_ _ | refine Below.box ?_ _ | refine Below.drew ?_ | refine Below.put ?_ (by dsimp only; omega) _))) ?_ | with_reducible refine use (c2.out _ (by repeat (first | exact Below.refl _ _ | refine Below.later ?_ _ | refine Below.box ?_ _ | refine Below.drew ?_ | refine Below.put ?_ (by dsimp only; omega) _))) ?_); intro pw) | (go_at_call 82; (first | with_reducible refine use1 (c3.out _ (by repeat (first | exact Below.refl _ _ | refine Below.later ?_ _ | refine Below.box ?_ _ | refine Below.drew ?_ | refine Below.put ?_ (by dsimp only; omega) _))) ?_ | with_reducible refine use (c3.out _ (by repeat (first | exact Below.refl _ _ | refine Below.later ?_ _ | refine Below.box ?_ _ | refine Below.drew ?_ | refine Below.put ?_ (by dsimp only; omega) _))) ?_); intro pw))
    go_ret
    exact ⟨rfl, (by repeat (first | exact Below.refl _ _ | refine Below.later ?_ _ | refine Below.box ?_ _ | refine Below.drew ?_ | refine Below.put ?_ (by dsimp only; omega) _))⟩
  · go_wp2_with (first | (go_at_call 82; (first | with_reducible refine use1 (c1.out _ (by repeat (first | exact Below.refl _ _ | refine Below.later ?_ _ | refine Below.box ?_ _ | refine Below.drew ?_ | refine Below.put ?_ (by dsimp only; omega) _))) ?_ | with_reducible refine use (c1.out _ (by repeat (first | exact Below.refl _ _ | refine Below.later ?_ _ | refine Below.box ?_ _ | refine Below.drew ?_ | refine Below.put ?_ (by dsimp only; omega) _))) ?_); intro pw) | (go_at_call 82; (first | with_reducible refine use1 (c2.out _ (by repeat (first | exact Below.refl _ _ | refine Below.later ?_ _ | refine Below.box ?_ _ | refine Below.drew ?_ | refine Below.put ?_ (by dsimp only; omega) _))) ?_ | with_reducible refine use (c2.out _ (by repeat (first | exact Below.refl _ _ | refine Below.later ?_ _ | refine Below.box ?_ _ | refine Below.drew ?_ | refine Below.put ?_ (by dsimp only; omega) _))) ?_); intro pw) | (go_at_call 82; (first | with_reducible refine use1 (c3.out _ (by repeat (first | exact Below.refl _ _ | refine Below.later ?_ _ | refine Below.box ?_ _ | refine Below.drew ?_ | refine Below.put ?_ (by dsimp only; omega) _))) ?_ | with_reducible refine use (c3.out _ (by repeat (first | exact Below.refl _ _ | refine Below.later ?_ _ | refine Below.box ?_ _ | refine Below.drew ?_ | refine Below.put ?_ (by dsimp only; omega) _))) ?_); intro pw))
    go_ret
    exact ⟨rfl, (by repeat (first | exact Below.refl _ _ | refine Below.later ?_ _ | refine Below.box ?_ _ | refine Below.drew ?_ | refine Below.put ?_ (by dsimp only; omega) _))⟩

set_option maxHeartbeats 2000000 in
theorem rtvalid_c (p q n : Int) (u : Option Addr) (c : Nat) (rs : List Rw) (w : World) (h1 : Rws w u rs) :
    Calls Try.prog 34 #[.agg #[.int .u64 p, .int .i64 q, .int .i64 n, .slice u rs.length c]] w (Gives (.bool (tabB p q n rs)) w) := by
  obtain ⟨m, hm⟩ : ∃ m, rs.length = m := ⟨_, rfl⟩
  have hs1 := h1.small
  have k1 := (⟨h1.get hm⟩ : Kept _)
  have e1 : Kept (rs.length = m) := ⟨hm⟩
  rw [hm] at hs1 ⊢
  cases hv : vld p
  · have hno : Kept (tabB p q n rs = false) := ⟨by simp [tabB, szB, hv]⟩
    have cv : Kept (∀ w, Calls Try.prog 61 #[.int .u64 p] w (Gives (.bool false) w)) := ⟨fun w => by have := rvalid_c p w; rw [hv] at this; exact this⟩
    clear hv h1 hm k1 e1
    go_enter Try.func34, Try.ntmps34
    go_wp2_with (first | (go_at_call 61; (first | with_reducible refine use1 (cv.out _) ?_ | with_reducible refine use (cv.out _) ?_); intro pw))
    go_ret
    exact ⟨by rw [hno.out]; rfl, (by repeat (first | exact Below.refl _ _ | refine Below.later ?_ _ | refine Below.box ?_ _ | refine Below.drew ?_ | refine Below.put ?_ (by dsimp only; omega) _))⟩
  have cv : Kept (∀ w, Calls Try.prog 61 #[.int .u64 p] w (Gives (.bool true) w)) := ⟨fun w => by have := rvalid_c p w; rw [hv] at this; exact this⟩
  by_cases g1 : q < 0
  · have hno : Kept (tabB p q n rs = false) := ⟨by rw [tabB, szB, hm, show decide (0 ≤ q) = false from by simp; omega]; simp⟩
    clear hv h1 hm k1 e1
    go_enter Try.func34, Try.ntmps34
    go_wp2_with (first | (go_at_call 61; (first | with_reducible refine use1 (cv.out _) ?_ | with_reducible refine use (cv.out _) ?_); intro pw))
    go_ret
    exact ⟨by rw [hno.out]; rfl, (by repeat (first | exact Below.refl _ _ | refine Below.later ?_ _ | refine Below.box ?_ _ | refine Below.drew ?_ | refine Below.put ?_ (by dsimp only; omega) _))⟩
  by_cases g2 : q ≥ n
  · have hno : Kept (tabB p q n rs = false) := ⟨by rw [tabB, szB, hm, show decide (q < n) = false from by simp; omega]; simp⟩
    clear hv h1 hm k1 e1
    go_enter Try.func34, Try.ntmps34
    go_wp2_with (first | (go_at_call 61; (first | with_reducible refine use1 (cv.out _) ?_ | with_reducible refine use (cv.out _) ?_); intro pw))
    go_ret
    exact ⟨by rw [hno.out]; rfl, (by repeat (first | exact Below.refl _ _ | refine Below.later ?_ _ | refine Below.box ?_ _ | refine Below.drew ?_ | refine Below.put ?_ (by dsimp only; omega) _))⟩
  by_cases g3 : n > 65536
  · have hno : Kept (tabB p q n rs = false) := ⟨by rw [tabB, szB, hm, show decide (n ≤ 65536) = false from by simp; omega]; simp⟩
    clear hv h1 hm k1 e1
    go_enter Try.func34, Try.ntmps34
    go_wp2_with (first | (go_at_call 61; (first | with_reducible refine use1 (cv.out _) ?_ | with_reducible refine use (cv.out _) ?_); intro pw))
    go_ret
    exact ⟨by rw [hno.out]; rfl, (by repeat (first | exact Below.refl _ _ | refine Below.later ?_ _ | refine Below.box ?_ _ | refine Below.drew ?_ | refine Below.put ?_ (by dsimp only; omega) _))⟩
  by_cases g4 : m > 16384
  · have hno : Kept (tabB p q n rs = false) := ⟨by rw [tabB, szB, hm, show decide (m ≤ 16384) = false from by simp; omega]; simp⟩
    clear hv h1 hm k1 e1
    go_enter Try.func34, Try.ntmps34
    go_wp2_with (first | (go_at_call 61; (first | with_reducible refine use1 (cv.out _) ?_ | with_reducible refine use (cv.out _) ?_); intro pw))
    go_ret
    exact ⟨by rw [hno.out]; rfl, (by repeat (first | exact Below.refl _ _ | refine Below.later ?_ _ | refine Below.box ?_ _ | refine Below.drew ?_ | refine Below.put ?_ (by dsimp only; omega) _))⟩
  have hI0 : Kept (tabB p q n rs = rs.all (rowB p n)) := ⟨by rw [tabB, szB, hv, hm, show decide (0 ≤ q) = true from by simp; omega, show decide (q < n) = true from by simp; omega, show decide (n ≤ 65536) = true from by simp; omega, show decide (m ≤ 16384) = true from by simp; omega]; simp⟩
  clear hv h1 hm
  go_enter Try.func34, Try.ntmps34
  go_wp2_with (first | (go_at_call 61; (first | with_reducible refine use1 (cv.out _) ?_ | with_reducible refine use (cv.out _) ?_); intro pw))
  go_loopw [3] (fun v wr => ∃ (k : Nat), v = .int .i64 (k : Int) ∧ Below (w.alloc (.cells #[.int .u64 p, .int .i64 q, .int .i64 n, .slice u m c] 33)).heap.size (w.alloc (.cells #[.int .u64 p, .int .i64 q, .int .i64 n, .slice u m c] 33)) wr ∧ k ≤ m ∧ Kept (rs.all (rowB p n) = (rs.drop k).all (rowB p n))) (fun v _ => (m : Int).toNat - (intOf v).toNat)
  case atStart => exact ⟨0, rfl, (by repeat (first | exact Below.refl _ _ | refine Below.later ?_ _ | refine Below.box ?_ _ | refine Below.drew ?_ | refine Below.put ?_ (by dsimp only; omega) _)), by omega, ⟨by simp⟩⟩
  case round =>
    obtain ⟨k, rfl, hBr, hk, hI⟩ := hrel
    obtain ⟨q0, rfl⟩ := after_of hBr
    clear hBr
    by_cases h : k < m
    · obtain ⟨b1, o1, x, rfl, hx1, hb1, hc1, hc2, hc3, ha, hb, hc⟩ := k1.out k h
      have hall : Kept (rs.all (rowB p n) = (rowB p n x && (rs.drop (k + 1)).all (rowB p n))) := ⟨by rw [hI.out, drop_next hx1]; rfl⟩
      have cr : Kept (∀ w', Below w.heap.size w w' → Calls Try.prog 62 #[.agg #[.int .u64 p, .int .i64 q, .int .i64 n, .slice (some ⟨b1, o1, none⟩) m c], .agg #[x.a.v, x.b.v, x.c.v]] w' (Gives (.bool (rowB p n x)) w')) := ⟨fun w' hw' =>
        rrow_c p q n _ m c x w' (ha.below (Nat.le_refl _) hw') (hb.below (Nat.le_refl _) hw') (hc.below (Nat.le_refl _) hw')⟩
      clear hI hx1 k1 ha hb hc
      generalize rowB p n x = rx at *
      simp only [Lin.v] at *
      generalize x.a.l.length = an at *
      generalize x.b.l.length = bn at *
      generalize x.c.l.length = cn at *
      generalize x.a.u = au at *
      generalize x.b.u = bu at *
      generalize x.c.u = cu at *
      generalize x.a.c = ac at *
      generalize x.b.c = bc at *
      generalize x.c.c = cc at *
      cases rx
      · have hno : Kept (tabB p q n rs = false) := ⟨by rw [hI0.out, hall.out]; rfl⟩
        clear hall hI0
        go_wp2_with (first | (go_at_call 62; (first | with_reducible refine use1 (cr.out _ ((by repeat (first | exact Below.refl _ _ | refine Below.later ?_ _ | refine Below.box ?_ _ | refine Below.drew ?_ | refine Below.put ?_ (by dsimp only; omega) _)))) ?_ | with_reducible refine use (cr.out _ ((by repeat (first | exact Below.refl _ _ | refine Below.later ?_ _ | refine Below.box ?_ _ | refine Below.drew ?_ | refine Below.put ?_ (by dsimp only; omega) _)))) ?_); intro pw))
        first | refine region_quiet1 (by kernel_rfl) ?_ | refine region_quiet (by kernel_rfl) ?_
        repeat (go_big_quiet_step (first | (go_at_call 62; with_reducible exact quiet (cr.out _ ((by repeat (first | exact Below.refl _ _ | refine Below.later ?_ _ | refine Below.box ?_ _ | refine Below.drew ?_ | refine Below.put ?_ (by dsimp only; omega) _)))))))
        refine wpQuiet_nil ?_
        intro _
        go_wp2
        go_ret
        exact ⟨by rw [hno.out]; rfl, (by repeat (first | exact Below.refl _ _ | refine Below.later ?_ _ | refine Below.box ?_ _ | refine Below.drew ?_ | refine Below.put ?_ (by dsimp only; omega) _))⟩
      · have hI2 : Kept (rs.all (rowB p n) = (rs.drop (k + 1)).all (rowB p n)) := ⟨by rw [hall.out]; rfl⟩
        clear hall
        go_wp2_with (first | (go_at_call 62; (first | with_reducible refine use1 (cr.out _ ((by repeat (first | exact Below.refl _ _ | refine Below.later ?_ _ | refine Below.box ?_ _ | refine Below.drew ?_ | refine Below.put ?_ (by dsimp only; omega) _)))) ?_ | with_reducible refine use (cr.out _ ((by repeat (first | exact Below.refl _ _ | refine Below.later ?_ _ | refine Below.box ?_ _ | refine Below.drew ?_ | refine Below.put ?_ (by dsimp only; omega) _)))) ?_); intro pw))
        first | refine region_quiet1 (by kernel_rfl) ?_ | refine region_quiet (by kernel_rfl) ?_
        repeat (go_big_quiet_step (first | (go_at_call 62; with_reducible exact quiet (cr.out _ ((by repeat (first | exact Below.refl _ _ | refine Below.later ?_ _ | refine Below.box ?_ _ | refine Below.drew ?_ | refine Below.put ?_ (by dsimp only; omega) _)))))))
        refine wpQuiet_nil ?_
        intro _
        go_wp2
        go_roundw
        case rel => exact ⟨k + 1, by go_num, (by repeat (first | exact Below.refl _ _ | refine Below.later ?_ _ | refine Below.box ?_ _ | refine Below.drew ?_ | refine Below.put ?_ (by dsimp only; omega) _)), by omega, hI2⟩
        case measure => first | (simp [intOf]; omega) | (simp [intOf]; done)
    · have hno : Kept (tabB p q n rs = true) := ⟨by rw [hI0.out, hI.out, List.drop_eq_nil_of_le (by have := e1.out; omega)]; rfl⟩
      clear hI k1
      go_wp2
      go_ret
      exact ⟨by rw [hno.out]; rfl, (by repeat (first | exact Below.refl _ _ | refine Below.later ?_ _ | refine Below.box ?_ _ | refine Below.drew ?_ | refine Below.put ?_ (by dsimp only; omega) _))⟩

end Go.Proofs.Ytkpkgjniicnkcaa
