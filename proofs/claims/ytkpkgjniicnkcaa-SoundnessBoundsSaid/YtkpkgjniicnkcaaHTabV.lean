/- table.Valid. -/
import Derived.Test.YtkpkgjniicnkcaaHTab
namespace Go.Proofs.Ytkpkgjniicnkcaa
open Go.RowKit Go.Sort

def tabB (p q n : Int) (rs : List Rw) : Bool := szB p q n && decide (rs.length ≤ 16384) && rs.all (rowB p n)

theorem tvalid_c (p q n : Int) (u : Option Addr) (c : Nat) (rs : List Rw) (w : World) (h1 : Rws w u rs) :
    Calls Try.prog 57 #[.agg #[.int .u64 p, .int .i64 q, .int .i64 n, .slice u rs.length c]] w (Gives (.bool (tabB p q n rs)) w) := by
  obtain ⟨m, hm⟩ : ∃ m, rs.length = m := ⟨_, rfl⟩
  have hs1 := h1.small
  have k1 := (⟨h1.get hm⟩ : Kept _)
  have e1 : Kept (rs.length = m) := ⟨hm⟩
  rw [hm] at hs1 ⊢
  cases hz : szB p q n
  · have hno : Kept (tabB p q n rs = false) := ⟨by simp [tabB, hz]⟩
    have cz : Kept (∀ w, Calls Try.prog 78 #[.agg #[.int .u64 p, .int .i64 q, .int .i64 n, .slice u m c]] w (Gives (.bool false) w)) := ⟨fun w => by have := validSizes_c p q n u m c w; rw [hz] at this; exact this⟩
    clear hz h1 hm k1 e1
    go_enter Try.func57, Try.ntmps57
    go_wp2_with (first | (go_at_call 78; (first | with_reducible refine use1 (cz.out _) ?_ | with_reducible refine use (cz.out _) ?_); intro pw))
    go_ret
    exact ⟨by rw [hno.out]; rfl, (by repeat (first | exact Below.refl _ _ | refine Below.later ?_ _ | refine Below.box ?_ _ | refine Below.drew ?_ | refine Below.put ?_ (by dsimp only; omega) _))⟩
  have cz : Kept (∀ w, Calls Try.prog 78 #[.agg #[.int .u64 p, .int .i64 q, .int .i64 n, .slice u m c]] w (Gives (.bool true) w)) := ⟨fun w => by have := validSizes_c p q n u m c w; rw [hz] at this; exact this⟩
  by_cases hl : m ≤ 16384
  · have hI0 : Kept (tabB p q n rs = rs.all (rowB p n)) := ⟨by simp [tabB, hz, hm, hl]⟩
    clear hz h1 hm
    go_enter Try.func57, Try.ntmps57
    go_wp2_with (first | (go_at_call 78; (first | with_reducible refine use1 (cz.out _) ?_ | with_reducible refine use (cz.out _) ?_); intro pw))
    go_loopw [17] (fun v wr => ∃ (k : Nat), v = .int .i64 (k : Int) ∧ Below (w.alloc (.cells #[.int .u64 p, .int .i64 q, .int .i64 n, .slice u m c] 33)).heap.size (w.alloc (.cells #[.int .u64 p, .int .i64 q, .int .i64 n, .slice u m c] 33)) wr ∧ k ≤ m ∧ Kept (rs.all (rowB p n) = (rs.drop k).all (rowB p n))) (fun v _ => (m : Int).toNat - (intOf v).toNat)
    case atStart => exact ⟨0, rfl, (by repeat (first | exact Below.refl _ _ | refine Below.later ?_ _ | refine Below.box ?_ _ | refine Below.drew ?_ | refine Below.put ?_ (by dsimp only; omega) _)), by omega, ⟨by simp⟩⟩
    case round =>
      obtain ⟨k, rfl, hBr, hk, hI⟩ := hrel
      obtain ⟨q0, rfl⟩ := after_of hBr
      clear hBr
      by_cases h : k < m
      · obtain ⟨b1, o1, x, rfl, hx1, hb1, hc1, hc2, hc3, ha, hb, hc⟩ := k1.out k h
        have hall : Kept (rs.all (rowB p n) = (rowB p n x && (rs.drop (k + 1)).all (rowB p n))) := ⟨by rw [hI.out, drop_next hx1]; rfl⟩
        have cr : Kept (∀ w', Below w.heap.size w w' → Calls Try.prog 79 #[.agg #[.int .u64 p, .int .i64 q, .int .i64 n, .slice (some ⟨b1, o1, none⟩) m c], .agg #[x.a.v, x.b.v, x.c.v]] w' (Gives (.bool (rowB p n x)) w')) := ⟨fun w' hw' =>
          validRow_c p q n _ m c x w' (ha.below (Nat.le_refl _) hw') (hb.below (Nat.le_refl _) hw') (hc.below (Nat.le_refl _) hw')⟩
        clear hI hx1 k1 ha hb hc
        generalize rowB p n x = rx at *
        simp only [Lin.v] at *
        generalize x.a.l.length = an at *
        generalize x.b.l.length = bn at *
        generalize x.c.l.length = cn at *
        generalize x.a.u = au at *
        generalize x.b.u = bu at *
        generalize x.c.u = cu at *
        generalize x.a.c = ac at *
        generalize x.b.c = bc at *
        generalize x.c.c = cc at *
        cases rx
        · have hno : Kept (tabB p q n rs = false) := ⟨by rw [hI0.out, hall.out]; rfl⟩
          clear hall hI0
          go_wp2_with (first | (go_at_call 79; (first | with_reducible refine use1 (cr.out _ ((by repeat (first | exact Below.refl _ _ | refine Below.later ?_ _ | refine Below.box ?_ _ | refine Below.drew ?_ | refine Below.put ?_ (by dsimp only; omega) _)))) ?_ | with_reducible refine use (cr.out _ ((by repeat (first | exact Below.refl _ _ | refine Below.later ?_ _ | refine Below.box ?_ _ | refine Below.drew ?_ | refine Below.put ?_ (by dsimp only; omega) _)))) ?_); intro pw))
          go_ret
          exact ⟨by rw [hno.out]; rfl, (by repeat (first | exact Below.refl _ _ | refine Below.later ?_ _ | refine Below.box ?_ _ | refine Below.drew ?_ | refine Below.put ?_ (by dsimp only; omega) _))⟩
        · have hI2 : Kept (rs.all (rowB p n) = (rs.drop (k + 1)).all (rowB p n)) := ⟨by rw [hall.out]; rfl⟩
          clear hall
          go_wp2_with (first | (go_at_call 79; (first | with_reducible refine use1 (cr.out _ ((by repeat (first | exact Below.refl _ _ | refine Below.later ?_ _ | refine Below.box ?_ _ | refine Below.drew ?_ | refine Below.put ?_ (by dsimp only; omega) _)))) ?_ | with_reducible refine use (cr.out _ ((by repeat (first | exact Below.refl _ _ | refine Below.later ?_ _ | refine Below.box ?_ _ | refine Below.drew ?_ | refine Below.put ?_ (by dsimp only; omega) _)))) ?_); intro pw))
          go_roundw
          case rel => exact ⟨k + 1, by go_num, (by repeat (first | exact Below.refl _ _ | refine Below.later ?_ _ | refine Below.box ?_ _ | refine Below.drew ?_ | refine Below.put ?_ (by dsimp only; omega) _)), by omega, hI2⟩
          case measure => first | (simp [intOf]; omega) | (simp [intOf]; done)
      · have hno : Kept (tabB p q n rs = true) := ⟨by rw [hI0.out, hI.out, List.drop_eq_nil_of_le (by have := e1.out; omega)]; rfl⟩
        clear hI k1
        go_wp2
        go_ret
        exact ⟨by rw [hno.out]; rfl, (by repeat (first | exact Below.refl _ _ | refine Below.later ?_ _ | refine Below.box ?_ _ | refine Below.drew ?_ | refine Below.put ?_ (by dsimp only; omega) _))⟩
  · have hno : Kept (tabB p q n rs = false) := ⟨by simp [tabB, hm, hl]⟩
    clear hz h1 hm k1 e1
    go_enter Try.func57, Try.ntmps57
    go_wp2_with (first | (go_at_call 78; (first | with_reducible refine use1 (cz.out _) ?_ | with_reducible refine use (cz.out _) ?_); intro pw))
    go_ret
    exact ⟨by rw [hno.out]; rfl, (by repeat (first | exact Below.refl _ _ | refine Below.later ?_ _ | refine Below.box ?_ _ | refine Below.drew ?_ | refine Below.put ?_ (by dsimp only; omega) _))⟩
end Go.Proofs.Ytkpkgjniicnkcaa
