/- layout.Points and moidoreref24.Points where the domains are there. -/
import Derived.Test.YtpkjlnelkacbgaaHPts
import Derived.Test.YtpkjlnelkacbgaaHTgt
import Derived.Deep.RegionHeld3
namespace Go.Proofs.Ytpkjlnelkacbgaa
open Go.RowKit Go.Sort

set_option maxRecDepth 100000
def GivesP (h d : List Int) (w : World) (e : Ending) (w' : World) : Prop := ∃ u1 c1 u2 c2, e = .returned (.tuple #[.slice u1 h.length c1, .slice u2 d.length c2]) ∧ Ls w' u1 h ∧ (u1 = none → c1 = 0) ∧ Ls w' u2 d ∧ (u2 = none → c2 = 0) ∧ Below w.heap.size w w'
theorem gen_ne {p : Int} (hv : vld p = true) : gen p % p ≠ 0 := by
  rcases vld_cases hv with h | h | h | h | h | h | h <;> subst h <;> decide

set_option maxHeartbeats 4000000 in
theorem lpoints_c (p q k s r p0 p1 p2 p3 : Int) (B N : Nat) (w : World) (hv : vld p = true) (oB : rootOk p B = true) (oN : rootOk p N = true) (hB : 1 ≤ B ∧ B ≤ 4096) (hN : 1 ≤ N ∧ N ≤ 4096) :
    Calls Try.prog 26 #[.agg #[.int .u64 p, .int .i64 (B : Int), .int .i64 q, .int .i64 k, .int .i64 (N : Int), .int .i64 s, .int .i64 r, .int .i64 p0, .int .i64 p1, .int .i64 p2, .int .i64 p3]] w (GivesP (domL p 1 B) (domL p (gen p) N) w) := by
  have hp := vld_pos hv
  have c1 : Kept (∀ w', Calls Try.prog 51 #[.agg #[.int .u64 p], .int .u64 1, .int .i64 (B : Int)] w' (GivesT (domL p 1 B) w')) := ⟨fun w' => ldomain_c p 1 B w' ⟨by decide, by decide⟩ oB hv hB.1 hB.2 (by rw [Int.emod_eq_of_lt (by omega) (by omega)]; decide)⟩
  have c2 : Kept (∀ w', Calls Try.prog 51 #[.agg #[.int .u64 p], .int .u64 (gen p), .int .i64 (N : Int)] w' (GivesT (domL p (gen p) N) w')) := ⟨fun w' => ldomain_c p (gen p) N w' ⟨(gen_lt hv).1, by have := (gen_lt hv).2; omega⟩ oN hv hN.1 hN.2 (gen_ne hv)⟩
  have cg : Kept (∀ w', Calls Try.prog 52 #[.agg #[.int .u64 p]] w' (Gives (.int .u64 (gen p)) w')) := ⟨fun w' => gen_c p w'⟩
  generalize domL p 1 B = H at *
  generalize domL p (gen p) N = D at *
  generalize gen p = g at *
  clear oB oN hv
  go_enter Try.func26, Try.ntmps26
  go_wp2_with (first | (go_at_call 51; refine (c1.out _).mono ?_; rintro e w4 ⟨u1, d1, rfl, hL1, hn1, hB1⟩; refine Stop.out ?_))
  refine ⟨?_⟩
  have s0 : w4.cell? ⟨w.heap.size, 4, none⟩ = some (.int .i64 (N : Int)) := by rw [hB1.cell (p := ⟨w.heap.size, 4, none⟩) (by simp)]; simp [go_sem]
  have s1 : w4.cell? ⟨w.heap.size + 1, 0, none⟩ = some (.int .u64 p) := by rw [hB1.cell (p := ⟨w.heap.size + 1, 0, none⟩) (by simp)]; simp [go_sem]
  have hB4 : Kept (Below w.heap.size w w4) := ⟨Below.next (by repeat (first | exact Below.refl _ _ | refine Below.later ?_ _ | refine Below.box ?_ _ | refine Below.drew ?_ | refine Below.put ?_ (by dsimp only; omega) _)) hB1⟩
  have lt1 : w.heap.size + 1 < w4.heap.size := by have := hB1.size; simp at this; omega
  have lt0 : w.heap.size < w4.heap.size := by omega
  have kL := (⟨hL1⟩ : Kept _)
  have kn := (⟨hn1⟩ : Kept _)
  have hS : Kept (∀ w', Below w4.heap.size w4 w' → w'.cell? ⟨w.heap.size, 4, none⟩ = some (.int .i64 (N : Int)) ∧ w'.cell? ⟨w.heap.size + 1, 0, none⟩ = some (.int .u64 p)) := ⟨fun w' hw => ⟨by rw [hw.cell (p := ⟨w.heap.size, 4, none⟩) lt0]; exact s0, by rw [hw.cell (p := ⟨w.heap.size + 1, 0, none⟩) lt1]; exact s1⟩⟩
  clear hB1 hL1 hn1
  go_wp2
  go_region_held3 (fun w' => w'.cell? ⟨w.heap.size, 4, none⟩ = some (.int .i64 (N : Int)) ∧ w'.cell? ⟨w.heap.size + 1, 0, none⟩ = some (.int .u64 p))
    (first | with_reducible exact hS.out _ hB5 | exact hS.out _ (by repeat (first | with_reducible exact Below.refl _ _ | with_reducible refine Below.later ?_ _ | with_reducible refine Below.drew ?_)))
    (first
      | (go_at_call 52; refine use (cg.out _) ?_; intro pw3)
      | (go_at_call 51; refine (c2.out _).mono ?_; rintro e w5 ⟨u2, d2, rfl, hL2, hn2, hB5⟩; replace hB5 := Below.next (show Below w4.heap.size w4 _ from (by repeat (first | exact Below.refl _ _ | refine Below.later ?_ _ | refine Below.box ?_ _ | refine Below.drew ?_ | refine Below.put ?_ (by dsimp only; omega) _))) hB5))
  all_goals (
    try with_reducible refine NoPanic.normal ?_
    go_split_ands
    have kB5 := (⟨hB5⟩ : Kept _)
    have kL2 := (⟨hL2⟩ : Kept _)
    have kn2 := (⟨hn2⟩ : Kept _)
    clear hB5 hL2 hn2
    go_wp2
    exact bodyPost_ret (v := .tuple #[.slice u1 H.length d1, .slice u2 D.length d2]) (by simp [results, Try.results26, go_sem]) rfl ⟨u1, d1, u2, d2, rfl, kL.out.below (Nat.le_refl _) kB5.out, kn.out, kL2.out, kn2.out, Below.next hB4.out kB5.out⟩)

set_option maxHeartbeats 4000000 in
theorem rpoints_c (p q k s r p0 p1 p2 p3 : Int) (B N : Nat) (w : World) (hv : vld p = true) (oB : rootOk p B = true) (oN : rootOk p N = true) (hB : 1 ≤ B ∧ B ≤ 4096) (hN : 1 ≤ N ∧ N ≤ 4096) :
    Calls Try.prog 27 #[.agg #[.int .u64 p, .int .i64 (B : Int), .int .i64 q, .int .i64 k, .int .i64 (N : Int), .int .i64 s, .int .i64 r, .int .i64 p0, .int .i64 p1, .int .i64 p2, .int .i64 p3]] w (GivesP (domL p 1 B) (domL p (gen p) N) w) := by
  have hp := vld_pos hv
  have c1 : Kept (∀ w', Calls Try.prog 53 #[.int .u64 p, .int .u64 1, .int .i64 (B : Int)] w' (GivesT (domL p 1 B) w')) := ⟨fun w' => rdomain_c p 1 B w' ⟨by decide, by decide⟩ oB hv hB.1 hB.2 (by rw [Int.emod_eq_of_lt (by omega) (by omega)]; decide)⟩
  have c2 : Kept (∀ w', Calls Try.prog 53 #[.int .u64 p, .int .u64 (gen p), .int .i64 (N : Int)] w' (GivesT (domL p (gen p) N) w')) := ⟨fun w' => rdomain_c p (gen p) N w' ⟨(gen_lt hv).1, by have := (gen_lt hv).2; omega⟩ oN hv hN.1 hN.2 (gen_ne hv)⟩
  have cg : Kept (∀ w', Calls Try.prog 54 #[.int .u64 p] w' (Gives (.int .u64 (gen p)) w')) := ⟨fun w' => rgen_c p w'⟩
  generalize domL p 1 B = H at *
  generalize domL p (gen p) N = D at *
  generalize gen p = g at *
  clear oB oN hv
  go_enter Try.func27, Try.ntmps27
  go_wp2_with (first | (go_at_call 53; refine (c1.out _).mono ?_; rintro e w4 ⟨u1, d1, rfl, hL1, hn1, hB1⟩; refine Stop.out ?_))
  refine ⟨?_⟩
  have s0 : w4.cell? ⟨w.heap.size, 4, none⟩ = some (.int .i64 (N : Int)) := by rw [hB1.cell (p := ⟨w.heap.size, 4, none⟩) (by simp)]; simp [go_sem]
  have s1 : w4.cell? ⟨w.heap.size, 0, none⟩ = some (.int .u64 p) := by rw [hB1.cell (p := ⟨w.heap.size, 0, none⟩) (by simp)]; simp [go_sem]
  have hB4 : Kept (Below w.heap.size w w4) := ⟨Below.next (by repeat (first | exact Below.refl _ _ | refine Below.later ?_ _ | refine Below.box ?_ _ | refine Below.drew ?_ | refine Below.put ?_ (by dsimp only; omega) _)) hB1⟩
  have lt0 : w.heap.size < w4.heap.size := by have := hB1.size; simp at this; omega
  have kL := (⟨hL1⟩ : Kept _)
  have kn := (⟨hn1⟩ : Kept _)
  have hS : Kept (∀ w', Below w4.heap.size w4 w' → w'.cell? ⟨w.heap.size, 4, none⟩ = some (.int .i64 (N : Int)) ∧ w'.cell? ⟨w.heap.size, 0, none⟩ = some (.int .u64 p)) := ⟨fun w' hw => ⟨by rw [hw.cell (p := ⟨w.heap.size, 4, none⟩) lt0]; exact s0, by rw [hw.cell (p := ⟨w.heap.size, 0, none⟩) lt0]; exact s1⟩⟩
  clear hB1 hL1 hn1
  go_wp2
  go_region_held3 (fun w' => w'.cell? ⟨w.heap.size, 4, none⟩ = some (.int .i64 (N : Int)) ∧ w'.cell? ⟨w.heap.size, 0, none⟩ = some (.int .u64 p))
    (first | with_reducible exact hS.out _ hB5 | exact hS.out _ (by repeat (first | with_reducible exact Below.refl _ _ | with_reducible refine Below.later ?_ _ | with_reducible refine Below.drew ?_)))
    (first
      | (go_at_call 54; refine use (cg.out _) ?_; intro pw3)
      | (go_at_call 53; refine (c2.out _).mono ?_; rintro e w5 ⟨u2, d2, rfl, hL2, hn2, hB5⟩; replace hB5 := Below.next (show Below w4.heap.size w4 _ from (by repeat (first | exact Below.refl _ _ | refine Below.later ?_ _ | refine Below.box ?_ _ | refine Below.drew ?_ | refine Below.put ?_ (by dsimp only; omega) _))) hB5))
  all_goals (
    try with_reducible refine NoPanic.normal ?_
    go_split_ands
    have kB5 := (⟨hB5⟩ : Kept _)
    have kL2 := (⟨hL2⟩ : Kept _)
    have kn2 := (⟨hn2⟩ : Kept _)
    clear hB5 hL2 hn2
    go_wp2
    exact bodyPost_ret (v := .tuple #[.slice u1 H.length d1, .slice u2 D.length d2]) (by simp [results, Try.results27, go_sem]) rfl ⟨u1, d1, u2, d2, rfl, kL.out.below (Nat.le_refl _) kB5.out, kn.out, kL2.out, kn2.out, Below.next hB4.out kB5.out⟩)
end Go.Proofs.Ytpkjlnelkacbgaa
