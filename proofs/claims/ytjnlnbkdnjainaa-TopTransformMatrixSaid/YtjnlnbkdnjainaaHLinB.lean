/- linear.Reduce, linear.Rank. -/
import Derived.Test.YtjnlnbkdnjainaaHLinA
import Derived.Test.YtjnlnbkdnjainaaHRed
import Derived.Test.YtjnlnbkdnjainaaHEl
import Derived.Deep.RegionHeld3
namespace Go.Proofs.Ytjnlnbkdnjainaa
open Go.RowKit Go.Sort

set_option maxRecDepth 100000
theorem call_genE {P : Program} {f : FuncId} {args : Array Value} {W : World} {R : Ending → World → Prop} (F : World → Prop) (hF : F W) (h : ∀ W', F W' → Calls P f args W' R) : Calls P f args W R := h W hF
theorem elF_lt {p : Int} {ls : List (List Int)} (hp : 0 < p) (i j : Nat) : 0 ≤ elF p ls i j ∧ elF p ls i j < p := ⟨Int.emod_nonneg _ (by omega), Int.emod_lt_of_pos _ hp⟩
def GivesRd (n : Nat) (m : Nat) (s : Es) (w : World) (e : Ending) (w' : World) : Prop := ∃ B bf cf u c, e = .returned (.tuple #[.slice (some ⟨B, 0, none⟩) n n, .slice u s.piv.length c]) ∧ Mx w w' B n m bf cf s.f ∧ w'.ownsRow w.heap.size 3 1 (.slice u s.piv.length c) s.piv.length (intsV s.piv)
theorem reduce_no (p : Int) (u : Option Addr) (c : Nat) (ls : List (List Int)) (w : World) (h1 : Mt w u ls) (hv : (vld p && vldM ls) = false) : Calls Try.prog 44 #[.agg #[.int .u64 p], .slice u ls.length c] w (Gives (.tuple #[.slice none 0 0, .slice none 0 0]) w) := by
  have hs := h1.small
  have cf : Kept (∀ w', Below w.heap.size w w' → Calls Try.prog 54 #[.agg #[.int .u64 p], .slice u ls.length c] w' (Gives (.bool false) w')) := ⟨fun w' hw => by have := fits_lc p u c ls w' (h1.below (Nat.le_refl _) hw); rw [hv] at this; exact this⟩
  generalize ls.length = n at *
  clear h1 hv
  go_enter Try.func44, Try.ntmps44
  go_wp2_with (first | (go_at_call 54; (first | with_reducible refine use1 (cf.out _ (by repeat (first | exact Below.refl _ _ | refine Below.later ?_ _ | refine Below.box ?_ _ | refine Below.drew ?_ | refine Below.put ?_ (by dsimp only; omega) _))) ?_ | with_reducible refine use (cf.out _ (by repeat (first | exact Below.refl _ _ | refine Below.later ?_ _ | refine Below.box ?_ _ | refine Below.drew ?_ | refine Below.put ?_ (by dsimp only; omega) _))) ?_); intro pw))
  go_ret2
  exact ⟨rfl, (by repeat (first | exact Below.refl _ _ | refine Below.later ?_ _ | refine Below.box ?_ _ | refine Below.drew ?_ | refine Below.put ?_ (by dsimp only; omega) _))⟩

set_option maxHeartbeats 4000000 in
theorem reduce_lc (p : Int) (n m : Nat) (u : Option Addr) (c : Nat) (ls : List (List Int)) (w : World) (h1 : Mt w u ls) (hv : vld p = true) (hM : vldM ls = true) (hn : ls.length = n) (hm : colsN ls = m) : Calls Try.prog 44 #[.agg #[.int .u64 p], .slice u n c] w (GivesRd n m (elR p n m (elF p ls)) w) := by
  have hp := vld_pos hv
  obtain ⟨g1, g2, g3⟩ := vldM_row hM
  have hs := h1.small
  have cf : Kept (∀ w', Below w.heap.size w w' → Calls Try.prog 54 #[.agg #[.int .u64 p], .slice u n c] w' (Gives (.bool true) w')) := ⟨fun w' hw => by have := fits_lc p u c ls w' (h1.below (Nat.le_refl _) hw); rw [hv, hM, hn] at this; exact this⟩
  have cc : Kept (∀ w', Below w.heap.size w w' → Calls Try.prog 55 #[.slice u n c] w' (Gives (.int .i64 (m : Int)) w')) := ⟨fun w' hw => by have := columns_c u c ls w' (h1.below (Nat.le_refl _) hw); rw [hn, hm] at this; exact this⟩
  have cr : Kept (∀ w', Below w.heap.size w w' → Calls Try.prog 57 #[.agg #[.int .u64 p], .slice u n c] w' (GivesM w' n m (elF p ls))) := ⟨fun w' hw => reduced_lc p n m u c ls w' hv (h1.below (Nat.le_refl _) hw) hn (by omega) (by omega) (fun l hl => by rw [g3 l hl, hm])⟩
  have ce : Kept (∀ W w' B bf cf, Mx W w' B n m bf cf (elF p ls) → Calls Try.prog 58 #[.agg #[.int .u64 p], .slice (some ⟨B, 0, none⟩) n n, .int .i64 (m : Int)] w' (GivesE W B n m (elR p n m (elF p ls)) w')) := ⟨fun W w' B bf cf hM => elim_c p n m m W w' B n bf cf _ hv (by omega) (by omega) (Nat.le_refl _) hM (fun i j _ _ => elF_lt (by omega) i j)⟩
  have hn6 : n ≤ 64 := by omega
  rw [hn] at hs
  generalize elR p n m (elF p ls) = es at *
  generalize elF p ls = F at *
  clear h1 hM hn hm g1 g2 g3
  go_enter Try.func44, Try.ntmps44
  go_wp2_with (first | (go_at_call 54; (first | with_reducible refine use1 (cf.out _ (by repeat (first | exact Below.refl _ _ | refine Below.later ?_ _ | refine Below.box ?_ _ | refine Below.drew ?_ | refine Below.put ?_ (by dsimp only; omega) _))) ?_ | with_reducible refine use (cf.out _ (by repeat (first | exact Below.refl _ _ | refine Below.later ?_ _ | refine Below.box ?_ _ | refine Below.drew ?_ | refine Below.put ?_ (by dsimp only; omega) _))) ?_); intro pw) | (go_at_call 57; refine Stop.out ?_))
  refine ⟨?_⟩
  refine call_genE (fun W' => Below w.heap.size w W' ∧ W'.cell? ⟨w.heap.size, 0, none⟩ = some (.int .u64 p) ∧ w.heap.size < W'.heap.size) ?fx ?_
  case fx => exact ⟨(by repeat (first | exact Below.refl _ _ | refine Below.later ?_ _ | refine Below.box ?_ _ | refine Below.drew ?_ | refine Below.put ?_ (by dsimp only; omega) _)), by simp [go_sem], by simp⟩
  rintro W1 ⟨hB1, hb1, hl1⟩
  refine (cr.out W1 hB1).mono ?_
  rintro e w2 ⟨B, bf, cf', rfl, hMx⟩
  have kB1 := (⟨hB1⟩ : Kept _)
  have kM := (⟨hMx⟩ : Kept _)
  have hb2 : w2.cell? ⟨w.heap.size, 0, none⟩ = some (.int .u64 p) := by rw [hMx.below.cell (p := ⟨w.heap.size, 0, none⟩) hl1]; exact hb1
  have hl2 : w.heap.size < w2.heap.size := by have := hMx.below.size; omega
  have hS : Kept (∀ w', Below W1.heap.size W1 w' → w'.cell? ⟨w.heap.size, 0, none⟩ = some (.int .u64 p)) := ⟨fun w' hw => by rw [hw.cell (p := ⟨w.heap.size, 0, none⟩) hl1]; exact hb1⟩
  clear hB1 hMx hb1 hl1
  go_wp2
  go_region_held3 (fun w' => w'.cell? ⟨w.heap.size, 0, none⟩ = some (.int .u64 p))
    (first | with_reducible exact hS.out _ hMe.below | exact hS.out _ (Below.next kM.out.below (by repeat (first | with_reducible exact Below.refl _ _ | with_reducible refine Below.later ?_ _ | with_reducible refine Below.drew ?_))))
    (first
      | (go_at_call 55; refine use (cc.out _ (Below.next kB1.out (Below.next kM.out.below (by repeat (first | exact Below.refl _ _ | refine Below.later ?_ _ | refine Below.box ?_ _ | refine Below.drew ?_ | refine Below.put ?_ (by dsimp only; omega) _))))) ?_; intro pw3)
      | (go_at_call 58; refine (ce.out W1 _ B bf cf' (kM.out.keep (by repeat (first | exact Below.refl _ _ | refine Below.later ?_ _ | refine Below.box ?_ _ | refine Below.drew ?_ | refine Below.put ?_ (by dsimp only; omega) _)))).mono ?_; rintro e w5 ⟨bf5, cf5, v5, rfl, hMe, hOe⟩))
  all_goals (
    try with_reducible refine NoPanic.normal ?_
    go_split_ands
    obtain ⟨u5, c5, rfl⟩ : ∃ u5 c5, v5 = .slice u5 es.piv.length c5 := by
      rcases hOe.2 with ⟨e, h0⟩ | ⟨g, cap, cur, e, _⟩
      · exact ⟨none, 0, by rw [e, h0]⟩
      · exact ⟨_, cap, e⟩
    have kMe := (⟨hMe⟩ : Kept _)
    have kOe : Kept (w5.ownsRow w.heap.size 3 1 (.slice u5 es.piv.length c5) es.piv.length (intsV es.piv)) := ⟨by
      refine ⟨hOe.1, ?_⟩
      rcases hOe.2 with e | ⟨g, cap, cur, e, hg, rest⟩
      · exact .inl e
      · exact .inr ⟨g, cap, cur, e, by have := hg; simp at this; omega, rest⟩⟩
    clear hMe hOe
    generalize hk : es.piv.length = k at *
    have kk := (⟨hk⟩ : Kept _)
    clear hk
    go_wp2
    exact bodyPost_ret (v := .tuple #[.slice (some ⟨B, 0, none⟩) n n, .slice u5 k c5]) (by simp [results, Try.results44, go_sem]) rfl ⟨B, bf5, cf5, u5, c5, by rw [kk.out], kMe.out.base kB1.out, by rw [kk.out]; exact kOe.out⟩)
end Go.Proofs.Ytjnlnbkdnjainaa
