/- soundness.differences: no rows of X; then whatever there is. -/
import Derived.Test.YtkpkgjniicnkcaaHDig
namespace Go.Proofs.Ytkpkgjniicnkcaa
open Go.RowKit Go.Sort

set_option maxRecDepth 100000 in
set_option maxHeartbeats 4000000 in
theorem dif_none_c (b p0 : Nat) (p q k n s r : Int) (u : Option Addr) (c : Nat) (ls : List (List Int)) (w : World) (hp0 : p0 ≤ 70000) (hu : (u = none ∧ c = 0) ∨ ∃ mb mo, u = some ⟨mb, mo, none⟩) (h1 : Mt w u ls) (hlen : ls.length = p0) (hc : ls.length ≤ c) (hfull : ∀ l ∈ ls, l.length = b) :
    Calls Try.prog 37 #[.agg #[.int .u64 p, .int .i64 (b : Int), .int .i64 q, .int .i64 k, .int .i64 n, .int .i64 s, .int .i64 r, .int .i64 (p0 : Nat), .int .i64 0, .int .i64 0, .int .i64 0], .slice u ls.length c] w
      (fun e w' => ∃ G, e = .returned (.slice (some ⟨G, 0, none⟩) 0 0) ∧ Below w.heap.size w w') := by
  have ct : Kept (∀ w, Calls Try.prog 43 #[.agg #[.int .u64 p, .int .i64 (b : Int), .int .i64 q, .int .i64 k, .int .i64 n, .int .i64 s, .int .i64 r, .int .i64 (p0 : Nat), .int .i64 0, .int .i64 0, .int .i64 0]] w (Gives (.int .i64 (p0 : Int)) w)) := ⟨fun w => by
    have := total_c p b q k n s r p0 0 0 0 w (by omega) (by omega) (by omega) (by omega)
    simpa using this⟩
  have hfb : fullB (b : Int) ls = true := by rw [fullB, List.all_eq_true]; intro l hl; simp [hfull l hl]
  have cf : Kept (∀ w', Below w.heap.size w w' → Calls Try.prog 44 #[.agg #[.int .u64 p, .int .i64 (b : Int), .int .i64 q, .int .i64 k, .int .i64 n, .int .i64 s, .int .i64 r, .int .i64 (p0 : Nat), .int .i64 0, .int .i64 0, .int .i64 0], .slice u ls.length c] w' (Gives (.bool true) w')) := ⟨fun w' hw => by
    have := full_c p b q k n s r p0 0 0 0 u c ls w' (h1.below (Nat.le_refl _) hw)
    rw [hfb] at this; exact this⟩
  have hmk2 := run_make_row' (P := Try.prog) 53 36 (.slice none 0 0) 24 Try.underlying53 (by kernel_rfl) rfl .i64 .i64 0 (by omega) (by omega)
  have hmk3 : ∀ w, Sem.run Try.prog (Instr.makeSlice 53 (.int .i64 0) (.int .i64 0)) w = .ok (.slice (some ⟨w.heap.size, 0, none⟩) 0 0) (w.alloc (.cells (madeCells #[.slice none 0 0] 0) 36)) := hmk2
  clear hmk2
  rw [hlen] at cf hc ⊢
  clear h1 hlen hfull hfb
  rcases hu with ⟨rfl, rfl⟩ | ⟨mb, mo, rfl⟩
  · obtain rfl : p0 = 0 := by omega
    go_enter Try.func37, Try.ntmps37
    go_wp2_with (first | (go_at_call 43; (first | with_reducible refine use1 (ct.out _) ?_ | with_reducible refine use (ct.out _) ?_); intro pw) | (go_at_call 44; (first | with_reducible refine use1 (cf.out _ (by repeat (first | exact Below.refl _ _ | refine Below.later ?_ _ | refine Below.box ?_ _ | refine Below.drew ?_ | refine Below.put ?_ (by dsimp only; omega) _))) ?_ | with_reducible refine use (cf.out _ (by repeat (first | exact Below.refl _ _ | refine Below.later ?_ _ | refine Below.box ?_ _ | refine Below.drew ?_ | refine Below.put ?_ (by dsimp only; omega) _))) ?_); intro pw))
    go_loopw [47] (fun v wr => v = .int .i64 0 ∧ Below w.heap.size w wr) (fun v _ => 0)
    case atStart => exact ⟨rfl, (by repeat (first | exact Below.refl _ _ | refine Below.later ?_ _ | refine Below.box ?_ _ | refine Below.drew ?_ | refine Below.put ?_ (by dsimp only; omega) _))⟩
    case round =>
      obtain ⟨rfl, hB⟩ := hrel
      go_wp2
      go_ret
      exact ⟨_, rfl, hB⟩
  · by_cases hcp : c = p0
    · subst hcp
      go_enter Try.func37, Try.ntmps37
      go_wp2_with (first | (go_at_call 43; (first | with_reducible refine use1 (ct.out _) ?_ | with_reducible refine use (ct.out _) ?_); intro pw) | (go_at_call 44; (first | with_reducible refine use1 (cf.out _ (by repeat (first | exact Below.refl _ _ | refine Below.later ?_ _ | refine Below.box ?_ _ | refine Below.drew ?_ | refine Below.put ?_ (by dsimp only; omega) _))) ?_ | with_reducible refine use (cf.out _ (by repeat (first | exact Below.refl _ _ | refine Below.later ?_ _ | refine Below.box ?_ _ | refine Below.drew ?_ | refine Below.put ?_ (by dsimp only; omega) _))) ?_); intro pw))
      go_loopw [47] (fun v wr => v = .int .i64 0 ∧ Below w.heap.size w wr) (fun v _ => 0)
      case atStart => exact ⟨rfl, (by repeat (first | exact Below.refl _ _ | refine Below.later ?_ _ | refine Below.box ?_ _ | refine Below.drew ?_ | refine Below.put ?_ (by dsimp only; omega) _))⟩
      case round =>
        obtain ⟨rfl, hB⟩ := hrel
        go_wp2
        go_ret
        exact ⟨_, rfl, hB⟩
    · have hne : ¬ c - p0 = 0 := by omega
      go_enter Try.func37, Try.ntmps37
      go_wp2_with (first | (go_at_call 43; (first | with_reducible refine use1 (ct.out _) ?_ | with_reducible refine use (ct.out _) ?_); intro pw) | (go_at_call 44; (first | with_reducible refine use1 (cf.out _ (by repeat (first | exact Below.refl _ _ | refine Below.later ?_ _ | refine Below.box ?_ _ | refine Below.drew ?_ | refine Below.put ?_ (by dsimp only; omega) _))) ?_ | with_reducible refine use (cf.out _ (by repeat (first | exact Below.refl _ _ | refine Below.later ?_ _ | refine Below.box ?_ _ | refine Below.drew ?_ | refine Below.put ?_ (by dsimp only; omega) _))) ?_); intro pw))
      go_loopw [47] (fun v wr => v = .int .i64 0 ∧ Below w.heap.size w wr) (fun v _ => 0)
      case atStart => exact ⟨rfl, (by repeat (first | exact Below.refl _ _ | refine Below.later ?_ _ | refine Below.box ?_ _ | refine Below.drew ?_ | refine Below.put ?_ (by dsimp only; omega) _))⟩
      case round =>
        obtain ⟨rfl, hB⟩ := hrel
        go_wp2
        go_ret
        exact ⟨_, rfl, hB⟩
end Go.Proofs.Ytkpkgjniicnkcaa
