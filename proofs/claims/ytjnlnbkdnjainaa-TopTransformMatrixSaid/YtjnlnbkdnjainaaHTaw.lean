/- The top statements: the examples of the first stages. -/
import Derived.Test.YtjnlnbkdnjainaaHFwd
import Derived.Test.YtjnlnbkdnjainaaHConY
namespace Go.Proofs.Ytjnlnbkdnjainaa
open Go.RowKit Go.Sort

set_option maxRecDepth 100000
theorem tw_ok : rootOk 17 4 = true := by kernel_rfl
theorem tw_v : ((List.range 4).map (vlF 17 2 (fun j => (([1, 2, 0, 0] : List Int).getD j 0) % 17) (rootV 17 ((4 : Nat) : Int)))) = [3, 10, 16, 9] := by kernel_rfl
theorem tw_h : hoV 17 [1, 2] 13 2 = 10 := by kernel_rfl
theorem tw_n : xnorm 17 (1, 1) = 15 := by kernel_rfl
set_option maxHeartbeats 8000000 in
theorem tawake_c (w : World) : Calls Try.prog 11 #[] w (Gives (.bool true) w) := by
  go_enter Try.func11, Try.ntmps11
  go_wp2_with (go_at_call 26; refine Stop.out ?_)
  refine ⟨?_⟩
  have hl0 := Ls.new (w.alloc (.cells #[.int .u64 17] 27)) 22 _ [1, 2, 0, 0] rfl (by simp) (aw_U rfl)
  simp only [World.size_alloc] at hl0
  refine call_genE (fun W' => Below w.heap.size w W' ∧ W'.cell? ⟨w.heap.size, 0, none⟩ = some (.int .u64 17) ∧ w.heap.size < W'.heap.size ∧ Ls W' (some ⟨w.heap.size + 1, 0, none⟩) [1, 2, 0, 0]) ?fx ?_
  case fx => exact ⟨(by repeat (first | exact Below.refl _ _ | refine Below.later ?_ _ | refine Below.box ?_ _ | refine Below.drew ?_ | refine Below.put ?_ (by dsimp only; omega) _)), by simp [go_sem], by simp, hl0⟩
  rintro W1 ⟨hB1, hb1, hl1, hL1⟩
  refine (forward_lc 17 2 4 (some ⟨w.heap.size + 1, 0, none⟩) 4 [1, 2, 0, 0] W1 aw_vld (by omega) rfl tw_ok hL1 rfl).mono ?_
  rintro e w2 ⟨V, rfl, hP2, hB2⟩
  have kL2 : Kept (Ls w2 (some ⟨V, 0, none⟩) [3, 10, 16, 9]) := ⟨by
    have := hP2.ls (by omega) (fun i _ => vlF_U 2 _ _ (fun i => ⟨Int.emod_nonneg _ (by omega), by have := Int.emod_lt_of_pos (([1, 2, 0, 0] : List Int).getD i 0) (show (0 : Int) < 17 by omega); omega⟩) i)
    rw [tw_v] at this; exact this⟩
  have kbx : Kept (∀ w', Below w2.heap.size w2 w' → w'.cell? ⟨w.heap.size, 0, none⟩ = some (.int .u64 17) ∧ w.heap.size < w'.heap.size) := ⟨fun w' hw => by
    have h2 := Below.next hB2 hw
    exact ⟨by rw [h2.cell (p := ⟨w.heap.size, 0, none⟩) hl1]; exact hb1, by have := h2.size; omega⟩⟩
  have kB2 := (⟨Below.next hB1 hB2⟩ : Kept (Below w.heap.size w w2))
  have hb2 := (kbx.out w2 (Below.refl _ _)).1
  have hl2 := (kbx.out w2 (Below.refl _ _)).2
  clear hB1 hb1 hl1 hL1 hP2 hB2 hl0
  go_wp2_with (go_at_call 28; refine Stop.out ?_)
  refine ⟨?_⟩
  refine call_genE (fun W' => Below w2.heap.size w2 W' ∧ Ls W' (some ⟨w2.heap.size, 0, none⟩) [3, 10, 16, 9]) ?fy ?_
  case fy => exact ⟨(by repeat (first | exact Below.refl _ _ | refine Below.later ?_ _ | refine Below.box ?_ _ | refine Below.drew ?_ | refine Below.put ?_ (by dsimp only; omega) _)), Ls.new w2 _ _ [3, 10, 16, 9] rfl (by simp) (aw_U rfl)⟩
  rintro W3 ⟨hB3, hl3⟩
  have cs01 := same_c (some ⟨V, 0, none⟩) (some ⟨w2.heap.size, 0, none⟩) 4 4 [3, 10, 16, 9] [3, 10, 16, 9] W3 (kL2.out.below (Nat.le_refl _) hB3) hl3
  rw [decide_eq_true rfl] at cs01
  refine use cs01 ?_
  intro pa
  have kB4 : Kept (Below w2.heap.size w2 (after W3 pa)) := ⟨Below.next hB3 (by repeat (first | exact Below.refl _ _ | refine Below.later ?_ _ | refine Below.box ?_ _ | refine Below.drew ?_ | refine Below.put ?_ (by dsimp only; omega) _))⟩
  generalize after W3 pa = w4 at kB4 ⊢
  have hb4 := (kbx.out w4 kB4.out).1
  have hl4 := (kbx.out w4 kB4.out).2
  clear hB3 hl3 cs01 hb2 hl2
  go_wp2_with (go_at_call 48; refine Stop.out ?_)
  refine ⟨?_⟩
  refine call_genE (fun W' => Below w4.heap.size w4 W' ∧ Ls W' (some ⟨w4.heap.size, 0, none⟩) [1, 2]) ?fz ?_
  case fz => exact ⟨(by repeat (first | exact Below.refl _ _ | refine Below.later ?_ _ | refine Below.box ?_ _ | refine Below.drew ?_ | refine Below.put ?_ (by dsimp only; omega) _)), Ls.new w4 _ _ [1, 2] rfl (by simp) (aw_U rfl)⟩
  rintro W5 ⟨hB5, hl5⟩
  have cev := eval_lc 17 13 (some ⟨w4.heap.size, 0, none⟩) 2 2 [1, 2] W5 ⟨by decide, by decide⟩ hl5 rfl (by omega)
  rw [tw_h] at cev
  refine use cev ?_
  intro pb
  have kB6 : Kept (Below w2.heap.size w2 (after W5 pb)) := ⟨Below.next kB4.out (Below.next hB5 (by repeat (first | exact Below.refl _ _ | refine Below.later ?_ _ | refine Below.box ?_ _ | refine Below.drew ?_ | refine Below.put ?_ (by dsimp only; omega) _)))⟩
  generalize after W5 pb = w6 at kB6 ⊢
  have hb6 := (kbx.out w6 kB6.out).1
  have hl6 := (kbx.out w6 kB6.out).2
  clear hB5 hl5 cev hb4 hl4 kB4
  go_wp2_with (go_at_call 20; refine Stop.out ?_)
  refine ⟨?_⟩
  have hm0 := lit2 ((w6.alloc (.cells #[.int .u64 2, .int .u64 4] 22)).alloc (.cells #[.int .u64 1, .int .u64 3] 22)) w6 [2, 4] [1, 3] 2 2 _ _ rfl rfl rfl rfl rfl (by omega) (by omega) (aw_U rfl) (aw_U rfl)
  simp only [World.size_alloc] at hm0
  refine call_genE (fun W' => Below w6.heap.size w6 W' ∧ Mt W' (some ⟨w6.heap.size + 1 + 1, 0, none⟩) aw1) ?fu ?_
  case fu => exact ⟨(by repeat (first | exact Below.refl _ _ | refine Below.later ?_ _ | refine Below.box ?_ _ | refine Below.drew ?_ | refine Below.put ?_ (by dsimp only; omega) _)), hm0⟩
  rintro W7 ⟨hB7, hm7⟩
  refine (det_c 17 (some ⟨w6.heap.size + 1 + 1, 0, none⟩) 2 aw1 W7 hm7).mono ?_
  rintro e w8 ⟨rfl, hB8⟩
  rw [aw_d]
  have kB8 : Kept (Below w2.heap.size w2 w8) := ⟨Below.next kB6.out (Below.next hB7 hB8)⟩
  have hb8 := (kbx.out w8 kB8.out).1
  have hl8 := (kbx.out w8 kB8.out).2
  have cno : Kept (∀ w, Calls Try.prog 21 #[.agg #[.int .u64 17], .agg #[.int .u64 1, .int .u64 1]] w (Gives (.int .u64 15) w)) := ⟨fun w => by have := xnorm_c 17 (1, 1) w ⟨⟨by decide, by decide⟩, ⟨by decide, by decide⟩⟩; rw [tw_n] at this; exact this⟩
  clear hB7 hm7 hB8 hm0 hb6 hl6 kB6
  go_wp2_with (first | (go_at_call 21; (first | with_reducible refine use1 (cno.out _) ?_ | with_reducible refine use (cno.out _) ?_); intro pw))
  go_ret
  exact ⟨rfl, Below.later (Below.next kB2.out kB8.out) _⟩
end Go.Proofs.Ytjnlnbkdnjainaa
