/- LinearReduce: for any field and any matrix the call returns true: Reduce and Rank return the reference's form, pivots and their number (matrices of at most 12 rows and columns; for others there is nothing to show). No condition. -/
import Derived.Test.YtjnlnbkdnjainaaHL5a
namespace Go.Proofs.Ytjnlnbkdnjainaa.linearReduce
open Go.ChangeShapes Go.WideShapes Go.ChangeAt Go.RowKit Go.Sort

set_option maxHeartbeats 8000000 in
set_option maxRecDepth 100000 in
theorem walk (w : World) (p : Int) (hp : U p) (u : Option Addr) (ls : List (List Int)) (c : Nat) (h1 : Arg w u c ls) :
    Calls Try.prog 8 #[.int .u64 p, .slice u ls.length c] w (Gives (.bool true) w) := by
  have hs := h1.1.small
  obtain ⟨n, hn⟩ : ∃ n, ls.length = n := ⟨_, rfl⟩
  have csm : Kept (∀ w', Below w.heap.size w w' → Calls Try.prog 31 #[.slice u n c] w' (Gives (.bool (smlM ls 12)) w')) := ⟨fun w' hw => by have := lsmall_c u c ls w' (h1.mt hw); rw [hn] at this; exact this⟩
  cases hsm : smlM ls 12
  · rw [hsm] at csm
    rw [hn] at hs ⊢
    clear h1 hsm hn
    go_enter Try.func8, Try.ntmps8
    go_wp2_with (first | (go_at_call 30; (first | with_reducible refine use1 (awake05_c _) ?_ | with_reducible refine use (awake05_c _) ?_); intro pw) | (go_at_call 31; (first | with_reducible refine use1 (csm.out _ (by repeat (first | exact Below.refl _ _ | refine Below.later ?_ _ | refine Below.box ?_ _ | refine Below.drew ?_ | refine Below.put ?_ (by dsimp only; omega) _))) ?_ | with_reducible refine use (csm.out _ (by repeat (first | exact Below.refl _ _ | refine Below.later ?_ _ | refine Below.box ?_ _ | refine Below.drew ?_ | refine Below.put ?_ (by dsimp only; omega) _))) ?_); intro pw))
    go_ret
    exact ⟨rfl, (by repeat (first | exact Below.refl _ _ | refine Below.later ?_ _ | refine Below.box ?_ _ | refine Below.drew ?_ | refine Below.put ?_ (by dsimp only; omega) _))⟩
  · rw [hsm] at csm
    have ccp : Kept (∀ w', Below w.heap.size w w' → Calls Try.prog 33 #[.slice u n c] w' (GivesC ls w')) := ⟨fun w' hw => by have := h1.cp hsm (by omega) hw; rw [hn] at this; exact this⟩
    cases hV : (vld p && vldM ls)
    · have crd : Kept (∀ w' u c, Mt w' u ls → Calls Try.prog 44 #[.agg #[.int .u64 p], .slice u n c] w' (Gives (.tuple #[.slice none 0 0, .slice none 0 0]) w')) := ⟨fun w' u c h => by have := reduce_no p u c ls w' h hV; rw [hn] at this; exact this⟩
      have crr : Kept (∀ w', Below w.heap.size w w' → Calls Try.prog 41 #[.int .u64 p, .slice u n c] w' (Gives (.tuple #[.slice none 0 0, .slice none 0 0]) w')) := ⟨fun w' hw => by have := rreduce_no p u c ls w' (h1.mt hw) hV; rw [hn] at this; exact this⟩
      have crk : Kept (∀ w' u c, Mt w' u ls → Calls Try.prog 45 #[.agg #[.int .u64 p], .slice u n c] w' (Gives (.int .i64 0) w')) := ⟨fun w' u c h => by have := rank_no p u c ls w' h hV; rw [hn] at this; exact this⟩
      have csa : Kept (∀ w', Calls Try.prog 17 #[.slice none 0 0, .slice none 0 0] w' (Gives (.bool true) w')) := ⟨fun w' => by have := same05_c none none 0 0 [] [] w' ⟨by simp, fun h => absurd rfl h⟩ ⟨by simp, fun h => absurd rfl h⟩; rw [decide_eq_true rfl] at this; exact this⟩
      rw [hn] at hs ⊢
      have kn := (⟨hn⟩ : Kept _)
      have kp := (⟨hp⟩ : Kept _)
      clear h1 hsm hn hV hp
      go_enter Try.func8, Try.ntmps8
      go_wp2_with (first | (go_at_call 30; (first | with_reducible refine use1 (awake05_c _) ?_ | with_reducible refine use (awake05_c _) ?_); intro pw) | (go_at_call 31; (first | with_reducible refine use1 (csm.out _ (by repeat (first | exact Below.refl _ _ | refine Below.later ?_ _ | refine Below.box ?_ _ | refine Below.drew ?_ | refine Below.put ?_ (by dsimp only; omega) _))) ?_ | with_reducible refine use (csm.out _ (by repeat (first | exact Below.refl _ _ | refine Below.later ?_ _ | refine Below.box ?_ _ | refine Below.drew ?_ | refine Below.put ?_ (by dsimp only; omega) _))) ?_); intro pw))
      obtain ⟨X, hX⟩ : ∃ X, w.heap.size + pw.os.size = X := ⟨_, rfl⟩
      have hB1 : Below w.heap.size w ((after w pw).alloc (.cells #[.int .u64 p] 27)) := (by repeat (first | exact Below.refl _ _ | refine Below.later ?_ _ | refine Below.box ?_ _ | refine Below.drew ?_ | refine Below.put ?_ (by dsimp only; omega) _))
      have hb1 : ((after w pw).alloc (.cells #[.int .u64 p] 27)).cell? ⟨X, 0, none⟩ = some (.int .u64 p) := by rw [← hX]; simp [go_sem]
      have hl1 : X < ((after w pw).alloc (.cells #[.int .u64 p] 27)).heap.size := by rw [← hX]; simp
      rw [hX]
      generalize (after w pw).alloc (.cells #[.int .u64 p] 27) = W1 at hB1 hb1 hl1 ⊢
      have kB1 := (⟨hB1⟩ : Kept _)
      have hS : Kept (∀ w', Below W1.heap.size W1 w' → w'.cell? ⟨X, 0, none⟩ = some (.int .u64 p)) := ⟨fun w' hw => by rw [hw.cell (p := ⟨X, 0, none⟩) hl1]; exact hb1⟩
      clear hB1 hX csm
      refine wp_region_noPanic ?_
      refine wp_region_held_drew (S := (fun w' => w'.cell? ⟨X, 0, none⟩ = some (.int .u64 p))) (by kernel_rfl) (hS.out _ (by repeat (first | exact Below.refl _ _ | refine Below.later ?_ _ | refine Below.box ?_ _ | refine Below.drew ?_ | refine Below.put ?_ (by dsimp only; omega) _))) (fun hHeld => ?_)
      refine wpAnyH_take (i := 0) (oi := ?o0q1) (v := ?v0q1) ?hi0q1 (by kernel_rfl) (by kernel_rfl) (by kernel_rfl) (fun _ _ _ h => h) (Or.inl ⟨?hg0q1, ?hy0q1⟩) (by assumption) ?rest0q1
      case hi0q1 => rfl
      case hg0q1 => rfl
      case' hy0q1 =>
        dsimp only [List.getElem?_toArray, List.getElem?_cons_succ, List.getElem?_cons_zero, List.getElem_cons_succ, List.getElem_cons_zero, List.getElem_toArray]
        intro w hSw
        try dsimp only at hSw
        go_simp
        try with_reducible rfl
      case' rest0q1 =>
        dsimp only [List.getElem?_toArray, List.getElem?_cons_succ, List.getElem?_cons_zero, List.getElem_cons_succ, List.getElem_cons_zero, List.getElem_toArray]
        try simp only [Act.put, List.setIfInBounds_toArray, List.set_cons_zero, List.set_cons_succ]
      refine wpAnyH_take (i := 1) (oi := ?o1q2) (v := ?v1q2) ?hi1q2 (by kernel_rfl) (by kernel_rfl) (by kernel_rfl) (fun _ _ _ h => h) (Or.inl ⟨?hg1q2, ?hy1q2⟩) (by assumption) ?rest1q2
      case hi1q2 => rfl
      case hg1q2 => rfl
      case' hy1q2 =>
        dsimp only [List.getElem?_toArray, List.getElem?_cons_succ, List.getElem?_cons_zero, List.getElem_cons_succ, List.getElem_cons_zero, List.getElem_toArray]
        intro w hSw
        try dsimp only at hSw
        go_simp
        try with_reducible rfl
      case' rest1q2 =>
        dsimp only [List.getElem?_toArray, List.getElem?_cons_succ, List.getElem?_cons_zero, List.getElem_cons_succ, List.getElem_cons_zero, List.getElem_toArray]
        try simp only [Act.put, List.setIfInBounds_toArray, List.set_cons_zero, List.set_cons_succ]
      refine wpAnyH_ready (rs := [2]) (by kernel_rfl) (by simp) ?_
      refine AllReadyH.cons rfl (fun K hK => ?_) AllReadyH.nil
      dsimp only [List.getElem?_toArray, List.getElem?_cons_succ, List.getElem?_cons_zero, List.getElem_cons_succ, List.getElem_cons_zero, List.getElem_toArray]
      go_simp
      go_at_call 33
      refine (ccp.out _ (Below.next kB1.out (by repeat (first | exact Below.refl _ _ | refine Below.later ?_ _ | refine Below.box ?_ _ | refine Below.drew ?_ | refine Below.put ?_ (by dsimp only; omega) _)))).mono ?_
      rintro e w5 ⟨u5, c5, rfl, hM5, _, hB5⟩
      replace hB5 : Below W1.heap.size W1 w5 := Below.next (by repeat (first | exact Below.refl _ _ | refine Below.later ?_ _ | refine Below.box ?_ _ | refine Below.drew ?_ | refine Below.put ?_ (by dsimp only; omega) _)) hB5
      try simp only [kn.out]
      go_wp2
      refine hK.out _ _ ?_ (fun hHeld => ?_)
      · exact hS.out _ (hB5)
      clear hK K
      try simp only [Act.put, List.setIfInBounds_toArray, List.set_cons_zero, List.set_cons_succ]
      refine wpAnyH_ready (rs := [3]) (by kernel_rfl) (by simp) ?_
      refine AllReadyH.cons rfl (fun K hK => ?_) AllReadyH.nil
      dsimp only [List.getElem?_toArray, List.getElem?_cons_succ, List.getElem?_cons_zero, List.getElem_cons_succ, List.getElem_cons_zero, List.getElem_toArray]
      go_simp
      go_at_call 44
      refine use (crd.out _ _ _ hM5) ?_
      intro pw3
      go_wp2
      refine hK.out _ _ ?_ (fun hHeld => ?_)
      · exact hS.out _ (Below.later hB5 _)
      clear hK K
      try simp only [Act.put, List.setIfInBounds_toArray, List.set_cons_zero, List.set_cons_succ]
      refine wpAnyH_take (i := 4) (oi := ?o4q3) (v := ?v4q3) ?hi4q3 (by kernel_rfl) (by kernel_rfl) (by kernel_rfl) (fun _ _ _ h => h) (Or.inl ⟨?hg4q3, ?hy4q3⟩) (by assumption) ?rest4q3
      case hi4q3 => rfl
      case hg4q3 => rfl
      case' hy4q3 =>
        dsimp only [List.getElem?_toArray, List.getElem?_cons_succ, List.getElem?_cons_zero, List.getElem_cons_succ, List.getElem_cons_zero, List.getElem_toArray]
        intro w hSw
        try dsimp only at hSw
        go_simp
        try with_reducible rfl
      case' rest4q3 =>
        dsimp only [List.getElem?_toArray, List.getElem?_cons_succ, List.getElem?_cons_zero, List.getElem_cons_succ, List.getElem_cons_zero, List.getElem_toArray]
        try simp only [Act.put, List.setIfInBounds_toArray, List.set_cons_zero, List.set_cons_succ]
      refine wpAnyH_take (i := 5) (oi := ?o5q4) (v := ?v5q4) ?hi5q4 (by kernel_rfl) (by kernel_rfl) (by kernel_rfl) (fun _ _ _ h => h) (Or.inl ⟨?hg5q4, ?hy5q4⟩) (by assumption) ?rest5q4
      case hi5q4 => rfl
      case hg5q4 => rfl
      case' hy5q4 =>
        dsimp only [List.getElem?_toArray, List.getElem?_cons_succ, List.getElem?_cons_zero, List.getElem_cons_succ, List.getElem_cons_zero, List.getElem_toArray]
        intro w hSw
        try dsimp only at hSw
        go_simp
        try with_reducible rfl
      case' rest5q4 =>
        dsimp only [List.getElem?_toArray, List.getElem?_cons_succ, List.getElem?_cons_zero, List.getElem_cons_succ, List.getElem_cons_zero, List.getElem_toArray]
        try simp only [Act.put, List.setIfInBounds_toArray, List.set_cons_zero, List.set_cons_succ]
      refine wpAnyH_take (i := 6) (oi := ?o6q5) (v := ?v6q5) ?hi6q5 (by kernel_rfl) (by kernel_rfl) (by kernel_rfl) (fun _ _ _ h => h) (Or.inl ⟨?hg6q5, ?hy6q5⟩) (by assumption) ?rest6q5
      case hi6q5 => rfl
      case hg6q5 => rfl
      case' hy6q5 =>
        dsimp only [List.getElem?_toArray, List.getElem?_cons_succ, List.getElem?_cons_zero, List.getElem_cons_succ, List.getElem_cons_zero, List.getElem_toArray]
        intro w hSw
        try dsimp only at hSw
        go_simp
        try with_reducible rfl
      case' rest6q5 =>
        dsimp only [List.getElem?_toArray, List.getElem?_cons_succ, List.getElem?_cons_zero, List.getElem_cons_succ, List.getElem_cons_zero, List.getElem_toArray]
        try simp only [Act.put, List.setIfInBounds_toArray, List.set_cons_zero, List.set_cons_succ]
      refine wpAnyH_take (i := 7) (oi := ?o7q6) (v := ?v7q6) ?hi7q6 (by kernel_rfl) (by kernel_rfl) (by kernel_rfl) (fun _ _ _ h => h) (Or.inl ⟨?hg7q6, ?hy7q6⟩) (by assumption) ?rest7q6
      case hi7q6 => rfl
      case hg7q6 => rfl
      case' hy7q6 =>
        dsimp only [List.getElem?_toArray, List.getElem?_cons_succ, List.getElem?_cons_zero, List.getElem_cons_succ, List.getElem_cons_zero, List.getElem_toArray]
        intro w hSw
        try dsimp only at hSw
        go_simp
        try with_reducible rfl
      case' rest7q6 =>
        dsimp only [List.getElem?_toArray, List.getElem?_cons_succ, List.getElem?_cons_zero, List.getElem_cons_succ, List.getElem_cons_zero, List.getElem_toArray]
        try simp only [Act.put, List.setIfInBounds_toArray, List.set_cons_zero, List.set_cons_succ]
      refine wpAnyH_take (i := 8) (oi := ?o8q7) (v := ?v8q7) ?hi8q7 (by kernel_rfl) (by kernel_rfl) (by kernel_rfl) (fun _ _ _ h => h) (Or.inl ⟨?hg8q7, ?hy8q7⟩) (by assumption) ?rest8q7
      case hi8q7 => rfl
      case hg8q7 => rfl
      case' hy8q7 =>
        dsimp only [List.getElem?_toArray, List.getElem?_cons_succ, List.getElem?_cons_zero, List.getElem_cons_succ, List.getElem_cons_zero, List.getElem_toArray]
        intro w hSw
        try dsimp only at hSw
        go_simp
        try with_reducible rfl
      case' rest8q7 =>
        dsimp only [List.getElem?_toArray, List.getElem?_cons_succ, List.getElem?_cons_zero, List.getElem_cons_succ, List.getElem_cons_zero, List.getElem_toArray]
        try simp only [Act.put, List.setIfInBounds_toArray, List.set_cons_zero, List.set_cons_succ]
      refine wpAnyH_done (by kernel_rfl) ?_ _
      refine NoPanic.normal ?_
      have kB6 : Kept (Below w.heap.size w (after w5 pw3)) := ⟨Below.next kB1.out (Below.later hB5 _)⟩
      have kB6' : Kept (Below W1.heap.size W1 (after w5 pw3)) := ⟨Below.later hB5 _⟩
      generalize after w5 pw3 = w6 at kB6 kB6' ⊢
      clear hHeld hM5 hB5
      go_wp2_with (first | (go_at_call 41; refine use (crr.out _ kB6.out) ?_; intro pw4))
      have kB7 : Kept (Below w.heap.size w (after w6 pw4)) := ⟨Below.later kB6.out _⟩
      have kB7' : Kept (Below W1.heap.size W1 (after w6 pw4)) := ⟨Below.later kB6'.out _⟩
      generalize after w6 pw4 = w7 at kB7 kB7' ⊢
      have hS7 := hS
      clear hS
      have hS : Kept (∀ w', Below w7.heap.size w7 w' → w'.cell? ⟨X, 0, none⟩ = some (.int .u64 p)) := ⟨fun w' hw => hS7.out w' (Below.next kB7'.out hw)⟩
      refine wp_region_noPanic ?_
      refine wp_region_held_drew (S := (fun w' => w'.cell? ⟨X, 0, none⟩ = some (.int .u64 p))) (by kernel_rfl) (hS.out _ (by repeat (first | exact Below.refl _ _ | refine Below.later ?_ _ | refine Below.box ?_ _ | refine Below.drew ?_ | refine Below.put ?_ (by dsimp only; omega) _))) (fun hHeld => ?_)
      refine wpAnyH_take (i := 0) (oi := ?o0q8) (v := ?v0q8) ?hi0q8 (by kernel_rfl) (by kernel_rfl) (by kernel_rfl) (fun _ _ _ h => h) (Or.inl ⟨?hg0q8, ?hy0q8⟩) (by assumption) ?rest0q8
      case hi0q8 => rfl
      case hg0q8 => rfl
      case' hy0q8 =>
        dsimp only [List.getElem?_toArray, List.getElem?_cons_succ, List.getElem?_cons_zero, List.getElem_cons_succ, List.getElem_cons_zero, List.getElem_toArray]
        intro w hSw
        try dsimp only at hSw
        go_simp
        try with_reducible rfl
      case' rest0q8 =>
        dsimp only [List.getElem?_toArray, List.getElem?_cons_succ, List.getElem?_cons_zero, List.getElem_cons_succ, List.getElem_cons_zero, List.getElem_toArray]
        try simp only [Act.put, List.setIfInBounds_toArray, List.set_cons_zero, List.set_cons_succ]
      refine wpAnyH_take (i := 1) (oi := ?o1q9) (v := ?v1q9) ?hi1q9 (by kernel_rfl) (by kernel_rfl) (by kernel_rfl) (fun _ _ _ h => h) (Or.inl ⟨?hg1q9, ?hy1q9⟩) (by assumption) ?rest1q9
      case hi1q9 => rfl
      case hg1q9 => rfl
      case' hy1q9 =>
        dsimp only [List.getElem?_toArray, List.getElem?_cons_succ, List.getElem?_cons_zero, List.getElem_cons_succ, List.getElem_cons_zero, List.getElem_toArray]
        intro w hSw
        try dsimp only at hSw
        go_simp
        try with_reducible rfl
      case' rest1q9 =>
        dsimp only [List.getElem?_toArray, List.getElem?_cons_succ, List.getElem?_cons_zero, List.getElem_cons_succ, List.getElem_cons_zero, List.getElem_toArray]
        try simp only [Act.put, List.setIfInBounds_toArray, List.set_cons_zero, List.set_cons_succ]
      refine wpAnyH_ready (rs := [2]) (by kernel_rfl) (by simp) ?_
      refine AllReadyH.cons rfl (fun K hK => ?_) AllReadyH.nil
      dsimp only [List.getElem?_toArray, List.getElem?_cons_succ, List.getElem?_cons_zero, List.getElem_cons_succ, List.getElem_cons_zero, List.getElem_toArray]
      go_simp
      go_at_call 17
      refine use (csa.out _) ?_
      intro pw5
      go_wp2
      refine hK.out _ _ ?_ (fun hHeld => ?_)
      · exact hS.out _ (by repeat (first | exact Below.refl _ _ | refine Below.later ?_ _ | refine Below.box ?_ _ | refine Below.drew ?_ | refine Below.put ?_ (by dsimp only; omega) _))
      clear hK K
      try simp only [Act.put, List.setIfInBounds_toArray, List.set_cons_zero, List.set_cons_succ]
      refine wpAnyH_take (i := 3) (oi := ?o3q10) (v := ?v3q10) ?hi3q10 (by kernel_rfl) (by kernel_rfl) (by kernel_rfl) (fun _ _ _ h => h) (Or.inl ⟨?hg3q10, ?hy3q10⟩) (by assumption) ?rest3q10
      case hi3q10 => rfl
      case hg3q10 => rfl
      case' hy3q10 =>
        dsimp only [List.getElem?_toArray, List.getElem?_cons_succ, List.getElem?_cons_zero, List.getElem_cons_succ, List.getElem_cons_zero, List.getElem_toArray]
        intro w hSw
        try dsimp only at hSw
        go_simp
        try with_reducible rfl
      case' rest3q10 =>
        dsimp only [List.getElem?_toArray, List.getElem?_cons_succ, List.getElem?_cons_zero, List.getElem_cons_succ, List.getElem_cons_zero, List.getElem_toArray]
        try simp only [Act.put, List.setIfInBounds_toArray, List.set_cons_zero, List.set_cons_succ]
      refine wpAnyH_take (i := 4) (oi := ?o4q11) (v := ?v4q11) ?hi4q11 (by kernel_rfl) (by kernel_rfl) (by kernel_rfl) (fun _ _ _ h => h) (Or.inl ⟨?hg4q11, ?hy4q11⟩) (by assumption) ?rest4q11
      case hi4q11 => rfl
      case hg4q11 => rfl
      case' hy4q11 =>
        dsimp only [List.getElem?_toArray, List.getElem?_cons_succ, List.getElem?_cons_zero, List.getElem_cons_succ, List.getElem_cons_zero, List.getElem_toArray]
        intro w hSw
        try dsimp only at hSw
        go_simp
        try with_reducible rfl
      case' rest4q11 =>
        dsimp only [List.getElem?_toArray, List.getElem?_cons_succ, List.getElem?_cons_zero, List.getElem_cons_succ, List.getElem_cons_zero, List.getElem_toArray]
        try simp only [Act.put, List.setIfInBounds_toArray, List.set_cons_zero, List.set_cons_succ]
      refine wpAnyH_take (i := 5) (oi := ?o5q12) (v := ?v5q12) ?hi5q12 (by kernel_rfl) (by kernel_rfl) (by kernel_rfl) (fun _ _ _ h => h) (Or.inl ⟨?hg5q12, ?hy5q12⟩) (by assumption) ?rest5q12
      case hi5q12 => rfl
      case hg5q12 => rfl
      case' hy5q12 =>
        dsimp only [List.getElem?_toArray, List.getElem?_cons_succ, List.getElem?_cons_zero, List.getElem_cons_succ, List.getElem_cons_zero, List.getElem_toArray]
        intro w hSw
        try dsimp only at hSw
        go_simp
        try with_reducible rfl
      case' rest5q12 =>
        dsimp only [List.getElem?_toArray, List.getElem?_cons_succ, List.getElem?_cons_zero, List.getElem_cons_succ, List.getElem_cons_zero, List.getElem_toArray]
        try simp only [Act.put, List.setIfInBounds_toArray, List.set_cons_zero, List.set_cons_succ]
      refine wpAnyH_take (i := 6) (oi := ?o6q13) (v := ?v6q13) ?hi6q13 (by kernel_rfl) (by kernel_rfl) (by kernel_rfl) (fun _ _ _ h => h) (Or.inl ⟨?hg6q13, ?hy6q13⟩) (by assumption) ?rest6q13
      case hi6q13 => rfl
      case hg6q13 => rfl
      case' hy6q13 =>
        dsimp only [List.getElem?_toArray, List.getElem?_cons_succ, List.getElem?_cons_zero, List.getElem_cons_succ, List.getElem_cons_zero, List.getElem_toArray]
        intro w hSw
        try dsimp only at hSw
        go_simp
        try with_reducible rfl
      case' rest6q13 =>
        dsimp only [List.getElem?_toArray, List.getElem?_cons_succ, List.getElem?_cons_zero, List.getElem_cons_succ, List.getElem_cons_zero, List.getElem_toArray]
        try simp only [Act.put, List.setIfInBounds_toArray, List.set_cons_zero, List.set_cons_succ]
      refine wpAnyH_take (i := 7) (oi := ?o7q14) (v := ?v7q14) ?hi7q14 (by kernel_rfl) (by kernel_rfl) (by kernel_rfl) (fun _ _ _ h => h) (Or.inl ⟨?hg7q14, ?hy7q14⟩) (by assumption) ?rest7q14
      case hi7q14 => rfl
      case hg7q14 => rfl
      case' hy7q14 =>
        dsimp only [List.getElem?_toArray, List.getElem?_cons_succ, List.getElem?_cons_zero, List.getElem_cons_succ, List.getElem_cons_zero, List.getElem_toArray]
        intro w hSw
        try dsimp only at hSw
        go_simp
        try with_reducible rfl
      case' rest7q14 =>
        dsimp only [List.getElem?_toArray, List.getElem?_cons_succ, List.getElem?_cons_zero, List.getElem_cons_succ, List.getElem_cons_zero, List.getElem_toArray]
        try simp only [Act.put, List.setIfInBounds_toArray, List.set_cons_zero, List.set_cons_succ]
      refine wpAnyH_take (i := 8) (oi := ?o8q15) (v := ?v8q15) ?hi8q15 (by kernel_rfl) (by kernel_rfl) (by kernel_rfl) (fun _ _ _ h => h) (Or.inl ⟨?hg8q15, ?hy8q15⟩) (by assumption) ?rest8q15
      case hi8q15 => rfl
      case hg8q15 => rfl
      case' hy8q15 =>
        dsimp only [List.getElem?_toArray, List.getElem?_cons_succ, List.getElem?_cons_zero, List.getElem_cons_succ, List.getElem_cons_zero, List.getElem_toArray]
        intro w hSw
        try dsimp only at hSw
        go_simp
        try with_reducible rfl
      case' rest8q15 =>
        dsimp only [List.getElem?_toArray, List.getElem?_cons_succ, List.getElem?_cons_zero, List.getElem_cons_succ, List.getElem_cons_zero, List.getElem_toArray]
        try simp only [Act.put, List.setIfInBounds_toArray, List.set_cons_zero, List.set_cons_succ]
      refine wpAnyH_take (i := 9) (oi := ?o9q16) (v := ?v9q16) ?hi9q16 (by kernel_rfl) (by kernel_rfl) (by kernel_rfl) (fun _ _ _ h => h) (Or.inl ⟨?hg9q16, ?hy9q16⟩) (by assumption) ?rest9q16
      case hi9q16 => rfl
      case hg9q16 => rfl
      case' hy9q16 =>
        dsimp only [List.getElem?_toArray, List.getElem?_cons_succ, List.getElem?_cons_zero, List.getElem_cons_succ, List.getElem_cons_zero, List.getElem_toArray]
        intro w hSw
        try dsimp only at hSw
        go_simp
        try with_reducible rfl
      case' rest9q16 =>
        dsimp only [List.getElem?_toArray, List.getElem?_cons_succ, List.getElem?_cons_zero, List.getElem_cons_succ, List.getElem_cons_zero, List.getElem_toArray]
        try simp only [Act.put, List.setIfInBounds_toArray, List.set_cons_zero, List.set_cons_succ]
      refine wpAnyH_take (i := 10) (oi := ?o10q17) (v := ?v10q17) ?hi10q17 (by kernel_rfl) (by kernel_rfl) (by kernel_rfl) (fun _ _ _ h => h) (Or.inl ⟨?hg10q17, ?hy10q17⟩) (by assumption) ?rest10q17
      case hi10q17 => rfl
      case hg10q17 => rfl
      case' hy10q17 =>
        dsimp only [List.getElem?_toArray, List.getElem?_cons_succ, List.getElem?_cons_zero, List.getElem_cons_succ, List.getElem_cons_zero, List.getElem_toArray]
        intro w hSw
        try dsimp only at hSw
        go_simp
        try with_reducible rfl
      case' rest10q17 =>
        dsimp only [List.getElem?_toArray, List.getElem?_cons_succ, List.getElem?_cons_zero, List.getElem_cons_succ, List.getElem_cons_zero, List.getElem_toArray]
        try simp only [Act.put, List.setIfInBounds_toArray, List.set_cons_zero, List.set_cons_succ]
      refine wpAnyH_take (i := 11) (oi := ?o11q18) (v := ?v11q18) ?hi11q18 (by kernel_rfl) (by kernel_rfl) (by kernel_rfl) (fun _ _ _ h => h) (Or.inl ⟨?hg11q18, ?hy11q18⟩) (by assumption) ?rest11q18
      case hi11q18 => rfl
      case hg11q18 => rfl
      case' hy11q18 =>
        dsimp only [List.getElem?_toArray, List.getElem?_cons_succ, List.getElem?_cons_zero, List.getElem_cons_succ, List.getElem_cons_zero, List.getElem_toArray]
        intro w hSw
        try dsimp only at hSw
        go_simp
        try with_reducible rfl
      case' rest11q18 =>
        dsimp only [List.getElem?_toArray, List.getElem?_cons_succ, List.getElem?_cons_zero, List.getElem_cons_succ, List.getElem_cons_zero, List.getElem_toArray]
        try simp only [Act.put, List.setIfInBounds_toArray, List.set_cons_zero, List.set_cons_succ]
      refine wpAnyH_take (i := 12) (oi := ?o12q19) (v := ?v12q19) ?hi12q19 (by kernel_rfl) (by kernel_rfl) (by kernel_rfl) (fun _ _ _ h => h) (Or.inl ⟨?hg12q19, ?hy12q19⟩) (by assumption) ?rest12q19
      case hi12q19 => rfl
      case hg12q19 => rfl
      case' hy12q19 =>
        dsimp only [List.getElem?_toArray, List.getElem?_cons_succ, List.getElem?_cons_zero, List.getElem_cons_succ, List.getElem_cons_zero, List.getElem_toArray]
        intro w hSw
        try dsimp only at hSw
        go_simp
        try with_reducible rfl
      case' rest12q19 =>
        dsimp only [List.getElem?_toArray, List.getElem?_cons_succ, List.getElem?_cons_zero, List.getElem_cons_succ, List.getElem_cons_zero, List.getElem_toArray]
        try simp only [Act.put, List.setIfInBounds_toArray, List.set_cons_zero, List.set_cons_succ]
      refine wpAnyH_take (i := 13) (oi := ?o13q20) (v := ?v13q20) ?hi13q20 (by kernel_rfl) (by kernel_rfl) (by kernel_rfl) (fun _ _ _ h => h) (Or.inl ⟨?hg13q20, ?hy13q20⟩) (by assumption) ?rest13q20
      case hi13q20 => rfl
      case hg13q20 => rfl
      case' hy13q20 =>
        dsimp only [List.getElem?_toArray, List.getElem?_cons_succ, List.getElem?_cons_zero, List.getElem_cons_succ, List.getElem_cons_zero, List.getElem_toArray]
        intro w hSw
        try dsimp only at hSw
        go_simp
        try with_reducible rfl
      case' rest13q20 =>
        dsimp only [List.getElem?_toArray, List.getElem?_cons_succ, List.getElem?_cons_zero, List.getElem_cons_succ, List.getElem_cons_zero, List.getElem_toArray]
        try simp only [Act.put, List.setIfInBounds_toArray, List.set_cons_zero, List.set_cons_succ]
      refine wpAnyH_take (i := 16) (oi := ?o16q21) (v := ?v16q21) ?hi16q21 (by kernel_rfl) (by kernel_rfl) (by kernel_rfl) (fun _ _ _ h => h) (Or.inl ⟨?hg16q21, ?hy16q21⟩) (by assumption) ?rest16q21
      case hi16q21 => rfl
      case hg16q21 => rfl
      case' hy16q21 =>
        dsimp only [List.getElem?_toArray, List.getElem?_cons_succ, List.getElem?_cons_zero, List.getElem_cons_succ, List.getElem_cons_zero, List.getElem_toArray]
        intro w hSw
        try dsimp only at hSw
        go_simp
        try with_reducible rfl
      case' rest16q21 =>
        dsimp only [List.getElem?_toArray, List.getElem?_cons_succ, List.getElem?_cons_zero, List.getElem_cons_succ, List.getElem_cons_zero, List.getElem_toArray]
        try simp only [Act.put, List.setIfInBounds_toArray, List.set_cons_zero, List.set_cons_succ]
      refine wpAnyH_take (i := 17) (oi := ?o17q22) (v := ?v17q22) ?hi17q22 (by kernel_rfl) (by kernel_rfl) (by kernel_rfl) (fun _ _ _ h => h) (Or.inl ⟨?hg17q22, ?hy17q22⟩) (by assumption) ?rest17q22
      case hi17q22 => rfl
      case hg17q22 => rfl
      case' hy17q22 =>
        dsimp only [List.getElem?_toArray, List.getElem?_cons_succ, List.getElem?_cons_zero, List.getElem_cons_succ, List.getElem_cons_zero, List.getElem_toArray]
        intro w hSw
        try dsimp only at hSw
        go_simp
        try with_reducible rfl
      case' rest17q22 =>
        dsimp only [List.getElem?_toArray, List.getElem?_cons_succ, List.getElem?_cons_zero, List.getElem_cons_succ, List.getElem_cons_zero, List.getElem_toArray]
        try simp only [Act.put, List.setIfInBounds_toArray, List.set_cons_zero, List.set_cons_succ]
      refine wpAnyH_ready (rs := [14]) (by kernel_rfl) (by simp) ?_
      refine AllReadyH.cons rfl (fun K hK => ?_) AllReadyH.nil
      dsimp only [List.getElem?_toArray, List.getElem?_cons_succ, List.getElem?_cons_zero, List.getElem_cons_succ, List.getElem_cons_zero, List.getElem_toArray]
      rw [if_pos (by rfl)]
      go_simp
      go_at_call 33
      refine (ccp.out _ (Below.next kB7.out (by repeat (first | exact Below.refl _ _ | refine Below.later ?_ _ | refine Below.box ?_ _ | refine Below.drew ?_ | refine Below.put ?_ (by dsimp only; omega) _)))).mono ?_
      rintro e w8 ⟨u8, c8, rfl, hM8, _, hB8⟩
      replace hB8 : Below w7.heap.size w7 w8 := Below.next (by repeat (first | exact Below.refl _ _ | refine Below.later ?_ _ | refine Below.box ?_ _ | refine Below.drew ?_ | refine Below.put ?_ (by dsimp only; omega) _)) hB8
      try simp only [kn.out]
      go_wp2
      refine hK.out _ _ ?_ (fun hHeld => ?_)
      · exact hS.out _ (hB8)
      clear hK K
      try simp only [Act.put, List.setIfInBounds_toArray, List.set_cons_zero, List.set_cons_succ]
      refine wpAnyH_ready (rs := [15]) (by kernel_rfl) (by simp) ?_
      refine AllReadyH.cons rfl (fun K hK => ?_) AllReadyH.nil
      dsimp only [List.getElem?_toArray, List.getElem?_cons_succ, List.getElem?_cons_zero, List.getElem_cons_succ, List.getElem_cons_zero, List.getElem_toArray]
      rw [if_pos (by rfl)]
      go_simp
      go_at_call 45
      refine use (crk.out _ _ _ hM8) ?_
      intro pw6
      go_wp2
      refine hK.out _ _ ?_ (fun hHeld => ?_)
      · exact hS.out _ (Below.later hB8 _)
      clear hK K
      try simp only [Act.put, List.setIfInBounds_toArray, List.set_cons_zero, List.set_cons_succ]
      refine wpAnyH_take (i := 18) (oi := ?o18q23) (v := ?v18q23) ?hi18q23 (by kernel_rfl) (by kernel_rfl) (by kernel_rfl) (fun _ _ _ h => h) (Or.inl ⟨?hg18q23, ?hy18q23⟩) (by assumption) ?rest18q23
      case hi18q23 => rfl
      case hg18q23 => rfl
      case' hy18q23 =>
        dsimp only [List.getElem?_toArray, List.getElem?_cons_succ, List.getElem?_cons_zero, List.getElem_cons_succ, List.getElem_cons_zero, List.getElem_toArray]
        intro w hSw
        try dsimp only at hSw
        go_simp
        try with_reducible rfl
      case' rest18q23 =>
        dsimp only [List.getElem?_toArray, List.getElem?_cons_succ, List.getElem?_cons_zero, List.getElem_cons_succ, List.getElem_cons_zero, List.getElem_toArray]
        try simp only [Act.put, List.setIfInBounds_toArray, List.set_cons_zero, List.set_cons_succ]
      refine wpAnyH_take (i := 19) (oi := ?o19q24) (v := ?v19q24) ?hi19q24 (by kernel_rfl) (by kernel_rfl) (by kernel_rfl) (fun _ _ _ h => h) (Or.inl ⟨?hg19q24, ?hy19q24⟩) (by assumption) ?rest19q24
      case hi19q24 => rfl
      case hg19q24 => rfl
      case' hy19q24 =>
        dsimp only [List.getElem?_toArray, List.getElem?_cons_succ, List.getElem?_cons_zero, List.getElem_cons_succ, List.getElem_cons_zero, List.getElem_toArray]
        intro w hSw
        try dsimp only at hSw
        go_simp
        try with_reducible rfl
      case' rest19q24 =>
        dsimp only [List.getElem?_toArray, List.getElem?_cons_succ, List.getElem?_cons_zero, List.getElem_cons_succ, List.getElem_cons_zero, List.getElem_toArray]
        try simp only [Act.put, List.setIfInBounds_toArray, List.set_cons_zero, List.set_cons_succ]
      refine wpAnyH_done (by kernel_rfl) ?_ _
      refine NoPanic.normal ?_
      have kB9 : Kept (Below w.heap.size w (after w8 pw6)) := ⟨Below.next kB7.out (Below.later hB8 _)⟩
      generalize after w8 pw6 = w9 at kB9 ⊢
      clear hHeld hM8 hB8
      go_wp2
      go_loopw [56] (fun v wr => v = .int .i64 0 ∧ wr = w9) (fun _ _ => 0)
      case atStart => exact ⟨rfl, by first | rfl | trivial⟩
      case round =>
        obtain ⟨rfl, rfl⟩ := hrel
        go_wp2
        go_ret
        exact ⟨rfl, kB9.out⟩
    · simp only [Bool.and_eq_true] at hV
      obtain ⟨hv, hM⟩ := hV
      obtain ⟨m, hm⟩ : ∃ m, colsN ls = m := ⟨_, rfl⟩
      have hpb := vld_pos hv
      have hn12 : n ≤ 64 := by have := (vldM_row hM).1; omega
      have hm12 : m ≤ 64 := by have := (vldM_row hM).2.1; omega
      have hok := elR_ok (n := n) (m := m) (f := elF p ls) hv (fun i j _ _ => elF_lt (by omega) i j) m
      have crd : Kept (∀ w' u c, Mt w' u ls → Calls Try.prog 44 #[.agg #[.int .u64 p], .slice u n c] w' (GivesRd n m (elR p n m (elF p ls)) w')) := ⟨fun w' u c h => reduce_lc p n m u c ls w' h hv hM hn hm⟩
      have crr : Kept (∀ w', Below w.heap.size w w' → Calls Try.prog 41 #[.int .u64 p, .slice u n c] w' (GivesRf n m (elR p n m (elF p ls)) w')) := ⟨fun w' hw => rreduce_lc p n m u c ls w' (h1.mt hw) hv hM hn hm⟩
      have crk : Kept (∀ w' u c, Mt w' u ls → Calls Try.prog 45 #[.agg #[.int .u64 p], .slice u n c] w' (fun e w'' => e = .returned (.int .i64 ((elR p n m (elF p ls)).piv.length : Int)) ∧ Below w'.heap.size w' w'')) := ⟨fun w' u c h => rank_c p n m u c ls w' h hv hM hn hm⟩
      generalize elR p n m (elF p ls) = es at *
      obtain ⟨f, piv, fac⟩ := es
      have kU : Kept (∀ i j, i < n → j < m → U (f i j)) := ⟨fun i j hi hj => ⟨(hok.el i j hi hj).1, by have := (hok.el i j hi hj).2; simp only at this; omega⟩⟩
      have csa : Kept (∀ w' u1 u2 c1 c2, Mt w' u1 (matL n m f) → Mt w' u2 (matL n m f) → Calls Try.prog 17 #[.slice u1 n c1, .slice u2 n c2] w' (Gives (.bool true) w')) := ⟨fun w' u1 u2 c1 c2 h1 h2 => by have := same05_c u1 u2 c1 c2 _ _ w' h1 h2; rw [decide_eq_true rfl, matL_len] at this; exact this⟩
      obtain ⟨np, hnp⟩ : ∃ np, piv.length = np := ⟨_, rfl⟩
      have knp := (⟨hnp⟩ : Kept _)
      have hnpn : np ≤ n := by rw [← hnp]; exact hok.len
      rw [hn] at hs ⊢
      have kn := (⟨hn⟩ : Kept _)
      have kp := (⟨hp⟩ : Kept _)
      clear h1 hsm hn hv hM hp hm hok hnp
      go_enter Try.func8, Try.ntmps8
      go_wp2_with (first | (go_at_call 30; (first | with_reducible refine use1 (awake05_c _) ?_ | with_reducible refine use (awake05_c _) ?_); intro pw) | (go_at_call 31; (first | with_reducible refine use1 (csm.out _ (by repeat (first | exact Below.refl _ _ | refine Below.later ?_ _ | refine Below.box ?_ _ | refine Below.drew ?_ | refine Below.put ?_ (by dsimp only; omega) _))) ?_ | with_reducible refine use (csm.out _ (by repeat (first | exact Below.refl _ _ | refine Below.later ?_ _ | refine Below.box ?_ _ | refine Below.drew ?_ | refine Below.put ?_ (by dsimp only; omega) _))) ?_); intro pw))
      obtain ⟨X, hX⟩ : ∃ X, w.heap.size + pw.os.size = X := ⟨_, rfl⟩
      have hB1 : Below w.heap.size w ((after w pw).alloc (.cells #[.int .u64 p] 27)) := (by repeat (first | exact Below.refl _ _ | refine Below.later ?_ _ | refine Below.box ?_ _ | refine Below.drew ?_ | refine Below.put ?_ (by dsimp only; omega) _))
      have hb1 : ((after w pw).alloc (.cells #[.int .u64 p] 27)).cell? ⟨X, 0, none⟩ = some (.int .u64 p) := by rw [← hX]; simp [go_sem]
      have hl1 : X < ((after w pw).alloc (.cells #[.int .u64 p] 27)).heap.size := by rw [← hX]; simp
      rw [hX]
      generalize (after w pw).alloc (.cells #[.int .u64 p] 27) = W1 at hB1 hb1 hl1 ⊢
      have kB1 := (⟨hB1⟩ : Kept _)
      have hS : Kept (∀ w', Below W1.heap.size W1 w' → w'.cell? ⟨X, 0, none⟩ = some (.int .u64 p)) := ⟨fun w' hw => by rw [hw.cell (p := ⟨X, 0, none⟩) hl1]; exact hb1⟩
      clear hB1 hX csm
      refine wp_region_noPanic ?_
      refine wp_region_held_drew (S := (fun w' => w'.cell? ⟨X, 0, none⟩ = some (.int .u64 p))) (by kernel_rfl) (hS.out _ (by repeat (first | exact Below.refl _ _ | refine Below.later ?_ _ | refine Below.box ?_ _ | refine Below.drew ?_ | refine Below.put ?_ (by dsimp only; omega) _))) (fun hHeld => ?_)
      refine wpAnyH_take (i := 0) (oi := ?o0q25) (v := ?v0q25) ?hi0q25 (by kernel_rfl) (by kernel_rfl) (by kernel_rfl) (fun _ _ _ h => h) (Or.inl ⟨?hg0q25, ?hy0q25⟩) (by assumption) ?rest0q25
      case hi0q25 => rfl
      case hg0q25 => rfl
      case' hy0q25 =>
        dsimp only [List.getElem?_toArray, List.getElem?_cons_succ, List.getElem?_cons_zero, List.getElem_cons_succ, List.getElem_cons_zero, List.getElem_toArray]
        intro w hSw
        try dsimp only at hSw
        go_simp
        try with_reducible rfl
      case' rest0q25 =>
        dsimp only [List.getElem?_toArray, List.getElem?_cons_succ, List.getElem?_cons_zero, List.getElem_cons_succ, List.getElem_cons_zero, List.getElem_toArray]
        try simp only [Act.put, List.setIfInBounds_toArray, List.set_cons_zero, List.set_cons_succ]
      refine wpAnyH_take (i := 1) (oi := ?o1q26) (v := ?v1q26) ?hi1q26 (by kernel_rfl) (by kernel_rfl) (by kernel_rfl) (fun _ _ _ h => h) (Or.inl ⟨?hg1q26, ?hy1q26⟩) (by assumption) ?rest1q26
      case hi1q26 => rfl
      case hg1q26 => rfl
      case' hy1q26 =>
        dsimp only [List.getElem?_toArray, List.getElem?_cons_succ, List.getElem?_cons_zero, List.getElem_cons_succ, List.getElem_cons_zero, List.getElem_toArray]
        intro w hSw
        try dsimp only at hSw
        go_simp
        try with_reducible rfl
      case' rest1q26 =>
        dsimp only [List.getElem?_toArray, List.getElem?_cons_succ, List.getElem?_cons_zero, List.getElem_cons_succ, List.getElem_cons_zero, List.getElem_toArray]
        try simp only [Act.put, List.setIfInBounds_toArray, List.set_cons_zero, List.set_cons_succ]
      refine wpAnyH_ready (rs := [2]) (by kernel_rfl) (by simp) ?_
      refine AllReadyH.cons rfl (fun K hK => ?_) AllReadyH.nil
      dsimp only [List.getElem?_toArray, List.getElem?_cons_succ, List.getElem?_cons_zero, List.getElem_cons_succ, List.getElem_cons_zero, List.getElem_toArray]
      go_simp
      go_at_call 33
      refine (ccp.out _ (Below.next kB1.out (by repeat (first | exact Below.refl _ _ | refine Below.later ?_ _ | refine Below.box ?_ _ | refine Below.drew ?_ | refine Below.put ?_ (by dsimp only; omega) _)))).mono ?_
      rintro e w5 ⟨u5, c5, rfl, hM5, _, hB5⟩
      replace hB5 : Below W1.heap.size W1 w5 := Below.next (by repeat (first | exact Below.refl _ _ | refine Below.later ?_ _ | refine Below.box ?_ _ | refine Below.drew ?_ | refine Below.put ?_ (by dsimp only; omega) _)) hB5
      try simp only [kn.out]
      go_wp2
      refine hK.out _ _ ?_ (fun hHeld => ?_)
      · exact hS.out _ (hB5)
      clear hK K
      try simp only [Act.put, List.setIfInBounds_toArray, List.set_cons_zero, List.set_cons_succ]
      refine wpAnyH_ready (rs := [3]) (by kernel_rfl) (by simp) ?_
      refine AllReadyH.cons rfl (fun K hK => ?_) AllReadyH.nil
      dsimp only [List.getElem?_toArray, List.getElem?_cons_succ, List.getElem?_cons_zero, List.getElem_cons_succ, List.getElem_cons_zero, List.getElem_toArray]
      go_simp
      go_at_call 44
      refine (crd.out _ _ _ hM5).mono ?_
      rintro e w6 ⟨B6, bf6, cf6, u6, c6, rfl, hMx6, hO6⟩
      replace hB5 : Below W1.heap.size W1 w6 := Below.next hB5 hMx6.below
      simp only [knp.out]
      go_wp2
      refine hK.out _ _ ?_ (fun hHeld => ?_)
      · exact hS.out _ (hB5)
      clear hK K
      try simp only [Act.put, List.setIfInBounds_toArray, List.set_cons_zero, List.set_cons_succ]
      refine wpAnyH_take (i := 4) (oi := ?o4q27) (v := ?v4q27) ?hi4q27 (by kernel_rfl) (by kernel_rfl) (by kernel_rfl) (fun _ _ _ h => h) (Or.inl ⟨?hg4q27, ?hy4q27⟩) (by assumption) ?rest4q27
      case hi4q27 => rfl
      case hg4q27 => rfl
      case' hy4q27 =>
        dsimp only [List.getElem?_toArray, List.getElem?_cons_succ, List.getElem?_cons_zero, List.getElem_cons_succ, List.getElem_cons_zero, List.getElem_toArray]
        intro w hSw
        try dsimp only at hSw
        go_simp
        try with_reducible rfl
      case' rest4q27 =>
        dsimp only [List.getElem?_toArray, List.getElem?_cons_succ, List.getElem?_cons_zero, List.getElem_cons_succ, List.getElem_cons_zero, List.getElem_toArray]
        try simp only [Act.put, List.setIfInBounds_toArray, List.set_cons_zero, List.set_cons_succ]
      refine wpAnyH_take (i := 5) (oi := ?o5q28) (v := ?v5q28) ?hi5q28 (by kernel_rfl) (by kernel_rfl) (by kernel_rfl) (fun _ _ _ h => h) (Or.inl ⟨?hg5q28, ?hy5q28⟩) (by assumption) ?rest5q28
      case hi5q28 => rfl
      case hg5q28 => rfl
      case' hy5q28 =>
        dsimp only [List.getElem?_toArray, List.getElem?_cons_succ, List.getElem?_cons_zero, List.getElem_cons_succ, List.getElem_cons_zero, List.getElem_toArray]
        intro w hSw
        try dsimp only at hSw
        go_simp
        try with_reducible rfl
      case' rest5q28 =>
        dsimp only [List.getElem?_toArray, List.getElem?_cons_succ, List.getElem?_cons_zero, List.getElem_cons_succ, List.getElem_cons_zero, List.getElem_toArray]
        try simp only [Act.put, List.setIfInBounds_toArray, List.set_cons_zero, List.set_cons_succ]
      refine wpAnyH_take (i := 6) (oi := ?o6q29) (v := ?v6q29) ?hi6q29 (by kernel_rfl) (by kernel_rfl) (by kernel_rfl) (fun _ _ _ h => h) (Or.inl ⟨?hg6q29, ?hy6q29⟩) (by assumption) ?rest6q29
      case hi6q29 => rfl
      case hg6q29 => rfl
      case' hy6q29 =>
        dsimp only [List.getElem?_toArray, List.getElem?_cons_succ, List.getElem?_cons_zero, List.getElem_cons_succ, List.getElem_cons_zero, List.getElem_toArray]
        intro w hSw
        try dsimp only at hSw
        go_simp
        try with_reducible rfl
      case' rest6q29 =>
        dsimp only [List.getElem?_toArray, List.getElem?_cons_succ, List.getElem?_cons_zero, List.getElem_cons_succ, List.getElem_cons_zero, List.getElem_toArray]
        try simp only [Act.put, List.setIfInBounds_toArray, List.set_cons_zero, List.set_cons_succ]
      refine wpAnyH_take (i := 7) (oi := ?o7q30) (v := ?v7q30) ?hi7q30 (by kernel_rfl) (by kernel_rfl) (by kernel_rfl) (fun _ _ _ h => h) (Or.inl ⟨?hg7q30, ?hy7q30⟩) (by assumption) ?rest7q30
      case hi7q30 => rfl
      case hg7q30 => rfl
      case' hy7q30 =>
        dsimp only [List.getElem?_toArray, List.getElem?_cons_succ, List.getElem?_cons_zero, List.getElem_cons_succ, List.getElem_cons_zero, List.getElem_toArray]
        intro w hSw
        try dsimp only at hSw
        go_simp
        try with_reducible rfl
      case' rest7q30 =>
        dsimp only [List.getElem?_toArray, List.getElem?_cons_succ, List.getElem?_cons_zero, List.getElem_cons_succ, List.getElem_cons_zero, List.getElem_toArray]
        try simp only [Act.put, List.setIfInBounds_toArray, List.set_cons_zero, List.set_cons_succ]
      refine wpAnyH_take (i := 8) (oi := ?o8q31) (v := ?v8q31) ?hi8q31 (by kernel_rfl) (by kernel_rfl) (by kernel_rfl) (fun _ _ _ h => h) (Or.inl ⟨?hg8q31, ?hy8q31⟩) (by assumption) ?rest8q31
      case hi8q31 => rfl
      case hg8q31 => rfl
      case' hy8q31 =>
        dsimp only [List.getElem?_toArray, List.getElem?_cons_succ, List.getElem?_cons_zero, List.getElem_cons_succ, List.getElem_cons_zero, List.getElem_toArray]
        intro w hSw
        try dsimp only at hSw
        go_simp
        try with_reducible rfl
      case' rest8q31 =>
        dsimp only [List.getElem?_toArray, List.getElem?_cons_succ, List.getElem?_cons_zero, List.getElem_cons_succ, List.getElem_cons_zero, List.getElem_toArray]
        try simp only [Act.put, List.setIfInBounds_toArray, List.set_cons_zero, List.set_cons_succ]
      refine wpAnyH_done (by kernel_rfl) ?_ _
      refine NoPanic.normal ?_
      have kB6 : Kept (Below w.heap.size w w6) := ⟨Below.next kB1.out hB5⟩
      have kB6' : Kept (Below W1.heap.size W1 w6) := ⟨hB5⟩
      have kM6 : Kept (Mt w6 (some ⟨B6, 0, none⟩) (matL n m f)) := ⟨hMx6.mt (by omega) (by omega) kU.out⟩
      have kO6 := (⟨piv_get hO6⟩ : Kept _)
      clear hHeld hM5 hB5 hMx6 hO6
      go_wp2_with (first | (go_at_call 41; refine (crr.out _ kB6.out).mono ?_; rintro e w7 ⟨B7, C7, bf7, cf7, u7, c7, rfl, hMx7, hO7⟩; simp only [knp.out]; refine Stop.out ?_))
      refine ⟨?_⟩
      have kB7 : Kept (Below w.heap.size w w7) := ⟨Below.next kB6.out hMx7.below⟩
      have kB7' : Kept (Below W1.heap.size W1 w7) := ⟨Below.next kB6'.out hMx7.below⟩
      have kM7 : Kept (Mt w7 (some ⟨B7, 0, none⟩) (matL n m f)) := ⟨hMx7.mt (by omega) (by omega) kU.out⟩
      have kM6' : Kept (Mt w7 (some ⟨B6, 0, none⟩) (matL n m f)) := ⟨kM6.out.below (Nat.le_refl _) hMx7.below⟩
      have kpv : Kept (∀ w', Below w7.heap.size w7 w' → ∀ k, k < np → ∃ b, u6 = some ⟨b, 0, none⟩ ∧ b < w'.heap.size ∧ w'.cell? ⟨b, k, none⟩ = some (.int .i64 ((piv.getD k 0 : Nat) : Int))) := ⟨fun w' hw k hk => kO6.out w' (Below.next hMx7.below hw) k (by simp only [knp.out]; exact hk)⟩
      have kpv7 : Kept (∀ w', Below w7.heap.size w7 w' → ∀ k, k < np → ∃ b, u7 = some ⟨b, 0, none⟩ ∧ b < w'.heap.size ∧ w'.cell? ⟨b, k, none⟩ = some (.int .i64 ((piv.getD k 0 : Nat) : Int))) := ⟨fun w' hw k hk => piv_get hO7 w' hw k (by simp only [knp.out]; exact hk)⟩
      have hS7 := hS
      clear hS kO6 hO7 hMx7
      have hS : Kept (∀ w', Below w7.heap.size w7 w' → w'.cell? ⟨X, 0, none⟩ = some (.int .u64 p)) := ⟨fun w' hw => hS7.out w' (Below.next kB7'.out hw)⟩
      go_wp2
      refine wp_region_noPanic ?_
      refine wp_region_held_drew (S := (fun w' => w'.cell? ⟨X, 0, none⟩ = some (.int .u64 p))) (by kernel_rfl) (hS.out _ (by repeat (first | exact Below.refl _ _ | refine Below.later ?_ _ | refine Below.box ?_ _ | refine Below.drew ?_ | refine Below.put ?_ (by dsimp only; omega) _))) (fun hHeld => ?_)
      refine wpAnyH_take (i := 0) (oi := ?o0q32) (v := ?v0q32) ?hi0q32 (by kernel_rfl) (by kernel_rfl) (by kernel_rfl) (fun _ _ _ h => h) (Or.inl ⟨?hg0q32, ?hy0q32⟩) (by assumption) ?rest0q32
      case hi0q32 => rfl
      case hg0q32 => rfl
      case' hy0q32 =>
        dsimp only [List.getElem?_toArray, List.getElem?_cons_succ, List.getElem?_cons_zero, List.getElem_cons_succ, List.getElem_cons_zero, List.getElem_toArray]
        intro w hSw
        try dsimp only at hSw
        go_simp
        try with_reducible rfl
      case' rest0q32 =>
        dsimp only [List.getElem?_toArray, List.getElem?_cons_succ, List.getElem?_cons_zero, List.getElem_cons_succ, List.getElem_cons_zero, List.getElem_toArray]
        try simp only [Act.put, List.setIfInBounds_toArray, List.set_cons_zero, List.set_cons_succ]
      refine wpAnyH_take (i := 1) (oi := ?o1q33) (v := ?v1q33) ?hi1q33 (by kernel_rfl) (by kernel_rfl) (by kernel_rfl) (fun _ _ _ h => h) (Or.inl ⟨?hg1q33, ?hy1q33⟩) (by assumption) ?rest1q33
      case hi1q33 => rfl
      case hg1q33 => rfl
      case' hy1q33 =>
        dsimp only [List.getElem?_toArray, List.getElem?_cons_succ, List.getElem?_cons_zero, List.getElem_cons_succ, List.getElem_cons_zero, List.getElem_toArray]
        intro w hSw
        try dsimp only at hSw
        go_simp
        try with_reducible rfl
      case' rest1q33 =>
        dsimp only [List.getElem?_toArray, List.getElem?_cons_succ, List.getElem?_cons_zero, List.getElem_cons_succ, List.getElem_cons_zero, List.getElem_toArray]
        try simp only [Act.put, List.setIfInBounds_toArray, List.set_cons_zero, List.set_cons_succ]
      refine wpAnyH_ready (rs := [2]) (by kernel_rfl) (by simp) ?_
      refine AllReadyH.cons rfl (fun K hK => ?_) AllReadyH.nil
      dsimp only [List.getElem?_toArray, List.getElem?_cons_succ, List.getElem?_cons_zero, List.getElem_cons_succ, List.getElem_cons_zero, List.getElem_toArray]
      go_simp
      go_at_call 17
      refine use (csa.out _ _ _ _ _ (kM6'.out.below (Nat.le_refl _) (by repeat (first | exact Below.refl _ _ | refine Below.later ?_ _ | refine Below.box ?_ _ | refine Below.drew ?_ | refine Below.put ?_ (by dsimp only; omega) _))) (kM7.out.below (Nat.le_refl _) (by repeat (first | exact Below.refl _ _ | refine Below.later ?_ _ | refine Below.box ?_ _ | refine Below.drew ?_ | refine Below.put ?_ (by dsimp only; omega) _)))) ?_
      intro pw5
      go_wp2
      refine hK.out _ _ ?_ (fun hHeld => ?_)
      · exact hS.out _ (by repeat (first | exact Below.refl _ _ | refine Below.later ?_ _ | refine Below.box ?_ _ | refine Below.drew ?_ | refine Below.put ?_ (by dsimp only; omega) _))
      clear hK K
      try simp only [Act.put, List.setIfInBounds_toArray, List.set_cons_zero, List.set_cons_succ]
      refine wpAnyH_take (i := 3) (oi := ?o3q34) (v := ?v3q34) ?hi3q34 (by kernel_rfl) (by kernel_rfl) (by kernel_rfl) (fun _ _ _ h => h) (Or.inl ⟨?hg3q34, ?hy3q34⟩) (by assumption) ?rest3q34
      case hi3q34 => rfl
      case hg3q34 => rfl
      case' hy3q34 =>
        dsimp only [List.getElem?_toArray, List.getElem?_cons_succ, List.getElem?_cons_zero, List.getElem_cons_succ, List.getElem_cons_zero, List.getElem_toArray]
        intro w hSw
        try dsimp only at hSw
        go_simp
        try with_reducible rfl
      case' rest3q34 =>
        dsimp only [List.getElem?_toArray, List.getElem?_cons_succ, List.getElem?_cons_zero, List.getElem_cons_succ, List.getElem_cons_zero, List.getElem_toArray]
        try simp only [Act.put, List.setIfInBounds_toArray, List.set_cons_zero, List.set_cons_succ]
      refine wpAnyH_take (i := 4) (oi := ?o4q35) (v := ?v4q35) ?hi4q35 (by kernel_rfl) (by kernel_rfl) (by kernel_rfl) (fun _ _ _ h => h) (Or.inl ⟨?hg4q35, ?hy4q35⟩) (by assumption) ?rest4q35
      case hi4q35 => rfl
      case hg4q35 => rfl
      case' hy4q35 =>
        dsimp only [List.getElem?_toArray, List.getElem?_cons_succ, List.getElem?_cons_zero, List.getElem_cons_succ, List.getElem_cons_zero, List.getElem_toArray]
        intro w hSw
        try dsimp only at hSw
        go_simp
        try with_reducible rfl
      case' rest4q35 =>
        dsimp only [List.getElem?_toArray, List.getElem?_cons_succ, List.getElem?_cons_zero, List.getElem_cons_succ, List.getElem_cons_zero, List.getElem_toArray]
        try simp only [Act.put, List.setIfInBounds_toArray, List.set_cons_zero, List.set_cons_succ]
      refine wpAnyH_take (i := 5) (oi := ?o5q36) (v := ?v5q36) ?hi5q36 (by kernel_rfl) (by kernel_rfl) (by kernel_rfl) (fun _ _ _ h => h) (Or.inl ⟨?hg5q36, ?hy5q36⟩) (by assumption) ?rest5q36
      case hi5q36 => rfl
      case hg5q36 => rfl
      case' hy5q36 =>
        dsimp only [List.getElem?_toArray, List.getElem?_cons_succ, List.getElem?_cons_zero, List.getElem_cons_succ, List.getElem_cons_zero, List.getElem_toArray]
        intro w hSw
        try dsimp only at hSw
        go_simp
        try with_reducible rfl
      case' rest5q36 =>
        dsimp only [List.getElem?_toArray, List.getElem?_cons_succ, List.getElem?_cons_zero, List.getElem_cons_succ, List.getElem_cons_zero, List.getElem_toArray]
        try simp only [Act.put, List.setIfInBounds_toArray, List.set_cons_zero, List.set_cons_succ]
      refine wpAnyH_take (i := 6) (oi := ?o6q37) (v := ?v6q37) ?hi6q37 (by kernel_rfl) (by kernel_rfl) (by kernel_rfl) (fun _ _ _ h => h) (Or.inl ⟨?hg6q37, ?hy6q37⟩) (by assumption) ?rest6q37
      case hi6q37 => rfl
      case hg6q37 => rfl
      case' hy6q37 =>
        dsimp only [List.getElem?_toArray, List.getElem?_cons_succ, List.getElem?_cons_zero, List.getElem_cons_succ, List.getElem_cons_zero, List.getElem_toArray]
        intro w hSw
        try dsimp only at hSw
        go_simp
        try with_reducible rfl
      case' rest6q37 =>
        dsimp only [List.getElem?_toArray, List.getElem?_cons_succ, List.getElem?_cons_zero, List.getElem_cons_succ, List.getElem_cons_zero, List.getElem_toArray]
        try simp only [Act.put, List.setIfInBounds_toArray, List.set_cons_zero, List.set_cons_succ]
      refine wpAnyH_take (i := 7) (oi := ?o7q38) (v := ?v7q38) ?hi7q38 (by kernel_rfl) (by kernel_rfl) (by kernel_rfl) (fun _ _ _ h => h) (Or.inl ⟨?hg7q38, ?hy7q38⟩) (by assumption) ?rest7q38
      case hi7q38 => rfl
      case hg7q38 => rfl
      case' hy7q38 =>
        dsimp only [List.getElem?_toArray, List.getElem?_cons_succ, List.getElem?_cons_zero, List.getElem_cons_succ, List.getElem_cons_zero, List.getElem_toArray]
        intro w hSw
        try dsimp only at hSw
        go_simp
        try with_reducible rfl
      case' rest7q38 =>
        dsimp only [List.getElem?_toArray, List.getElem?_cons_succ, List.getElem?_cons_zero, List.getElem_cons_succ, List.getElem_cons_zero, List.getElem_toArray]
        try simp only [Act.put, List.setIfInBounds_toArray, List.set_cons_zero, List.set_cons_succ]
      refine wpAnyH_take (i := 8) (oi := ?o8q39) (v := ?v8q39) ?hi8q39 (by kernel_rfl) (by kernel_rfl) (by kernel_rfl) (fun _ _ _ h => h) (Or.inl ⟨?hg8q39, ?hy8q39⟩) (by assumption) ?rest8q39
      case hi8q39 => rfl
      case hg8q39 => rfl
      case' hy8q39 =>
        dsimp only [List.getElem?_toArray, List.getElem?_cons_succ, List.getElem?_cons_zero, List.getElem_cons_succ, List.getElem_cons_zero, List.getElem_toArray]
        intro w hSw
        try dsimp only at hSw
        go_simp
        try with_reducible rfl
      case' rest8q39 =>
        dsimp only [List.getElem?_toArray, List.getElem?_cons_succ, List.getElem?_cons_zero, List.getElem_cons_succ, List.getElem_cons_zero, List.getElem_toArray]
        try simp only [Act.put, List.setIfInBounds_toArray, List.set_cons_zero, List.set_cons_succ]
      refine wpAnyH_take (i := 9) (oi := ?o9q40) (v := ?v9q40) ?hi9q40 (by kernel_rfl) (by kernel_rfl) (by kernel_rfl) (fun _ _ _ h => h) (Or.inl ⟨?hg9q40, ?hy9q40⟩) (by assumption) ?rest9q40
      case hi9q40 => rfl
      case hg9q40 => rfl
      case' hy9q40 =>
        dsimp only [List.getElem?_toArray, List.getElem?_cons_succ, List.getElem?_cons_zero, List.getElem_cons_succ, List.getElem_cons_zero, List.getElem_toArray]
        intro w hSw
        try dsimp only at hSw
        go_simp
        try with_reducible rfl
      case' rest9q40 =>
        dsimp only [List.getElem?_toArray, List.getElem?_cons_succ, List.getElem?_cons_zero, List.getElem_cons_succ, List.getElem_cons_zero, List.getElem_toArray]
        try simp only [Act.put, List.setIfInBounds_toArray, List.set_cons_zero, List.set_cons_succ]
      refine wpAnyH_take (i := 10) (oi := ?o10q41) (v := ?v10q41) ?hi10q41 (by kernel_rfl) (by kernel_rfl) (by kernel_rfl) (fun _ _ _ h => h) (Or.inl ⟨?hg10q41, ?hy10q41⟩) (by assumption) ?rest10q41
      case hi10q41 => rfl
      case hg10q41 => rfl
      case' hy10q41 =>
        dsimp only [List.getElem?_toArray, List.getElem?_cons_succ, List.getElem?_cons_zero, List.getElem_cons_succ, List.getElem_cons_zero, List.getElem_toArray]
        intro w hSw
        try dsimp only at hSw
        go_simp
        try with_reducible rfl
      case' rest10q41 =>
        dsimp only [List.getElem?_toArray, List.getElem?_cons_succ, List.getElem?_cons_zero, List.getElem_cons_succ, List.getElem_cons_zero, List.getElem_toArray]
        try simp only [Act.put, List.setIfInBounds_toArray, List.set_cons_zero, List.set_cons_succ]
      refine wpAnyH_take (i := 11) (oi := ?o11q42) (v := ?v11q42) ?hi11q42 (by kernel_rfl) (by kernel_rfl) (by kernel_rfl) (fun _ _ _ h => h) (Or.inl ⟨?hg11q42, ?hy11q42⟩) (by assumption) ?rest11q42
      case hi11q42 => rfl
      case hg11q42 => rfl
      case' hy11q42 =>
        dsimp only [List.getElem?_toArray, List.getElem?_cons_succ, List.getElem?_cons_zero, List.getElem_cons_succ, List.getElem_cons_zero, List.getElem_toArray]
        intro w hSw
        try dsimp only at hSw
        go_simp
        try with_reducible rfl
      case' rest11q42 =>
        dsimp only [List.getElem?_toArray, List.getElem?_cons_succ, List.getElem?_cons_zero, List.getElem_cons_succ, List.getElem_cons_zero, List.getElem_toArray]
        try simp only [Act.put, List.setIfInBounds_toArray, List.set_cons_zero, List.set_cons_succ]
      refine wpAnyH_take (i := 12) (oi := ?o12q43) (v := ?v12q43) ?hi12q43 (by kernel_rfl) (by kernel_rfl) (by kernel_rfl) (fun _ _ _ h => h) (Or.inl ⟨?hg12q43, ?hy12q43⟩) (by assumption) ?rest12q43
      case hi12q43 => rfl
      case hg12q43 => rfl
      case' hy12q43 =>
        dsimp only [List.getElem?_toArray, List.getElem?_cons_succ, List.getElem?_cons_zero, List.getElem_cons_succ, List.getElem_cons_zero, List.getElem_toArray]
        intro w hSw
        try dsimp only at hSw
        go_simp
        try with_reducible rfl
      case' rest12q43 =>
        dsimp only [List.getElem?_toArray, List.getElem?_cons_succ, List.getElem?_cons_zero, List.getElem_cons_succ, List.getElem_cons_zero, List.getElem_toArray]
        try simp only [Act.put, List.setIfInBounds_toArray, List.set_cons_zero, List.set_cons_succ]
      refine wpAnyH_take (i := 13) (oi := ?o13q44) (v := ?v13q44) ?hi13q44 (by kernel_rfl) (by kernel_rfl) (by kernel_rfl) (fun _ _ _ h => h) (Or.inl ⟨?hg13q44, ?hy13q44⟩) (by assumption) ?rest13q44
      case hi13q44 => rfl
      case hg13q44 => rfl
      case' hy13q44 =>
        dsimp only [List.getElem?_toArray, List.getElem?_cons_succ, List.getElem?_cons_zero, List.getElem_cons_succ, List.getElem_cons_zero, List.getElem_toArray]
        intro w hSw
        try dsimp only at hSw
        go_simp
        try with_reducible rfl
      case' rest13q44 =>
        dsimp only [List.getElem?_toArray, List.getElem?_cons_succ, List.getElem?_cons_zero, List.getElem_cons_succ, List.getElem_cons_zero, List.getElem_toArray]
        try simp only [Act.put, List.setIfInBounds_toArray, List.set_cons_zero, List.set_cons_succ]
      refine wpAnyH_take (i := 16) (oi := ?o16q45) (v := ?v16q45) ?hi16q45 (by kernel_rfl) (by kernel_rfl) (by kernel_rfl) (fun _ _ _ h => h) (Or.inl ⟨?hg16q45, ?hy16q45⟩) (by assumption) ?rest16q45
      case hi16q45 => rfl
      case hg16q45 => rfl
      case' hy16q45 =>
        dsimp only [List.getElem?_toArray, List.getElem?_cons_succ, List.getElem?_cons_zero, List.getElem_cons_succ, List.getElem_cons_zero, List.getElem_toArray]
        intro w hSw
        try dsimp only at hSw
        go_simp
        try with_reducible rfl
      case' rest16q45 =>
        dsimp only [List.getElem?_toArray, List.getElem?_cons_succ, List.getElem?_cons_zero, List.getElem_cons_succ, List.getElem_cons_zero, List.getElem_toArray]
        try simp only [Act.put, List.setIfInBounds_toArray, List.set_cons_zero, List.set_cons_succ]
      refine wpAnyH_take (i := 17) (oi := ?o17q46) (v := ?v17q46) ?hi17q46 (by kernel_rfl) (by kernel_rfl) (by kernel_rfl) (fun _ _ _ h => h) (Or.inl ⟨?hg17q46, ?hy17q46⟩) (by assumption) ?rest17q46
      case hi17q46 => rfl
      case hg17q46 => rfl
      case' hy17q46 =>
        dsimp only [List.getElem?_toArray, List.getElem?_cons_succ, List.getElem?_cons_zero, List.getElem_cons_succ, List.getElem_cons_zero, List.getElem_toArray]
        intro w hSw
        try dsimp only at hSw
        go_simp
        try with_reducible rfl
      case' rest17q46 =>
        dsimp only [List.getElem?_toArray, List.getElem?_cons_succ, List.getElem?_cons_zero, List.getElem_cons_succ, List.getElem_cons_zero, List.getElem_toArray]
        try simp only [Act.put, List.setIfInBounds_toArray, List.set_cons_zero, List.set_cons_succ]
      refine wpAnyH_ready (rs := [14]) (by kernel_rfl) (by simp) ?_
      refine AllReadyH.cons rfl (fun K hK => ?_) AllReadyH.nil
      dsimp only [List.getElem?_toArray, List.getElem?_cons_succ, List.getElem?_cons_zero, List.getElem_cons_succ, List.getElem_cons_zero, List.getElem_toArray]
      rw [if_pos (by rfl)]
      go_simp
      go_at_call 33
      refine (ccp.out _ (Below.next kB7.out (by repeat (first | exact Below.refl _ _ | refine Below.later ?_ _ | refine Below.box ?_ _ | refine Below.drew ?_ | refine Below.put ?_ (by dsimp only; omega) _)))).mono ?_
      rintro e w8 ⟨u8, c8, rfl, hM8, _, hB8⟩
      replace hB8 : Below w7.heap.size w7 w8 := Below.next (by repeat (first | exact Below.refl _ _ | refine Below.later ?_ _ | refine Below.box ?_ _ | refine Below.drew ?_ | refine Below.put ?_ (by dsimp only; omega) _)) hB8
      try simp only [kn.out]
      go_wp2
      refine hK.out _ _ ?_ (fun hHeld => ?_)
      · exact hS.out _ (hB8)
      clear hK K
      try simp only [Act.put, List.setIfInBounds_toArray, List.set_cons_zero, List.set_cons_succ]
      refine wpAnyH_ready (rs := [15]) (by kernel_rfl) (by simp) ?_
      refine AllReadyH.cons rfl (fun K hK => ?_) AllReadyH.nil
      dsimp only [List.getElem?_toArray, List.getElem?_cons_succ, List.getElem?_cons_zero, List.getElem_cons_succ, List.getElem_cons_zero, List.getElem_toArray]
      rw [if_pos (by rfl)]
      go_simp
      go_at_call 45
      refine (crk.out _ _ _ hM8).mono ?_
      rintro e w9 ⟨rfl, hB9⟩
      replace hB9 : Below w7.heap.size w7 w9 := Below.next hB8 hB9
      simp only [knp.out]
      go_wp2
      refine hK.out _ _ ?_ (fun hHeld => ?_)
      · exact hS.out _ (hB9)
      clear hK K
      try simp only [Act.put, List.setIfInBounds_toArray, List.set_cons_zero, List.set_cons_succ]
      refine wpAnyH_take (i := 18) (oi := ?o18q47) (v := ?v18q47) ?hi18q47 (by kernel_rfl) (by kernel_rfl) (by kernel_rfl) (fun _ _ _ h => h) (Or.inl ⟨?hg18q47, ?hy18q47⟩) (by assumption) ?rest18q47
      case hi18q47 => rfl
      case hg18q47 => rfl
      case' hy18q47 =>
        dsimp only [List.getElem?_toArray, List.getElem?_cons_succ, List.getElem?_cons_zero, List.getElem_cons_succ, List.getElem_cons_zero, List.getElem_toArray]
        intro w hSw
        try dsimp only at hSw
        go_simp
        try with_reducible rfl
      case' rest18q47 =>
        dsimp only [List.getElem?_toArray, List.getElem?_cons_succ, List.getElem?_cons_zero, List.getElem_cons_succ, List.getElem_cons_zero, List.getElem_toArray]
        try simp only [Act.put, List.setIfInBounds_toArray, List.set_cons_zero, List.set_cons_succ]
      refine wpAnyH_take (i := 19) (oi := ?o19q48) (v := ?v19q48) ?hi19q48 (by kernel_rfl) (by kernel_rfl) (by kernel_rfl) (fun _ _ _ h => h) (Or.inl ⟨?hg19q48, ?hy19q48⟩) (by assumption) ?rest19q48
      case hi19q48 => rfl
      case hg19q48 => rfl
      case' hy19q48 =>
        dsimp only [List.getElem?_toArray, List.getElem?_cons_succ, List.getElem?_cons_zero, List.getElem_cons_succ, List.getElem_cons_zero, List.getElem_toArray]
        intro w hSw
        try dsimp only at hSw
        go_simp
        try with_reducible rfl
      case' rest19q48 =>
        dsimp only [List.getElem?_toArray, List.getElem?_cons_succ, List.getElem?_cons_zero, List.getElem_cons_succ, List.getElem_cons_zero, List.getElem_toArray]
        try simp only [Act.put, List.setIfInBounds_toArray, List.set_cons_zero, List.set_cons_succ]
      refine wpAnyH_done (by kernel_rfl) ?_ _
      refine NoPanic.normal ?_
      have kB9' : Kept (Below w7.heap.size w7 w9) := ⟨hB9⟩
      clear hHeld hM8 hB8 hB9
      go_wp2
      go_loopw [56] (fun v wr => ∃ k : Nat, v = .int .i64 (k : Int) ∧ k ≤ np ∧ Kept (Below w7.heap.size w7 wr)) (fun v _ => ((np : Int) - intOf v).toNat)
      case atStart => exact ⟨0, rfl, by omega, kB9'⟩
      case round =>
        obtain ⟨k, rfl, hk, hB⟩ := hrel
        obtain ⟨w1, rfl⟩ : ∃ x, x = wr := ⟨wr, rfl⟩
        by_cases h5 : k < np
        · obtain ⟨b1, rfl, hb1, hc1⟩ := kpv.out w1 hB.out k h5
          obtain ⟨b2, rfl, hb2, hc2⟩ := kpv7.out w1 hB.out k h5
          generalize piv.getD k 0 = pk at *
          have hd1 : Kept (w1.drew.cell? ⟨b1, k, none⟩ = some (.int .i64 (pk : Int))) := ⟨hc1⟩
          go_wp2
          first | refine region_quiet1 (by kernel_rfl) ?_ | refine region_quiet (by kernel_rfl) ?_
          repeat (go_big_quiet_step (first | fail))
          refine wpQuiet_nil ?_
          intro _
          go_wp2
          go_roundw
          case rel => exact ⟨k + 1, by go_num, by omega, ⟨Below.next hB.out (by repeat (first | exact Below.refl _ _ | refine Below.later ?_ _ | refine Below.box ?_ _ | refine Below.drew ?_ | refine Below.put ?_ (by dsimp only; omega) _))⟩⟩
          case measure => first | (simp [intOf]; omega) | (simp [intOf]; done)
        · have kB10 : Kept (Below w.heap.size w w1) := ⟨Below.next kB7.out hB.out⟩
          go_wp2
          go_ret
          exact ⟨rfl, kB10.out⟩
set_option maxRecDepth 100000 in
theorem lifted (os : Os) (started : os.Started) (H : Type) (enc : TypeId × Value → H) :
    ReturnsInHanded {} Try.checked os 8 .any (Rows.linearReduceSpec.pre6 enc Try.prog Try.f8 Rows.linearReduceRow.domain false) (Rows.linearReduceSpec.post enc Try.prog Try.f8 false true false false) := by
  refine returnsInHanded_of_change (C := Try.checked) own started (by kernel_rfl) Try.func8
    (ChangeSpec.witness6 (enc := enc) (C := Try.checked) false ⟨#[], #[.int .u64 0, .slice none 0 0], []⟩ 8 (by kernel_rfl) (by kernel_rfl) (by kernel_rfl) (by kernel_rfl)) ?_
  intro W base args ds gs before hval0 hW hcnd _
  have hval : ∀ (j : Nat) t v, Try.f8.params[j]? = some t → args[j]? = some v → Value.okWide Try.prog W .any base t v := hval0
  have hW0 : DataW.Whole enc Try.prog Try.f8.params.toList Rows.linearReduceSpec.vars false W args.toList ds gs before := hW
  obtain ⟨p, q, hA0, hV, rfl, _, _⟩ := hW
  have hA : DataW.TrodAll enc Try.prog W 0 (fun _ => true) true Try.f8.params.toList args.toList ds p := hA0
  rw [Try.params8] at hA hval
  obtain ⟨v0, vs0, d0, ds0, p0, q0, hargs, rfl, rfl, h0, r0⟩ := trodAll_cons hA
  obtain ⟨v1, vs1, d1, ds1, p1, q1, rfl, rfl, rfl, h1, r1⟩ := trodAll_cons r0
  obtain ⟨rfl, rfl, rfl⟩ := trodAll_nil r1
  obtain rfl : args = #[v0, v1] := by cases args; simp_all
  obtain ⟨rfl, rfl⟩ := trodVars_none hV
  obtain ⟨a0, rfl, u0⟩ := open_u64 (hval 0 22 v0 rfl rfl)
  obtain ⟨a1x, a1y, a1z, rfl, u1⟩ := open_mat (hval 1 28 v1 rfl rfl) h1
  clear hA0 hval0
  refine (walk W a0 u0 a1x a1y a1z u1).mono fun e W' ⟨he, hb⟩ => ⟨.bool true, he, ?_⟩
  exact law_post (fun t ht => by have ht' : t ∈ [22, 28] := ht; simp only [List.mem_cons, List.not_mem_nil, or_false] at ht'; rcases ht' with rfl | rfl <;> exact ⟨by kernel_rfl, of_decide_eq_true (by kernel_rfl)⟩) rfl rfl hW0 rfl hb

theorem over : Rows.linearReduceRow.holds Try.pinned (OpenSpec.ofChange Rows.linearReduceSpec) :=
  OpenClaim.holds_of_wide 8 Try.f8 rfl rfl rfl rfl rfl rfl rfl ⟨rfl, rfl, rfl, rfl, rfl⟩ rfl rfl rfl rfl rfl (by kernel_rfl) Try.func8 (by kernel_rfl)
    (of_decide_eq_true (by kernel_rfl)) (by unfold Func.isWrapper; first | (rw [if_pos (by decide +kernel)]; kernel_rfl) | (rw [if_neg (by decide +kernel)]; exact ⟨rfl, rfl⟩))
    (fun os started H enc _ => lifted os started H enc)

/-- The statement. -/
theorem proved : Rows.LinearReduceSaid := over
#print axioms proved
end Go.Proofs.Ytjnlnbkdnjainaa.linearReduce
