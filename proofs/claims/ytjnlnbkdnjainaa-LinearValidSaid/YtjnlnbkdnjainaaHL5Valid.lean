/- LinearValid: for any matrix the call returns true: Valid accepts what the reference accepts, and for others Reduce, Rank, Determinant and Kernel return nothing (matrices of at most 80 rows of at most 80 elements; for others there is nothing to show). No condition. -/
import Derived.Test.YtjnlnbkdnjainaaHL5a
namespace Go.Proofs.Ytjnlnbkdnjainaa.linearValid
open Go.ChangeShapes Go.WideShapes Go.ChangeAt Go.RowKit Go.Sort

theorem v97 : vld 97 = true := by kernel_rfl
set_option maxHeartbeats 8000000 in
set_option maxRecDepth 100000 in
theorem walk (w : World) (u : Option Addr) (ls : List (List Int)) (c : Nat) (h1 : Arg w u c ls) :
    Calls Try.prog 9 #[.slice u ls.length c] w (Gives (.bool true) w) := by
  have hs := h1.1.small
  obtain ⟨n, hn⟩ : ∃ n, ls.length = n := ⟨_, rfl⟩
  have csm : Kept (∀ w', Below w.heap.size w w' → Calls Try.prog 36 #[.slice u n c, .int .i64 80] w' (Gives (.bool (smlM ls 80)) w')) := ⟨fun w' hw => by have := small_c u c ls 80 (by omega) w' (h1.mt hw); rw [hn] at this; exact this⟩
  cases hsm : smlM ls 80
  · rw [hsm] at csm
    rw [hn] at hs ⊢
    clear h1 hsm hn
    go_enter Try.func9, Try.ntmps9
    go_wp2_with (first | (go_at_call 30; (first | with_reducible refine use1 (awake05_c _) ?_ | with_reducible refine use (awake05_c _) ?_); intro pw) | (go_at_call 36; (first | with_reducible refine use1 (csm.out _ (by repeat (first | exact Below.refl _ _ | refine Below.later ?_ _ | refine Below.box ?_ _ | refine Below.drew ?_ | refine Below.put ?_ (by dsimp only; omega) _))) ?_ | with_reducible refine use (csm.out _ (by repeat (first | exact Below.refl _ _ | refine Below.later ?_ _ | refine Below.box ?_ _ | refine Below.drew ?_ | refine Below.put ?_ (by dsimp only; omega) _))) ?_); intro pw))
    go_ret
    exact ⟨rfl, (by repeat (first | exact Below.refl _ _ | refine Below.later ?_ _ | refine Below.box ?_ _ | refine Below.drew ?_ | refine Below.put ?_ (by dsimp only; omega) _))⟩
  · rw [hsm] at csm
    have ccp : Kept (∀ w', Below w.heap.size w w' → Calls Try.prog 33 #[.slice u n c] w' (GivesC ls w')) := ⟨fun w' hw => by have := h1.cp hsm (by omega) hw; rw [hn] at this; exact this⟩
    have crv : Kept (∀ w', Below w.heap.size w w' → Calls Try.prog 38 #[.slice u n c] w' (Gives (.bool (vldM ls)) w')) := ⟨fun w' hw => by have := rvalidm_c u c ls w' (h1.mt hw); rw [hn] at this; exact this⟩
    have clv : Kept (∀ w' u c, Mt w' u ls → Calls Try.prog 46 #[.slice u n c] w' (Gives (.bool (vldM ls)) w')) := ⟨fun w' u c h => by have := lvalid_c u c ls w' h; rw [hn] at this; exact this⟩
    cases hM : vldM ls
    · have hV : (vld 97 && vldM ls) = false := by rw [hM, Bool.and_false]
      have crd : Kept (∀ w' u c, Mt w' u ls → Calls Try.prog 44 #[.agg #[.int .u64 97], .slice u n c] w' (Gives (.tuple #[.slice none 0 0, .slice none 0 0]) w')) := ⟨fun w' u c h => by have := reduce_no 97 u c ls w' h hV; rw [hn] at this; exact this⟩
      have crk : Kept (∀ w' u c, Mt w' u ls → Calls Try.prog 45 #[.agg #[.int .u64 97], .slice u n c] w' (Gives (.int .i64 0) w')) := ⟨fun w' u c h => by have := rank_no 97 u c ls w' h hV; rw [hn] at this; exact this⟩
      have cke : Kept (∀ w' u c, Mt w' u ls → Calls Try.prog 32 #[.agg #[.int .u64 97], .slice u n c] w' (Gives (.slice none 0 0) w')) := ⟨fun w' u c h => by have := kernel_no 97 u c ls w' h hV; rw [hn] at this; exact this⟩
      have hd : detE 97 ls = 0 := by unfold detE; rw [hV]; simp
      have cdt : Kept (∀ w' u c, Mt w' u ls → Calls Try.prog 20 #[.agg #[.int .u64 97], .slice u n c] w' (fun e w'' => e = .returned (.int .u64 0) ∧ Below w'.heap.size w' w'')) := ⟨fun w' u c h => by have := det_c 97 u c ls w' h; rw [hn, hd] at this; exact this⟩
      rw [hM] at crv clv
      clear hV hM hd
      rw [hn] at hs ⊢
      have kn := (⟨hn⟩ : Kept _)
      clear h1 hsm hn
      go_enter Try.func9, Try.ntmps9
      go_wp2_with (first | (go_at_call 30; (first | with_reducible refine use1 (awake05_c _) ?_ | with_reducible refine use (awake05_c _) ?_); intro pw) | (go_at_call 36; (first | with_reducible refine use1 (csm.out _ (by repeat (first | exact Below.refl _ _ | refine Below.later ?_ _ | refine Below.box ?_ _ | refine Below.drew ?_ | refine Below.put ?_ (by dsimp only; omega) _))) ?_ | with_reducible refine use (csm.out _ (by repeat (first | exact Below.refl _ _ | refine Below.later ?_ _ | refine Below.box ?_ _ | refine Below.drew ?_ | refine Below.put ?_ (by dsimp only; omega) _))) ?_); intro pw) | (go_at_call 33; refine (ccp.out _ (by repeat (first | exact Below.refl _ _ | refine Below.later ?_ _ | refine Below.box ?_ _ | refine Below.drew ?_ | refine Below.put ?_ (by dsimp only; omega) _))).mono ?_; rintro e w3 ⟨u3, c3, rfl, hM3, _, hB3⟩; refine Stop.out ?_))
      refine ⟨?_⟩
      have kB3 : Kept (Below w.heap.size w w3) := ⟨Below.next (by repeat (first | exact Below.refl _ _ | refine Below.later ?_ _ | refine Below.box ?_ _ | refine Below.drew ?_ | refine Below.put ?_ (by dsimp only; omega) _)) hB3⟩
      have kM3 := (⟨hM3⟩ : Kept _)
      clear hM3 hB3
      simp only [kn.out]
      go_wp2_with (first | (go_at_call 46; refine use (clv.out _ _ _ kM3.out) ?_; intro pw4) | (go_at_call 38; refine use (crv.out _ (Below.later kB3.out _)) ?_; intro pw5))
      obtain ⟨w4, hw4⟩ : ∃ w4, w4 = after (after w3 pw4) pw5 := ⟨_, rfl⟩
      have hXs : w3.heap.size + pw4.os.size + pw5.os.size = w4.heap.size := by rw [hw4]; simp
      rw [hXs, ← hw4]
      have kB4 : Kept (Below w.heap.size w w4) := ⟨by rw [hw4]; exact Below.next kB3.out (by repeat (first | exact Below.refl _ _ | refine Below.later ?_ _ | refine Below.box ?_ _ | refine Below.drew ?_ | refine Below.put ?_ (by dsimp only; omega) _))⟩
      obtain ⟨X, hX⟩ : ∃ X, w4.heap.size = X := ⟨_, rfl⟩
      have hB1 : Below w.heap.size w (w4.alloc (.cells #[.int .u64 97] 27)) := Below.next kB4.out (by repeat (first | exact Below.refl _ _ | refine Below.later ?_ _ | refine Below.box ?_ _ | refine Below.drew ?_ | refine Below.put ?_ (by dsimp only; omega) _))
      have hb1 : (w4.alloc (.cells #[.int .u64 97] 27)).cell? ⟨X, 0, none⟩ = some (.int .u64 97) := by rw [← hX]; simp [go_sem]
      have hl1 : X < (w4.alloc (.cells #[.int .u64 97] 27)).heap.size := by rw [← hX]; simp
      rw [hX]
      generalize w4.alloc (.cells #[.int .u64 97] 27) = W1 at hB1 hb1 hl1 ⊢
      have kB1 := (⟨hB1⟩ : Kept _)
      have hS : Kept (∀ w', Below W1.heap.size W1 w' → w'.cell? ⟨X, 0, none⟩ = some (.int .u64 97)) := ⟨fun w' hw => by rw [hw.cell (p := ⟨X, 0, none⟩) hl1]; exact hb1⟩
      clear hB1 hX csm clv hXs hw4 kB3 kM3
      refine wp_region_noPanic ?_
      refine wp_region_held_drew (S := (fun w' => w'.cell? ⟨X, 0, none⟩ = some (.int .u64 97))) (by kernel_rfl) (hS.out _ (by repeat (first | exact Below.refl _ _ | refine Below.later ?_ _ | refine Below.box ?_ _ | refine Below.drew ?_ | refine Below.put ?_ (by dsimp only; omega) _))) (fun hHeld => ?_)
      refine wpAnyH_take (i := 0) (oi := ?o0q1) (v := ?v0q1) ?hi0q1 (by kernel_rfl) (by kernel_rfl) (by kernel_rfl) (fun _ _ _ h => h) (Or.inl ⟨?hg0q1, ?hy0q1⟩) (by assumption) ?rest0q1
      case hi0q1 => rfl
      case hg0q1 => rfl
      case' hy0q1 =>
        dsimp only [List.getElem?_toArray, List.getElem?_cons_succ, List.getElem?_cons_zero, List.getElem_cons_succ, List.getElem_cons_zero, List.getElem_toArray]
        intro w hSw
        try dsimp only at hSw
        go_simp
        try with_reducible rfl
      case' rest0q1 =>
        dsimp only [List.getElem?_toArray, List.getElem?_cons_succ, List.getElem?_cons_zero, List.getElem_cons_succ, List.getElem_cons_zero, List.getElem_toArray]
        try simp only [Act.put, List.setIfInBounds_toArray, List.set_cons_zero, List.set_cons_succ]
      refine wpAnyH_take (i := 1) (oi := ?o1q2) (v := ?v1q2) ?hi1q2 (by kernel_rfl) (by kernel_rfl) (by kernel_rfl) (fun _ _ _ h => h) (Or.inl ⟨?hg1q2, ?hy1q2⟩) (by assumption) ?rest1q2
      case hi1q2 => rfl
      case hg1q2 => rfl
      case' hy1q2 =>
        dsimp only [List.getElem?_toArray, List.getElem?_cons_succ, List.getElem?_cons_zero, List.getElem_cons_succ, List.getElem_cons_zero, List.getElem_toArray]
        intro w hSw
        try dsimp only at hSw
        go_simp
        try with_reducible rfl
      case' rest1q2 =>
        dsimp only [List.getElem?_toArray, List.getElem?_cons_succ, List.getElem?_cons_zero, List.getElem_cons_succ, List.getElem_cons_zero, List.getElem_toArray]
        try simp only [Act.put, List.setIfInBounds_toArray, List.set_cons_zero, List.set_cons_succ]
      refine wpAnyH_ready (rs := [2]) (by kernel_rfl) (by simp) ?_
      refine AllReadyH.cons rfl (fun K hK => ?_) AllReadyH.nil
      dsimp only [List.getElem?_toArray, List.getElem?_cons_succ, List.getElem?_cons_zero, List.getElem_cons_succ, List.getElem_cons_zero, List.getElem_toArray]
      go_simp
      go_at_call 33
      refine (ccp.out _ (Below.next kB1.out (by repeat (first | exact Below.refl _ _ | refine Below.later ?_ _ | refine Below.box ?_ _ | refine Below.drew ?_ | refine Below.put ?_ (by dsimp only; omega) _)))).mono ?_
      rintro e w5 ⟨u5, c5, rfl, hM5, _, hB5⟩
      replace hB5 : Below W1.heap.size W1 w5 := Below.next (by repeat (first | exact Below.refl _ _ | refine Below.later ?_ _ | refine Below.box ?_ _ | refine Below.drew ?_ | refine Below.put ?_ (by dsimp only; omega) _)) hB5
      try simp only [kn.out]
      go_wp2
      refine hK.out _ _ ?_ (fun hHeld => ?_)
      · exact hS.out _ (hB5)
      clear hK K
      try simp only [Act.put, List.setIfInBounds_toArray, List.set_cons_zero, List.set_cons_succ]
      refine wpAnyH_ready (rs := [3]) (by kernel_rfl) (by simp) ?_
      refine AllReadyH.cons rfl (fun K hK => ?_) AllReadyH.nil
      dsimp only [List.getElem?_toArray, List.getElem?_cons_succ, List.getElem?_cons_zero, List.getElem_cons_succ, List.getElem_cons_zero, List.getElem_toArray]
      go_simp
      go_at_call 44
      refine use (crd.out _ _ _ hM5) ?_
      intro pw3
      replace hB5 : Below W1.heap.size W1 (after w5 pw3) := Below.later hB5 _
      clear hM5
      generalize after w5 pw3 = w6 at hB5 ⊢
      go_wp2
      refine hK.out _ _ ?_ (fun hHeld => ?_)
      · exact hS.out _ (hB5)
      clear hK K
      try simp only [Act.put, List.setIfInBounds_toArray, List.set_cons_zero, List.set_cons_succ]
      refine wpAnyH_take (i := 4) (oi := ?o4q3) (v := ?v4q3) ?hi4q3 (by kernel_rfl) (by kernel_rfl) (by kernel_rfl) (fun _ _ _ h => h) (Or.inl ⟨?hg4q3, ?hy4q3⟩) (by assumption) ?rest4q3
      case hi4q3 => rfl
      case hg4q3 => rfl
      case' hy4q3 =>
        dsimp only [List.getElem?_toArray, List.getElem?_cons_succ, List.getElem?_cons_zero, List.getElem_cons_succ, List.getElem_cons_zero, List.getElem_toArray]
        intro w hSw
        try dsimp only at hSw
        go_simp
        try with_reducible rfl
      case' rest4q3 =>
        dsimp only [List.getElem?_toArray, List.getElem?_cons_succ, List.getElem?_cons_zero, List.getElem_cons_succ, List.getElem_cons_zero, List.getElem_toArray]
        try simp only [Act.put, List.setIfInBounds_toArray, List.set_cons_zero, List.set_cons_succ]
      refine wpAnyH_take (i := 5) (oi := ?o5q4) (v := ?v5q4) ?hi5q4 (by kernel_rfl) (by kernel_rfl) (by kernel_rfl) (fun _ _ _ h => h) (Or.inl ⟨?hg5q4, ?hy5q4⟩) (by assumption) ?rest5q4
      case hi5q4 => rfl
      case hg5q4 => rfl
      case' hy5q4 =>
        dsimp only [List.getElem?_toArray, List.getElem?_cons_succ, List.getElem?_cons_zero, List.getElem_cons_succ, List.getElem_cons_zero, List.getElem_toArray]
        intro w hSw
        try dsimp only at hSw
        go_simp
        try with_reducible rfl
      case' rest5q4 =>
        dsimp only [List.getElem?_toArray, List.getElem?_cons_succ, List.getElem?_cons_zero, List.getElem_cons_succ, List.getElem_cons_zero, List.getElem_toArray]
        try simp only [Act.put, List.setIfInBounds_toArray, List.set_cons_zero, List.set_cons_succ]
      refine wpAnyH_take (i := 6) (oi := ?o6q5) (v := ?v6q5) ?hi6q5 (by kernel_rfl) (by kernel_rfl) (by kernel_rfl) (fun _ _ _ h => h) (Or.inl ⟨?hg6q5, ?hy6q5⟩) (by assumption) ?rest6q5
      case hi6q5 => rfl
      case hg6q5 => rfl
      case' hy6q5 =>
        dsimp only [List.getElem?_toArray, List.getElem?_cons_succ, List.getElem?_cons_zero, List.getElem_cons_succ, List.getElem_cons_zero, List.getElem_toArray]
        intro w hSw
        try dsimp only at hSw
        go_simp
        try with_reducible rfl
      case' rest6q5 =>
        dsimp only [List.getElem?_toArray, List.getElem?_cons_succ, List.getElem?_cons_zero, List.getElem_cons_succ, List.getElem_cons_zero, List.getElem_toArray]
        try simp only [Act.put, List.setIfInBounds_toArray, List.set_cons_zero, List.set_cons_succ]
      refine wpAnyH_take (i := 7) (oi := ?o7q6) (v := ?v7q6) ?hi7q6 (by kernel_rfl) (by kernel_rfl) (by kernel_rfl) (fun _ _ _ h => h) (Or.inl ⟨?hg7q6, ?hy7q6⟩) (by assumption) ?rest7q6
      case hi7q6 => rfl
      case hg7q6 => rfl
      case' hy7q6 =>
        dsimp only [List.getElem?_toArray, List.getElem?_cons_succ, List.getElem?_cons_zero, List.getElem_cons_succ, List.getElem_cons_zero, List.getElem_toArray]
        intro w hSw
        try dsimp only at hSw
        go_simp
        try with_reducible rfl
      case' rest7q6 =>
        dsimp only [List.getElem?_toArray, List.getElem?_cons_succ, List.getElem?_cons_zero, List.getElem_cons_succ, List.getElem_cons_zero, List.getElem_toArray]
        try simp only [Act.put, List.setIfInBounds_toArray, List.set_cons_zero, List.set_cons_succ]
      refine wpAnyH_take (i := 8) (oi := ?o8q7) (v := ?v8q7) ?hi8q7 (by kernel_rfl) (by kernel_rfl) (by kernel_rfl) (fun _ _ _ h => h) (Or.inl ⟨?hg8q7, ?hy8q7⟩) (by assumption) ?rest8q7
      case hi8q7 => rfl
      case hg8q7 => rfl
      case' hy8q7 =>
        dsimp only [List.getElem?_toArray, List.getElem?_cons_succ, List.getElem?_cons_zero, List.getElem_cons_succ, List.getElem_cons_zero, List.getElem_toArray]
        intro w hSw
        try dsimp only at hSw
        go_simp
        try with_reducible rfl
      case' rest8q7 =>
        dsimp only [List.getElem?_toArray, List.getElem?_cons_succ, List.getElem?_cons_zero, List.getElem_cons_succ, List.getElem_cons_zero, List.getElem_toArray]
        try simp only [Act.put, List.setIfInBounds_toArray, List.set_cons_zero, List.set_cons_succ]
      refine wpAnyH_done (by kernel_rfl) ?_ _
      refine NoPanic.normal ?_
      have kB6 : Kept (Below w.heap.size w w6) := ⟨Below.next kB1.out hB5⟩
      have hS7 := hS
      have kB6' : Kept (Below W1.heap.size W1 w6) := ⟨hB5⟩
      clear hS hHeld hB5
      have hS : Kept (∀ w', Below w6.heap.size w6 w' → w'.cell? ⟨X, 0, none⟩ = some (.int .u64 97)) := ⟨fun w' hw => hS7.out w' (Below.next kB6'.out hw)⟩
      go_wp2
      refine wp_region_noPanic ?_
      refine wp_region_held_drew (S := (fun w' => w'.cell? ⟨X, 0, none⟩ = some (.int .u64 97))) (by kernel_rfl) (hS.out _ (by repeat (first | exact Below.refl _ _ | refine Below.later ?_ _ | refine Below.box ?_ _ | refine Below.drew ?_ | refine Below.put ?_ (by dsimp only; omega) _))) (fun hHeld => ?_)
      refine wpAnyH_take (i := 0) (oi := ?o0q8) (v := ?v0q8) ?hi0q8 (by kernel_rfl) (by kernel_rfl) (by kernel_rfl) (fun _ _ _ h => h) (Or.inl ⟨?hg0q8, ?hy0q8⟩) (by assumption) ?rest0q8
      case hi0q8 => rfl
      case hg0q8 => rfl
      case' hy0q8 =>
        dsimp only [List.getElem?_toArray, List.getElem?_cons_succ, List.getElem?_cons_zero, List.getElem_cons_succ, List.getElem_cons_zero, List.getElem_toArray]
        intro w hSw
        try dsimp only at hSw
        go_simp
        try with_reducible rfl
      case' rest0q8 =>
        dsimp only [List.getElem?_toArray, List.getElem?_cons_succ, List.getElem?_cons_zero, List.getElem_cons_succ, List.getElem_cons_zero, List.getElem_toArray]
        try simp only [Act.put, List.setIfInBounds_toArray, List.set_cons_zero, List.set_cons_succ]
      refine wpAnyH_ready (rs := [1]) (by kernel_rfl) (by simp) ?_
      refine AllReadyH.cons rfl (fun K hK => ?_) AllReadyH.nil
      dsimp only [List.getElem?_toArray, List.getElem?_cons_succ, List.getElem?_cons_zero, List.getElem_cons_succ, List.getElem_cons_zero, List.getElem_toArray]
      go_simp
      go_at_call 38
      refine use (crv.out _ (Below.next kB6.out (by repeat (first | exact Below.refl _ _ | refine Below.later ?_ _ | refine Below.box ?_ _ | refine Below.drew ?_ | refine Below.put ?_ (by dsimp only; omega) _)))) ?_
      intro pw7
      go_wp2
      refine hK.out _ _ ?_ (fun hHeld => ?_)
      · exact hS.out _ (by repeat (first | exact Below.refl _ _ | refine Below.later ?_ _ | refine Below.box ?_ _ | refine Below.drew ?_ | refine Below.put ?_ (by dsimp only; omega) _))
      clear hK K
      try simp only [Act.put, List.setIfInBounds_toArray, List.set_cons_zero, List.set_cons_succ]
      refine wpAnyH_take (i := 2) (oi := ?o2q9) (v := ?v2q9) ?hi2q9 (by kernel_rfl) (by kernel_rfl) (by kernel_rfl) (fun _ _ _ h => h) (Or.inl ⟨?hg2q9, ?hy2q9⟩) (by assumption) ?rest2q9
      case hi2q9 => rfl
      case hg2q9 => rfl
      case' hy2q9 =>
        dsimp only [List.getElem?_toArray, List.getElem?_cons_succ, List.getElem?_cons_zero, List.getElem_cons_succ, List.getElem_cons_zero, List.getElem_toArray]
        intro w hSw
        try dsimp only at hSw
        go_simp
        try with_reducible rfl
      case' rest2q9 =>
        dsimp only [List.getElem?_toArray, List.getElem?_cons_succ, List.getElem?_cons_zero, List.getElem_cons_succ, List.getElem_cons_zero, List.getElem_toArray]
        try simp only [Act.put, List.setIfInBounds_toArray, List.set_cons_zero, List.set_cons_succ]
      have kB7 : Kept (Below w6.heap.size w6 (after w6.drew pw7)) := ⟨(by repeat (first | exact Below.refl _ _ | refine Below.later ?_ _ | refine Below.box ?_ _ | refine Below.drew ?_ | refine Below.put ?_ (by dsimp only; omega) _))⟩
      refine wpAnyH_take (i := 3) (oi := ?o3q10) (v := ?v3q10) ?hi3q10 (by kernel_rfl) (by kernel_rfl) (by kernel_rfl) (fun _ _ _ h => h) (Or.inl ⟨?hg3q10, ?hy3q10⟩) (by assumption) ?rest3q10
      case hi3q10 => rfl
      case hg3q10 => rfl
      case' hy3q10 =>
        dsimp only [List.getElem?_toArray, List.getElem?_cons_succ, List.getElem?_cons_zero, List.getElem_cons_succ, List.getElem_cons_zero, List.getElem_toArray]
        intro w hSw
        try dsimp only at hSw
        go_simp
        try with_reducible rfl
      case' rest3q10 =>
        dsimp only [List.getElem?_toArray, List.getElem?_cons_succ, List.getElem?_cons_zero, List.getElem_cons_succ, List.getElem_cons_zero, List.getElem_toArray]
        try simp only [Act.put, List.setIfInBounds_toArray, List.set_cons_zero, List.set_cons_succ]
      refine wpAnyH_take (i := 4) (oi := ?o4q11) (v := ?v4q11) ?hi4q11 (by kernel_rfl) (by kernel_rfl) (by kernel_rfl) (fun _ _ _ h => h) (Or.inl ⟨?hg4q11, ?hy4q11⟩) (by assumption) ?rest4q11
      case hi4q11 => rfl
      case hg4q11 => rfl
      case' hy4q11 =>
        dsimp only [List.getElem?_toArray, List.getElem?_cons_succ, List.getElem?_cons_zero, List.getElem_cons_succ, List.getElem_cons_zero, List.getElem_toArray]
        intro w hSw
        try dsimp only at hSw
        go_simp
        try with_reducible rfl
      case' rest4q11 =>
        dsimp only [List.getElem?_toArray, List.getElem?_cons_succ, List.getElem?_cons_zero, List.getElem_cons_succ, List.getElem_cons_zero, List.getElem_toArray]
        try simp only [Act.put, List.setIfInBounds_toArray, List.set_cons_zero, List.set_cons_succ]
      refine wpAnyH_take (i := 5) (oi := ?o5q12) (v := ?v5q12) ?hi5q12 (by kernel_rfl) (by kernel_rfl) (by kernel_rfl) (fun _ _ _ h => h) (Or.inl ⟨?hg5q12, ?hy5q12⟩) (by assumption) ?rest5q12
      case hi5q12 => rfl
      case hg5q12 => rfl
      case' hy5q12 =>
        dsimp only [List.getElem?_toArray, List.getElem?_cons_succ, List.getElem?_cons_zero, List.getElem_cons_succ, List.getElem_cons_zero, List.getElem_toArray]
        intro w hSw
        try dsimp only at hSw
        go_simp
        try with_reducible rfl
      case' rest5q12 =>
        dsimp only [List.getElem?_toArray, List.getElem?_cons_succ, List.getElem?_cons_zero, List.getElem_cons_succ, List.getElem_cons_zero, List.getElem_toArray]
        try simp only [Act.put, List.setIfInBounds_toArray, List.set_cons_zero, List.set_cons_succ]
      refine wpAnyH_take (i := 6) (oi := ?o6q13) (v := ?v6q13) ?hi6q13 (by kernel_rfl) (by kernel_rfl) (by kernel_rfl) (fun _ _ _ h => h) (Or.inl ⟨?hg6q13, ?hy6q13⟩) (by assumption) ?rest6q13
      case hi6q13 => rfl
      case hg6q13 => rfl
      case' hy6q13 =>
        dsimp only [List.getElem?_toArray, List.getElem?_cons_succ, List.getElem?_cons_zero, List.getElem_cons_succ, List.getElem_cons_zero, List.getElem_toArray]
        intro w hSw
        try dsimp only at hSw
        go_simp
        try with_reducible rfl
      case' rest6q13 =>
        dsimp only [List.getElem?_toArray, List.getElem?_cons_succ, List.getElem?_cons_zero, List.getElem_cons_succ, List.getElem_cons_zero, List.getElem_toArray]
        try simp only [Act.put, List.setIfInBounds_toArray, List.set_cons_zero, List.set_cons_succ]
      refine wpAnyH_take (i := 7) (oi := ?o7q14) (v := ?v7q14) ?hi7q14 (by kernel_rfl) (by kernel_rfl) (by kernel_rfl) (fun _ _ _ h => h) (Or.inl ⟨?hg7q14, ?hy7q14⟩) (by assumption) ?rest7q14
      case hi7q14 => rfl
      case hg7q14 => rfl
      case' hy7q14 =>
        dsimp only [List.getElem?_toArray, List.getElem?_cons_succ, List.getElem?_cons_zero, List.getElem_cons_succ, List.getElem_cons_zero, List.getElem_toArray]
        intro w hSw
        try dsimp only at hSw
        go_simp
        try with_reducible rfl
      case' rest7q14 =>
        dsimp only [List.getElem?_toArray, List.getElem?_cons_succ, List.getElem?_cons_zero, List.getElem_cons_succ, List.getElem_cons_zero, List.getElem_toArray]
        try simp only [Act.put, List.setIfInBounds_toArray, List.set_cons_zero, List.set_cons_succ]
      refine wpAnyH_take (i := 8) (oi := ?o8q15) (v := ?v8q15) ?hi8q15 (by kernel_rfl) (by kernel_rfl) (by kernel_rfl) (fun _ _ _ h => h) (Or.inl ⟨?hg8q15, ?hy8q15⟩) (by assumption) ?rest8q15
      case hi8q15 => rfl
      case hg8q15 => rfl
      case' hy8q15 =>
        dsimp only [List.getElem?_toArray, List.getElem?_cons_succ, List.getElem?_cons_zero, List.getElem_cons_succ, List.getElem_cons_zero, List.getElem_toArray]
        intro w hSw
        try dsimp only at hSw
        go_simp
        try with_reducible rfl
      case' rest8q15 =>
        dsimp only [List.getElem?_toArray, List.getElem?_cons_succ, List.getElem?_cons_zero, List.getElem_cons_succ, List.getElem_cons_zero, List.getElem_toArray]
        try simp only [Act.put, List.setIfInBounds_toArray, List.set_cons_zero, List.set_cons_succ]
      refine wpAnyH_take (i := 9) (oi := ?o9q16) (v := ?v9q16) ?hi9q16 (by kernel_rfl) (by kernel_rfl) (by kernel_rfl) (fun _ _ _ h => h) (Or.inl ⟨?hg9q16, ?hy9q16⟩) (by assumption) ?rest9q16
      case hi9q16 => rfl
      case hg9q16 => rfl
      case' hy9q16 =>
        dsimp only [List.getElem?_toArray, List.getElem?_cons_succ, List.getElem?_cons_zero, List.getElem_cons_succ, List.getElem_cons_zero, List.getElem_toArray]
        intro w hSw
        try dsimp only at hSw
        go_simp
        try with_reducible rfl
      case' rest9q16 =>
        dsimp only [List.getElem?_toArray, List.getElem?_cons_succ, List.getElem?_cons_zero, List.getElem_cons_succ, List.getElem_cons_zero, List.getElem_toArray]
        try simp only [Act.put, List.setIfInBounds_toArray, List.set_cons_zero, List.set_cons_succ]
      refine wpAnyH_take (i := 10) (oi := ?o10q17) (v := ?v10q17) ?hi10q17 (by kernel_rfl) (by kernel_rfl) (by kernel_rfl) (fun _ _ _ h => h) (Or.inl ⟨?hg10q17, ?hy10q17⟩) (by assumption) ?rest10q17
      case hi10q17 => rfl
      case hg10q17 => rfl
      case' hy10q17 =>
        dsimp only [List.getElem?_toArray, List.getElem?_cons_succ, List.getElem?_cons_zero, List.getElem_cons_succ, List.getElem_cons_zero, List.getElem_toArray]
        intro w hSw
        try dsimp only at hSw
        go_simp
        try with_reducible rfl
      case' rest10q17 =>
        dsimp only [List.getElem?_toArray, List.getElem?_cons_succ, List.getElem?_cons_zero, List.getElem_cons_succ, List.getElem_cons_zero, List.getElem_toArray]
        try simp only [Act.put, List.setIfInBounds_toArray, List.set_cons_zero, List.set_cons_succ]
      refine wpAnyH_take (i := 11) (oi := ?o11q18) (v := ?v11q18) ?hi11q18 (by kernel_rfl) (by kernel_rfl) (by kernel_rfl) (fun _ _ _ h => h) (Or.inl ⟨?hg11q18, ?hy11q18⟩) (by assumption) ?rest11q18
      case hi11q18 => rfl
      case hg11q18 => rfl
      case' hy11q18 =>
        dsimp only [List.getElem?_toArray, List.getElem?_cons_succ, List.getElem?_cons_zero, List.getElem_cons_succ, List.getElem_cons_zero, List.getElem_toArray]
        intro w hSw
        try dsimp only at hSw
        go_simp
        try with_reducible rfl
      case' rest11q18 =>
        dsimp only [List.getElem?_toArray, List.getElem?_cons_succ, List.getElem?_cons_zero, List.getElem_cons_succ, List.getElem_cons_zero, List.getElem_toArray]
        try simp only [Act.put, List.setIfInBounds_toArray, List.set_cons_zero, List.set_cons_succ]
      refine wpAnyH_take (i := 12) (oi := ?o12q19) (v := ?v12q19) ?hi12q19 (by kernel_rfl) (by kernel_rfl) (by kernel_rfl) (fun _ _ _ h => h) (Or.inl ⟨?hg12q19, ?hy12q19⟩) (by assumption) ?rest12q19
      case hi12q19 => rfl
      case hg12q19 => rfl
      case' hy12q19 =>
        dsimp only [List.getElem?_toArray, List.getElem?_cons_succ, List.getElem?_cons_zero, List.getElem_cons_succ, List.getElem_cons_zero, List.getElem_toArray]
        intro w hSw
        try dsimp only at hSw
        go_simp
        try with_reducible rfl
      case' rest12q19 =>
        dsimp only [List.getElem?_toArray, List.getElem?_cons_succ, List.getElem?_cons_zero, List.getElem_cons_succ, List.getElem_cons_zero, List.getElem_toArray]
        try simp only [Act.put, List.setIfInBounds_toArray, List.set_cons_zero, List.set_cons_succ]
      refine wpAnyH_take (i := 13) (oi := ?o13q20) (v := ?v13q20) ?hi13q20 (by kernel_rfl) (by kernel_rfl) (by kernel_rfl) (fun _ _ _ h => h) (Or.inl ⟨?hg13q20, ?hy13q20⟩) (by assumption) ?rest13q20
      case hi13q20 => rfl
      case hg13q20 => rfl
      case' hy13q20 =>
        dsimp only [List.getElem?_toArray, List.getElem?_cons_succ, List.getElem?_cons_zero, List.getElem_cons_succ, List.getElem_cons_zero, List.getElem_toArray]
        intro w hSw
        try dsimp only at hSw
        go_simp
        try with_reducible rfl
      case' rest13q20 =>
        dsimp only [List.getElem?_toArray, List.getElem?_cons_succ, List.getElem?_cons_zero, List.getElem_cons_succ, List.getElem_cons_zero, List.getElem_toArray]
        try simp only [Act.put, List.setIfInBounds_toArray, List.set_cons_zero, List.set_cons_succ]
      refine wpAnyH_ready (rs := [14]) (by kernel_rfl) (by simp) ?_
      refine AllReadyH.cons rfl (fun K hK => ?_) AllReadyH.nil
      dsimp only [List.getElem?_toArray, List.getElem?_cons_succ, List.getElem?_cons_zero, List.getElem_cons_succ, List.getElem_cons_zero, List.getElem_toArray]
      rw [if_pos (by rfl)]
      go_simp
      go_at_call 33
      refine (ccp.out _ (Below.next kB6.out kB7.out)).mono ?_
      rintro e w8 ⟨u8, c8, rfl, hM8, _, hB8⟩
      replace hB8 : Below w6.heap.size w6 w8 := Below.next kB7.out hB8
      try simp only [kn.out]
      go_wp2
      refine hK.out _ _ ?_ (fun hHeld => ?_)
      · exact hS.out _ (hB8)
      clear hK K
      try simp only [Act.put, List.setIfInBounds_toArray, List.set_cons_zero, List.set_cons_succ]
      refine wpAnyH_ready (rs := [15]) (by kernel_rfl) (by simp) ?_
      refine AllReadyH.cons rfl (fun K hK => ?_) AllReadyH.nil
      dsimp only [List.getElem?_toArray, List.getElem?_cons_succ, List.getElem?_cons_zero, List.getElem_cons_succ, List.getElem_cons_zero, List.getElem_toArray]
      rw [if_pos (by rfl)]
      go_simp
      go_at_call 45
      refine use (crk.out _ _ _ hM8) ?_
      intro pw8
      go_wp2
      replace hB8 : Below w6.heap.size w6 (after w8 pw8) := Below.later hB8 _
      clear hM8
      generalize after w8 pw8 = w9 at hB8 hK ⊢
      refine hK.out _ _ ?_ (fun hHeld => ?_)
      · exact hS.out _ (hB8)
      clear hK K
      try simp only [Act.put, List.setIfInBounds_toArray, List.set_cons_zero, List.set_cons_succ]
      refine wpAnyH_take (i := 16) (oi := ?o16q21) (v := ?v16q21) ?hi16q21 (by kernel_rfl) (by kernel_rfl) (by kernel_rfl) (fun _ _ _ h => h) (Or.inl ⟨?hg16q21, ?hy16q21⟩) (by assumption) ?rest16q21
      case hi16q21 => rfl
      case hg16q21 => rfl
      case' hy16q21 =>
        dsimp only [List.getElem?_toArray, List.getElem?_cons_succ, List.getElem?_cons_zero, List.getElem_cons_succ, List.getElem_cons_zero, List.getElem_toArray]
        intro w hSw
        try dsimp only at hSw
        go_simp
        try with_reducible rfl
      case' rest16q21 =>
        dsimp only [List.getElem?_toArray, List.getElem?_cons_succ, List.getElem?_cons_zero, List.getElem_cons_succ, List.getElem_cons_zero, List.getElem_toArray]
        try simp only [Act.put, List.setIfInBounds_toArray, List.set_cons_zero, List.set_cons_succ]
      refine wpAnyH_take (i := 17) (oi := ?o17q22) (v := ?v17q22) ?hi17q22 (by kernel_rfl) (by kernel_rfl) (by kernel_rfl) (fun _ _ _ h => h) (Or.inl ⟨?hg17q22, ?hy17q22⟩) (by assumption) ?rest17q22
      case hi17q22 => rfl
      case hg17q22 => rfl
      case' hy17q22 =>
        dsimp only [List.getElem?_toArray, List.getElem?_cons_succ, List.getElem?_cons_zero, List.getElem_cons_succ, List.getElem_cons_zero, List.getElem_toArray]
        intro w hSw
        try dsimp only at hSw
        go_simp
        try with_reducible rfl
      case' rest17q22 =>
        dsimp only [List.getElem?_toArray, List.getElem?_cons_succ, List.getElem?_cons_zero, List.getElem_cons_succ, List.getElem_cons_zero, List.getElem_toArray]
        try simp only [Act.put, List.setIfInBounds_toArray, List.set_cons_zero, List.set_cons_succ]
      refine wpAnyH_take (i := 18) (oi := ?o18q23) (v := ?v18q23) ?hi18q23 (by kernel_rfl) (by kernel_rfl) (by kernel_rfl) (fun _ _ _ h => h) (Or.inl ⟨?hg18q23, ?hy18q23⟩) (by assumption) ?rest18q23
      case hi18q23 => rfl
      case hg18q23 => rfl
      case' hy18q23 =>
        dsimp only [List.getElem?_toArray, List.getElem?_cons_succ, List.getElem?_cons_zero, List.getElem_cons_succ, List.getElem_cons_zero, List.getElem_toArray]
        intro w hSw
        try dsimp only at hSw
        go_simp
        try with_reducible rfl
      case' rest18q23 =>
        dsimp only [List.getElem?_toArray, List.getElem?_cons_succ, List.getElem?_cons_zero, List.getElem_cons_succ, List.getElem_cons_zero, List.getElem_toArray]
        try simp only [Act.put, List.setIfInBounds_toArray, List.set_cons_zero, List.set_cons_succ]
      refine wpAnyH_take (i := 19) (oi := ?o19q24) (v := ?v19q24) ?hi19q24 (by kernel_rfl) (by kernel_rfl) (by kernel_rfl) (fun _ _ _ h => h) (Or.inl ⟨?hg19q24, ?hy19q24⟩) (by assumption) ?rest19q24
      case hi19q24 => rfl
      case hg19q24 => rfl
      case' hy19q24 =>
        dsimp only [List.getElem?_toArray, List.getElem?_cons_succ, List.getElem?_cons_zero, List.getElem_cons_succ, List.getElem_cons_zero, List.getElem_toArray]
        intro w hSw
        try dsimp only at hSw
        go_simp
        try with_reducible rfl
      case' rest19q24 =>
        dsimp only [List.getElem?_toArray, List.getElem?_cons_succ, List.getElem?_cons_zero, List.getElem_cons_succ, List.getElem_cons_zero, List.getElem_toArray]
        try simp only [Act.put, List.setIfInBounds_toArray, List.set_cons_zero, List.set_cons_succ]
      refine wpAnyH_take (i := 20) (oi := ?o20q25) (v := ?v20q25) ?hi20q25 (by kernel_rfl) (by kernel_rfl) (by kernel_rfl) (fun _ _ _ h => h) (Or.inl ⟨?hg20q25, ?hy20q25⟩) (by assumption) ?rest20q25
      case hi20q25 => rfl
      case hg20q25 => rfl
      case' hy20q25 =>
        dsimp only [List.getElem?_toArray, List.getElem?_cons_succ, List.getElem?_cons_zero, List.getElem_cons_succ, List.getElem_cons_zero, List.getElem_toArray]
        intro w hSw
        try dsimp only at hSw
        go_simp
        try with_reducible rfl
      case' rest20q25 =>
        dsimp only [List.getElem?_toArray, List.getElem?_cons_succ, List.getElem?_cons_zero, List.getElem_cons_succ, List.getElem_cons_zero, List.getElem_toArray]
        try simp only [Act.put, List.setIfInBounds_toArray, List.set_cons_zero, List.set_cons_succ]
      refine wpAnyH_ready (rs := [21]) (by kernel_rfl) (by simp) ?_
      refine AllReadyH.cons rfl (fun K hK => ?_) AllReadyH.nil
      dsimp only [List.getElem?_toArray, List.getElem?_cons_succ, List.getElem?_cons_zero, List.getElem_cons_succ, List.getElem_cons_zero, List.getElem_toArray]
      rw [if_pos (by rfl)]
      go_simp
      go_at_call 33
      refine (ccp.out _ (Below.next kB6.out hB8)).mono ?_
      rintro e w10 ⟨u10, c10, rfl, hM10, _, hB10⟩
      replace hB10 : Below w6.heap.size w6 w10 := Below.next hB8 hB10
      try simp only [kn.out]
      go_wp2
      refine hK.out _ _ ?_ (fun hHeld => ?_)
      · exact hS.out _ (hB10)
      clear hK K
      try simp only [Act.put, List.setIfInBounds_toArray, List.set_cons_zero, List.set_cons_succ]
      refine wpAnyH_ready (rs := [22]) (by kernel_rfl) (by simp) ?_
      refine AllReadyH.cons rfl (fun K hK => ?_) AllReadyH.nil
      dsimp only [List.getElem?_toArray, List.getElem?_cons_succ, List.getElem?_cons_zero, List.getElem_cons_succ, List.getElem_cons_zero, List.getElem_toArray]
      rw [if_pos (by rfl)]
      go_simp
      go_at_call 20
      refine (cdt.out _ _ _ hM10).mono ?_
      rintro e w11 ⟨rfl, hB11⟩
      replace hB11 : Below w6.heap.size w6 w11 := Below.next hB10 hB11
      go_wp2
      refine hK.out _ _ ?_ (fun hHeld => ?_)
      · exact hS.out _ (hB11)
      clear hK K
      try simp only [Act.put, List.setIfInBounds_toArray, List.set_cons_zero, List.set_cons_succ]
      refine wpAnyH_take (i := 23) (oi := ?o23q26) (v := ?v23q26) ?hi23q26 (by kernel_rfl) (by kernel_rfl) (by kernel_rfl) (fun _ _ _ h => h) (Or.inl ⟨?hg23q26, ?hy23q26⟩) (by assumption) ?rest23q26
      case hi23q26 => rfl
      case hg23q26 => rfl
      case' hy23q26 =>
        dsimp only [List.getElem?_toArray, List.getElem?_cons_succ, List.getElem?_cons_zero, List.getElem_cons_succ, List.getElem_cons_zero, List.getElem_toArray]
        intro w hSw
        try dsimp only at hSw
        go_simp
        try with_reducible rfl
      case' rest23q26 =>
        dsimp only [List.getElem?_toArray, List.getElem?_cons_succ, List.getElem?_cons_zero, List.getElem_cons_succ, List.getElem_cons_zero, List.getElem_toArray]
        try simp only [Act.put, List.setIfInBounds_toArray, List.set_cons_zero, List.set_cons_succ]
      refine wpAnyH_take (i := 24) (oi := ?o24q27) (v := ?v24q27) ?hi24q27 (by kernel_rfl) (by kernel_rfl) (by kernel_rfl) (fun _ _ _ h => h) (Or.inl ⟨?hg24q27, ?hy24q27⟩) (by assumption) ?rest24q27
      case hi24q27 => rfl
      case hg24q27 => rfl
      case' hy24q27 =>
        dsimp only [List.getElem?_toArray, List.getElem?_cons_succ, List.getElem?_cons_zero, List.getElem_cons_succ, List.getElem_cons_zero, List.getElem_toArray]
        intro w hSw
        try dsimp only at hSw
        go_simp
        try with_reducible rfl
      case' rest24q27 =>
        dsimp only [List.getElem?_toArray, List.getElem?_cons_succ, List.getElem?_cons_zero, List.getElem_cons_succ, List.getElem_cons_zero, List.getElem_toArray]
        try simp only [Act.put, List.setIfInBounds_toArray, List.set_cons_zero, List.set_cons_succ]
      refine wpAnyH_take (i := 25) (oi := ?o25q28) (v := ?v25q28) ?hi25q28 (by kernel_rfl) (by kernel_rfl) (by kernel_rfl) (fun _ _ _ h => h) (Or.inl ⟨?hg25q28, ?hy25q28⟩) (by assumption) ?rest25q28
      case hi25q28 => rfl
      case hg25q28 => rfl
      case' hy25q28 =>
        dsimp only [List.getElem?_toArray, List.getElem?_cons_succ, List.getElem?_cons_zero, List.getElem_cons_succ, List.getElem_cons_zero, List.getElem_toArray]
        intro w hSw
        try dsimp only at hSw
        go_simp
        try with_reducible rfl
      case' rest25q28 =>
        dsimp only [List.getElem?_toArray, List.getElem?_cons_succ, List.getElem?_cons_zero, List.getElem_cons_succ, List.getElem_cons_zero, List.getElem_toArray]
        try simp only [Act.put, List.setIfInBounds_toArray, List.set_cons_zero, List.set_cons_succ]
      refine wpAnyH_take (i := 26) (oi := ?o26q29) (v := ?v26q29) ?hi26q29 (by kernel_rfl) (by kernel_rfl) (by kernel_rfl) (fun _ _ _ h => h) (Or.inl ⟨?hg26q29, ?hy26q29⟩) (by assumption) ?rest26q29
      case hi26q29 => rfl
      case hg26q29 => rfl
      case' hy26q29 =>
        dsimp only [List.getElem?_toArray, List.getElem?_cons_succ, List.getElem?_cons_zero, List.getElem_cons_succ, List.getElem_cons_zero, List.getElem_toArray]
        intro w hSw
        try dsimp only at hSw
        go_simp
        try with_reducible rfl
      case' rest26q29 =>
        dsimp only [List.getElem?_toArray, List.getElem?_cons_succ, List.getElem?_cons_zero, List.getElem_cons_succ, List.getElem_cons_zero, List.getElem_toArray]
        try simp only [Act.put, List.setIfInBounds_toArray, List.set_cons_zero, List.set_cons_succ]
      refine wpAnyH_take (i := 27) (oi := ?o27q30) (v := ?v27q30) ?hi27q30 (by kernel_rfl) (by kernel_rfl) (by kernel_rfl) (fun _ _ _ h => h) (Or.inl ⟨?hg27q30, ?hy27q30⟩) (by assumption) ?rest27q30
      case hi27q30 => rfl
      case hg27q30 => rfl
      case' hy27q30 =>
        dsimp only [List.getElem?_toArray, List.getElem?_cons_succ, List.getElem?_cons_zero, List.getElem_cons_succ, List.getElem_cons_zero, List.getElem_toArray]
        intro w hSw
        try dsimp only at hSw
        go_simp
        try with_reducible rfl
      case' rest27q30 =>
        dsimp only [List.getElem?_toArray, List.getElem?_cons_succ, List.getElem?_cons_zero, List.getElem_cons_succ, List.getElem_cons_zero, List.getElem_toArray]
        try simp only [Act.put, List.setIfInBounds_toArray, List.set_cons_zero, List.set_cons_succ]
      refine wpAnyH_ready (rs := [28]) (by kernel_rfl) (by simp) ?_
      refine AllReadyH.cons rfl (fun K hK => ?_) AllReadyH.nil
      dsimp only [List.getElem?_toArray, List.getElem?_cons_succ, List.getElem?_cons_zero, List.getElem_cons_succ, List.getElem_cons_zero, List.getElem_toArray]
      rw [if_pos (by rfl)]
      go_simp
      go_at_call 33
      refine (ccp.out _ (Below.next kB6.out hB11)).mono ?_
      rintro e w12 ⟨u12, c12, rfl, hM12, _, hB12⟩
      replace hB12 : Below w6.heap.size w6 w12 := Below.next hB11 hB12
      try simp only [kn.out]
      go_wp2
      refine hK.out _ _ ?_ (fun hHeld => ?_)
      · exact hS.out _ (hB12)
      clear hK K
      try simp only [Act.put, List.setIfInBounds_toArray, List.set_cons_zero, List.set_cons_succ]
      refine wpAnyH_ready (rs := [29]) (by kernel_rfl) (by simp) ?_
      refine AllReadyH.cons rfl (fun K hK => ?_) AllReadyH.nil
      dsimp only [List.getElem?_toArray, List.getElem?_cons_succ, List.getElem?_cons_zero, List.getElem_cons_succ, List.getElem_cons_zero, List.getElem_toArray]
      rw [if_pos (by rfl)]
      go_simp
      go_at_call 32
      refine use (cke.out _ _ _ hM12) ?_
      intro pw9
      go_wp2
      refine hK.out _ _ ?_ (fun hHeld => ?_)
      · exact hS.out _ (Below.later hB12 _)
      clear hK K
      try simp only [Act.put, List.setIfInBounds_toArray, List.set_cons_zero, List.set_cons_succ]
      refine wpAnyH_take (i := 30) (oi := ?o30q31) (v := ?v30q31) ?hi30q31 (by kernel_rfl) (by kernel_rfl) (by kernel_rfl) (fun _ _ _ h => h) (Or.inl ⟨?hg30q31, ?hy30q31⟩) (by assumption) ?rest30q31
      case hi30q31 => rfl
      case hg30q31 => rfl
      case' hy30q31 =>
        dsimp only [List.getElem?_toArray, List.getElem?_cons_succ, List.getElem?_cons_zero, List.getElem_cons_succ, List.getElem_cons_zero, List.getElem_toArray]
        intro w hSw
        try dsimp only at hSw
        go_simp
        try with_reducible rfl
      case' rest30q31 =>
        dsimp only [List.getElem?_toArray, List.getElem?_cons_succ, List.getElem?_cons_zero, List.getElem_cons_succ, List.getElem_cons_zero, List.getElem_toArray]
        try simp only [Act.put, List.setIfInBounds_toArray, List.set_cons_zero, List.set_cons_succ]
      refine wpAnyH_take (i := 31) (oi := ?o31q32) (v := ?v31q32) ?hi31q32 (by kernel_rfl) (by kernel_rfl) (by kernel_rfl) (fun _ _ _ h => h) (Or.inl ⟨?hg31q32, ?hy31q32⟩) (by assumption) ?rest31q32
      case hi31q32 => rfl
      case hg31q32 => rfl
      case' hy31q32 =>
        dsimp only [List.getElem?_toArray, List.getElem?_cons_succ, List.getElem?_cons_zero, List.getElem_cons_succ, List.getElem_cons_zero, List.getElem_toArray]
        intro w hSw
        try dsimp only at hSw
        go_simp
        try with_reducible rfl
      case' rest31q32 =>
        dsimp only [List.getElem?_toArray, List.getElem?_cons_succ, List.getElem?_cons_zero, List.getElem_cons_succ, List.getElem_cons_zero, List.getElem_toArray]
        try simp only [Act.put, List.setIfInBounds_toArray, List.set_cons_zero, List.set_cons_succ]
      refine wpAnyH_take (i := 32) (oi := ?o32q33) (v := ?v32q33) ?hi32q33 (by kernel_rfl) (by kernel_rfl) (by kernel_rfl) (fun _ _ _ h => h) (Or.inl ⟨?hg32q33, ?hy32q33⟩) (by assumption) ?rest32q33
      case hi32q33 => rfl
      case hg32q33 => rfl
      case' hy32q33 =>
        dsimp only [List.getElem?_toArray, List.getElem?_cons_succ, List.getElem?_cons_zero, List.getElem_cons_succ, List.getElem_cons_zero, List.getElem_toArray]
        intro w hSw
        try dsimp only at hSw
        go_simp
        try with_reducible rfl
      case' rest32q33 =>
        dsimp only [List.getElem?_toArray, List.getElem?_cons_succ, List.getElem?_cons_zero, List.getElem_cons_succ, List.getElem_cons_zero, List.getElem_toArray]
        try simp only [Act.put, List.setIfInBounds_toArray, List.set_cons_zero, List.set_cons_succ]
      refine wpAnyH_take (i := 33) (oi := ?o33q34) (v := ?v33q34) ?hi33q34 (by kernel_rfl) (by kernel_rfl) (by kernel_rfl) (fun _ _ _ h => h) (Or.inl ⟨?hg33q34, ?hy33q34⟩) (by assumption) ?rest33q34
      case hi33q34 => rfl
      case hg33q34 => rfl
      case' hy33q34 =>
        dsimp only [List.getElem?_toArray, List.getElem?_cons_succ, List.getElem?_cons_zero, List.getElem_cons_succ, List.getElem_cons_zero, List.getElem_toArray]
        intro w hSw
        try dsimp only at hSw
        go_simp
        try with_reducible rfl
      case' rest33q34 =>
        dsimp only [List.getElem?_toArray, List.getElem?_cons_succ, List.getElem?_cons_zero, List.getElem_cons_succ, List.getElem_cons_zero, List.getElem_toArray]
        try simp only [Act.put, List.setIfInBounds_toArray, List.set_cons_zero, List.set_cons_succ]
      refine wpAnyH_take (i := 34) (oi := ?o34q35) (v := ?v34q35) ?hi34q35 (by kernel_rfl) (by kernel_rfl) (by kernel_rfl) (fun _ _ _ h => h) (Or.inl ⟨?hg34q35, ?hy34q35⟩) (by assumption) ?rest34q35
      case hi34q35 => rfl
      case hg34q35 => rfl
      case' hy34q35 =>
        dsimp only [List.getElem?_toArray, List.getElem?_cons_succ, List.getElem?_cons_zero, List.getElem_cons_succ, List.getElem_cons_zero, List.getElem_toArray]
        intro w hSw
        try dsimp only at hSw
        go_simp
        try with_reducible rfl
      case' rest34q35 =>
        dsimp only [List.getElem?_toArray, List.getElem?_cons_succ, List.getElem?_cons_zero, List.getElem_cons_succ, List.getElem_cons_zero, List.getElem_toArray]
        try simp only [Act.put, List.setIfInBounds_toArray, List.set_cons_zero, List.set_cons_succ]
      refine wpAnyH_done (by kernel_rfl) ?_ _
      refine NoPanic.normal ?_
      have kB9 : Kept (Below w.heap.size w (after w12 pw9)) := ⟨Below.next kB6.out (Below.later hB12 _)⟩
      generalize after w12 pw9 = w13 at kB9 ⊢
      clear hB12 hM12 hB11 hM10 hB10 hB8
      go_wp2
      go_ret
      exact ⟨rfl, kB9.out⟩
    · obtain ⟨m, hm⟩ : ∃ m, colsN ls = m := ⟨_, rfl⟩
      have crd : Kept (∀ w' u c, Mt w' u ls → Calls Try.prog 44 #[.agg #[.int .u64 97], .slice u n c] w' (GivesRd n m (elR 97 n m (elF 97 ls)) w')) := ⟨fun w' u c h => reduce_lc 97 n m u c ls w' h v97 hM hn hm⟩
      rw [hM] at crv clv
      generalize elR 97 n m (elF 97 ls) = es at *
      clear hM hm
      rw [hn] at hs ⊢
      have kn := (⟨hn⟩ : Kept _)
      clear h1 hsm hn
      go_enter Try.func9, Try.ntmps9
      go_wp2_with (first | (go_at_call 30; (first | with_reducible refine use1 (awake05_c _) ?_ | with_reducible refine use (awake05_c _) ?_); intro pw) | (go_at_call 36; (first | with_reducible refine use1 (csm.out _ (by repeat (first | exact Below.refl _ _ | refine Below.later ?_ _ | refine Below.box ?_ _ | refine Below.drew ?_ | refine Below.put ?_ (by dsimp only; omega) _))) ?_ | with_reducible refine use (csm.out _ (by repeat (first | exact Below.refl _ _ | refine Below.later ?_ _ | refine Below.box ?_ _ | refine Below.drew ?_ | refine Below.put ?_ (by dsimp only; omega) _))) ?_); intro pw) | (go_at_call 33; refine (ccp.out _ (by repeat (first | exact Below.refl _ _ | refine Below.later ?_ _ | refine Below.box ?_ _ | refine Below.drew ?_ | refine Below.put ?_ (by dsimp only; omega) _))).mono ?_; rintro e w3 ⟨u3, c3, rfl, hM3, _, hB3⟩; refine Stop.out ?_))
      refine ⟨?_⟩
      have kB3 : Kept (Below w.heap.size w w3) := ⟨Below.next (by repeat (first | exact Below.refl _ _ | refine Below.later ?_ _ | refine Below.box ?_ _ | refine Below.drew ?_ | refine Below.put ?_ (by dsimp only; omega) _)) hB3⟩
      have kM3 := (⟨hM3⟩ : Kept _)
      clear hM3 hB3
      simp only [kn.out]
      go_wp2_with (first | (go_at_call 46; refine use (clv.out _ _ _ kM3.out) ?_; intro pw4) | (go_at_call 38; refine use (crv.out _ (Below.later kB3.out _)) ?_; intro pw5))
      obtain ⟨w4, hw4⟩ : ∃ w4, w4 = after (after w3 pw4) pw5 := ⟨_, rfl⟩
      have hXs : w3.heap.size + pw4.os.size + pw5.os.size = w4.heap.size := by rw [hw4]; simp
      rw [hXs, ← hw4]
      have kB4 : Kept (Below w.heap.size w w4) := ⟨by rw [hw4]; exact Below.next kB3.out (by repeat (first | exact Below.refl _ _ | refine Below.later ?_ _ | refine Below.box ?_ _ | refine Below.drew ?_ | refine Below.put ?_ (by dsimp only; omega) _))⟩
      obtain ⟨X, hX⟩ : ∃ X, w4.heap.size = X := ⟨_, rfl⟩
      have hB1 : Below w.heap.size w (w4.alloc (.cells #[.int .u64 97] 27)) := Below.next kB4.out (by repeat (first | exact Below.refl _ _ | refine Below.later ?_ _ | refine Below.box ?_ _ | refine Below.drew ?_ | refine Below.put ?_ (by dsimp only; omega) _))
      have hb1 : (w4.alloc (.cells #[.int .u64 97] 27)).cell? ⟨X, 0, none⟩ = some (.int .u64 97) := by rw [← hX]; simp [go_sem]
      have hl1 : X < (w4.alloc (.cells #[.int .u64 97] 27)).heap.size := by rw [← hX]; simp
      rw [hX]
      generalize w4.alloc (.cells #[.int .u64 97] 27) = W1 at hB1 hb1 hl1 ⊢
      have kB1 := (⟨hB1⟩ : Kept _)
      have hS : Kept (∀ w', Below W1.heap.size W1 w' → w'.cell? ⟨X, 0, none⟩ = some (.int .u64 97)) := ⟨fun w' hw => by rw [hw.cell (p := ⟨X, 0, none⟩) hl1]; exact hb1⟩
      clear hB1 hX csm clv hXs hw4 kB3 kM3
      refine wp_region_noPanic ?_
      refine wp_region_held_drew (S := (fun w' => w'.cell? ⟨X, 0, none⟩ = some (.int .u64 97))) (by kernel_rfl) (hS.out _ (by repeat (first | exact Below.refl _ _ | refine Below.later ?_ _ | refine Below.box ?_ _ | refine Below.drew ?_ | refine Below.put ?_ (by dsimp only; omega) _))) (fun hHeld => ?_)
      refine wpAnyH_take (i := 0) (oi := ?o0q36) (v := ?v0q36) ?hi0q36 (by kernel_rfl) (by kernel_rfl) (by kernel_rfl) (fun _ _ _ h => h) (Or.inl ⟨?hg0q36, ?hy0q36⟩) (by assumption) ?rest0q36
      case hi0q36 => rfl
      case hg0q36 => rfl
      case' hy0q36 =>
        dsimp only [List.getElem?_toArray, List.getElem?_cons_succ, List.getElem?_cons_zero, List.getElem_cons_succ, List.getElem_cons_zero, List.getElem_toArray]
        intro w hSw
        try dsimp only at hSw
        go_simp
        try with_reducible rfl
      case' rest0q36 =>
        dsimp only [List.getElem?_toArray, List.getElem?_cons_succ, List.getElem?_cons_zero, List.getElem_cons_succ, List.getElem_cons_zero, List.getElem_toArray]
        try simp only [Act.put, List.setIfInBounds_toArray, List.set_cons_zero, List.set_cons_succ]
      refine wpAnyH_take (i := 1) (oi := ?o1q37) (v := ?v1q37) ?hi1q37 (by kernel_rfl) (by kernel_rfl) (by kernel_rfl) (fun _ _ _ h => h) (Or.inl ⟨?hg1q37, ?hy1q37⟩) (by assumption) ?rest1q37
      case hi1q37 => rfl
      case hg1q37 => rfl
      case' hy1q37 =>
        dsimp only [List.getElem?_toArray, List.getElem?_cons_succ, List.getElem?_cons_zero, List.getElem_cons_succ, List.getElem_cons_zero, List.getElem_toArray]
        intro w hSw
        try dsimp only at hSw
        go_simp
        try with_reducible rfl
      case' rest1q37 =>
        dsimp only [List.getElem?_toArray, List.getElem?_cons_succ, List.getElem?_cons_zero, List.getElem_cons_succ, List.getElem_cons_zero, List.getElem_toArray]
        try simp only [Act.put, List.setIfInBounds_toArray, List.set_cons_zero, List.set_cons_succ]
      refine wpAnyH_ready (rs := [2]) (by kernel_rfl) (by simp) ?_
      refine AllReadyH.cons rfl (fun K hK => ?_) AllReadyH.nil
      dsimp only [List.getElem?_toArray, List.getElem?_cons_succ, List.getElem?_cons_zero, List.getElem_cons_succ, List.getElem_cons_zero, List.getElem_toArray]
      go_simp
      go_at_call 33
      refine (ccp.out _ (Below.next kB1.out (by repeat (first | exact Below.refl _ _ | refine Below.later ?_ _ | refine Below.box ?_ _ | refine Below.drew ?_ | refine Below.put ?_ (by dsimp only; omega) _)))).mono ?_
      rintro e w5 ⟨u5, c5, rfl, hM5, _, hB5⟩
      replace hB5 : Below W1.heap.size W1 w5 := Below.next (by repeat (first | exact Below.refl _ _ | refine Below.later ?_ _ | refine Below.box ?_ _ | refine Below.drew ?_ | refine Below.put ?_ (by dsimp only; omega) _)) hB5
      try simp only [kn.out]
      go_wp2
      refine hK.out _ _ ?_ (fun hHeld => ?_)
      · exact hS.out _ (hB5)
      clear hK K
      try simp only [Act.put, List.setIfInBounds_toArray, List.set_cons_zero, List.set_cons_succ]
      refine wpAnyH_ready (rs := [3]) (by kernel_rfl) (by simp) ?_
      refine AllReadyH.cons rfl (fun K hK => ?_) AllReadyH.nil
      dsimp only [List.getElem?_toArray, List.getElem?_cons_succ, List.getElem?_cons_zero, List.getElem_cons_succ, List.getElem_cons_zero, List.getElem_toArray]
      go_simp
      go_at_call 44
      refine (crd.out _ _ _ hM5).mono ?_
      rintro e w6 ⟨B6, bf6, cf6, u6, c6, rfl, hMx6, hO6⟩
      replace hB5 : Below W1.heap.size W1 w6 := Below.next hB5 hMx6.below
      generalize es.piv.length = np at hO6 ⊢
      clear hMx6 hO6
      go_wp2
      refine hK.out _ _ ?_ (fun hHeld => ?_)
      · exact hS.out _ (hB5)
      clear hK K
      try simp only [Act.put, List.setIfInBounds_toArray, List.set_cons_zero, List.set_cons_succ]
      refine wpAnyH_take (i := 4) (oi := ?o4q38) (v := ?v4q38) ?hi4q38 (by kernel_rfl) (by kernel_rfl) (by kernel_rfl) (fun _ _ _ h => h) (Or.inl ⟨?hg4q38, ?hy4q38⟩) (by assumption) ?rest4q38
      case hi4q38 => rfl
      case hg4q38 => rfl
      case' hy4q38 =>
        dsimp only [List.getElem?_toArray, List.getElem?_cons_succ, List.getElem?_cons_zero, List.getElem_cons_succ, List.getElem_cons_zero, List.getElem_toArray]
        intro w hSw
        try dsimp only at hSw
        go_simp
        try with_reducible rfl
      case' rest4q38 =>
        dsimp only [List.getElem?_toArray, List.getElem?_cons_succ, List.getElem?_cons_zero, List.getElem_cons_succ, List.getElem_cons_zero, List.getElem_toArray]
        try simp only [Act.put, List.setIfInBounds_toArray, List.set_cons_zero, List.set_cons_succ]
      refine wpAnyH_take (i := 5) (oi := ?o5q39) (v := ?v5q39) ?hi5q39 (by kernel_rfl) (by kernel_rfl) (by kernel_rfl) (fun _ _ _ h => h) (Or.inl ⟨?hg5q39, ?hy5q39⟩) (by assumption) ?rest5q39
      case hi5q39 => rfl
      case hg5q39 => rfl
      case' hy5q39 =>
        dsimp only [List.getElem?_toArray, List.getElem?_cons_succ, List.getElem?_cons_zero, List.getElem_cons_succ, List.getElem_cons_zero, List.getElem_toArray]
        intro w hSw
        try dsimp only at hSw
        go_simp
        try with_reducible rfl
      case' rest5q39 =>
        dsimp only [List.getElem?_toArray, List.getElem?_cons_succ, List.getElem?_cons_zero, List.getElem_cons_succ, List.getElem_cons_zero, List.getElem_toArray]
        try simp only [Act.put, List.setIfInBounds_toArray, List.set_cons_zero, List.set_cons_succ]
      refine wpAnyH_take (i := 6) (oi := ?o6q40) (v := ?v6q40) ?hi6q40 (by kernel_rfl) (by kernel_rfl) (by kernel_rfl) (fun _ _ _ h => h) (Or.inl ⟨?hg6q40, ?hy6q40⟩) (by assumption) ?rest6q40
      case hi6q40 => rfl
      case hg6q40 => rfl
      case' hy6q40 =>
        dsimp only [List.getElem?_toArray, List.getElem?_cons_succ, List.getElem?_cons_zero, List.getElem_cons_succ, List.getElem_cons_zero, List.getElem_toArray]
        intro w hSw
        try dsimp only at hSw
        go_simp
        try with_reducible rfl
      case' rest6q40 =>
        dsimp only [List.getElem?_toArray, List.getElem?_cons_succ, List.getElem?_cons_zero, List.getElem_cons_succ, List.getElem_cons_zero, List.getElem_toArray]
        try simp only [Act.put, List.setIfInBounds_toArray, List.set_cons_zero, List.set_cons_succ]
      refine wpAnyH_take (i := 7) (oi := ?o7q41) (v := ?v7q41) ?hi7q41 (by kernel_rfl) (by kernel_rfl) (by kernel_rfl) (fun _ _ _ h => h) (Or.inl ⟨?hg7q41, ?hy7q41⟩) (by assumption) ?rest7q41
      case hi7q41 => rfl
      case hg7q41 => rfl
      case' hy7q41 =>
        dsimp only [List.getElem?_toArray, List.getElem?_cons_succ, List.getElem?_cons_zero, List.getElem_cons_succ, List.getElem_cons_zero, List.getElem_toArray]
        intro w hSw
        try dsimp only at hSw
        go_simp
        try with_reducible rfl
      case' rest7q41 =>
        dsimp only [List.getElem?_toArray, List.getElem?_cons_succ, List.getElem?_cons_zero, List.getElem_cons_succ, List.getElem_cons_zero, List.getElem_toArray]
        try simp only [Act.put, List.setIfInBounds_toArray, List.set_cons_zero, List.set_cons_succ]
      refine wpAnyH_take (i := 8) (oi := ?o8q42) (v := ?v8q42) ?hi8q42 (by kernel_rfl) (by kernel_rfl) (by kernel_rfl) (fun _ _ _ h => h) (Or.inl ⟨?hg8q42, ?hy8q42⟩) (by assumption) ?rest8q42
      case hi8q42 => rfl
      case hg8q42 => rfl
      case' hy8q42 =>
        dsimp only [List.getElem?_toArray, List.getElem?_cons_succ, List.getElem?_cons_zero, List.getElem_cons_succ, List.getElem_cons_zero, List.getElem_toArray]
        intro w hSw
        try dsimp only at hSw
        go_simp
        try with_reducible rfl
      case' rest8q42 =>
        dsimp only [List.getElem?_toArray, List.getElem?_cons_succ, List.getElem?_cons_zero, List.getElem_cons_succ, List.getElem_cons_zero, List.getElem_toArray]
        try simp only [Act.put, List.setIfInBounds_toArray, List.set_cons_zero, List.set_cons_succ]
      refine wpAnyH_done (by kernel_rfl) ?_ _
      refine NoPanic.normal ?_
      have kB6 : Kept (Below w.heap.size w w6) := ⟨Below.next kB1.out hB5⟩
      have hS7 := hS
      have kB6' : Kept (Below W1.heap.size W1 w6) := ⟨hB5⟩
      clear hS hHeld hM5 hB5
      have hS : Kept (∀ w', Below w6.heap.size w6 w' → w'.cell? ⟨X, 0, none⟩ = some (.int .u64 97)) := ⟨fun w' hw => hS7.out w' (Below.next kB6'.out hw)⟩
      go_wp2
      refine wp_region_noPanic ?_
      refine wp_region_held_drew (S := (fun w' => w'.cell? ⟨X, 0, none⟩ = some (.int .u64 97))) (by kernel_rfl) (hS.out _ (by repeat (first | exact Below.refl _ _ | refine Below.later ?_ _ | refine Below.box ?_ _ | refine Below.drew ?_ | refine Below.put ?_ (by dsimp only; omega) _))) (fun hHeld => ?_)
      refine wpAnyH_take (i := 0) (oi := ?o0q43) (v := ?v0q43) ?hi0q43 (by kernel_rfl) (by kernel_rfl) (by kernel_rfl) (fun _ _ _ h => h) (Or.inl ⟨?hg0q43, ?hy0q43⟩) (by assumption) ?rest0q43
      case hi0q43 => rfl
      case hg0q43 => rfl
      case' hy0q43 =>
        dsimp only [List.getElem?_toArray, List.getElem?_cons_succ, List.getElem?_cons_zero, List.getElem_cons_succ, List.getElem_cons_zero, List.getElem_toArray]
        intro w hSw
        try dsimp only at hSw
        go_simp
        try with_reducible rfl
      case' rest0q43 =>
        dsimp only [List.getElem?_toArray, List.getElem?_cons_succ, List.getElem?_cons_zero, List.getElem_cons_succ, List.getElem_cons_zero, List.getElem_toArray]
        try simp only [Act.put, List.setIfInBounds_toArray, List.set_cons_zero, List.set_cons_succ]
      refine wpAnyH_ready (rs := [1]) (by kernel_rfl) (by simp) ?_
      refine AllReadyH.cons rfl (fun K hK => ?_) AllReadyH.nil
      dsimp only [List.getElem?_toArray, List.getElem?_cons_succ, List.getElem?_cons_zero, List.getElem_cons_succ, List.getElem_cons_zero, List.getElem_toArray]
      go_simp
      go_at_call 38
      refine use (crv.out _ (Below.next kB6.out (by repeat (first | exact Below.refl _ _ | refine Below.later ?_ _ | refine Below.box ?_ _ | refine Below.drew ?_ | refine Below.put ?_ (by dsimp only; omega) _)))) ?_
      intro pw7
      go_wp2
      refine hK.out _ _ ?_ (fun hHeld => ?_)
      · exact hS.out _ (by repeat (first | exact Below.refl _ _ | refine Below.later ?_ _ | refine Below.box ?_ _ | refine Below.drew ?_ | refine Below.put ?_ (by dsimp only; omega) _))
      clear hK K
      try simp only [Act.put, List.setIfInBounds_toArray, List.set_cons_zero, List.set_cons_succ]
      refine wpAnyH_take (i := 2) (oi := ?o2q44) (v := ?v2q44) ?hi2q44 (by kernel_rfl) (by kernel_rfl) (by kernel_rfl) (fun _ _ _ h => h) (Or.inl ⟨?hg2q44, ?hy2q44⟩) (by assumption) ?rest2q44
      case hi2q44 => rfl
      case hg2q44 => rfl
      case' hy2q44 =>
        dsimp only [List.getElem?_toArray, List.getElem?_cons_succ, List.getElem?_cons_zero, List.getElem_cons_succ, List.getElem_cons_zero, List.getElem_toArray]
        intro w hSw
        try dsimp only at hSw
        go_simp
        try with_reducible rfl
      case' rest2q44 =>
        dsimp only [List.getElem?_toArray, List.getElem?_cons_succ, List.getElem?_cons_zero, List.getElem_cons_succ, List.getElem_cons_zero, List.getElem_toArray]
        try simp only [Act.put, List.setIfInBounds_toArray, List.set_cons_zero, List.set_cons_succ]
      have kB7 : Kept (Below w6.heap.size w6 (after w6.drew pw7)) := ⟨(by repeat (first | exact Below.refl _ _ | refine Below.later ?_ _ | refine Below.box ?_ _ | refine Below.drew ?_ | refine Below.put ?_ (by dsimp only; omega) _))⟩
      refine wpAnyH_take (i := 3) (oi := ?o3q45) (v := undef) ?hi3q45 (by kernel_rfl) (by kernel_rfl) (by kernel_rfl) (fun _ _ _ h => h) (Or.inr ⟨?hg3q45, rfl⟩) (by assumption) ?rest3q45
      case hi3q45 => rfl
      case hg3q45 => rfl
      case' rest3q45 =>
        dsimp only [List.getElem?_toArray, List.getElem?_cons_succ, List.getElem?_cons_zero, List.getElem_cons_succ, List.getElem_cons_zero, List.getElem_toArray]
        try simp only [Act.put, List.setIfInBounds_toArray, List.set_cons_zero, List.set_cons_succ]
      refine wpAnyH_take (i := 4) (oi := ?o4q46) (v := undef) ?hi4q46 (by kernel_rfl) (by kernel_rfl) (by kernel_rfl) (fun _ _ _ h => h) (Or.inr ⟨?hg4q46, rfl⟩) (by assumption) ?rest4q46
      case hi4q46 => rfl
      case hg4q46 => rfl
      case' rest4q46 =>
        dsimp only [List.getElem?_toArray, List.getElem?_cons_succ, List.getElem?_cons_zero, List.getElem_cons_succ, List.getElem_cons_zero, List.getElem_toArray]
        try simp only [Act.put, List.setIfInBounds_toArray, List.set_cons_zero, List.set_cons_succ]
      refine wpAnyH_take (i := 5) (oi := ?o5q47) (v := undef) ?hi5q47 (by kernel_rfl) (by kernel_rfl) (by kernel_rfl) (fun _ _ _ h => h) (Or.inr ⟨?hg5q47, rfl⟩) (by assumption) ?rest5q47
      case hi5q47 => rfl
      case hg5q47 => rfl
      case' rest5q47 =>
        dsimp only [List.getElem?_toArray, List.getElem?_cons_succ, List.getElem?_cons_zero, List.getElem_cons_succ, List.getElem_cons_zero, List.getElem_toArray]
        try simp only [Act.put, List.setIfInBounds_toArray, List.set_cons_zero, List.set_cons_succ]
      refine wpAnyH_take (i := 6) (oi := ?o6q48) (v := undef) ?hi6q48 (by kernel_rfl) (by kernel_rfl) (by kernel_rfl) (fun _ _ _ h => h) (Or.inr ⟨?hg6q48, rfl⟩) (by assumption) ?rest6q48
      case hi6q48 => rfl
      case hg6q48 => rfl
      case' rest6q48 =>
        dsimp only [List.getElem?_toArray, List.getElem?_cons_succ, List.getElem?_cons_zero, List.getElem_cons_succ, List.getElem_cons_zero, List.getElem_toArray]
        try simp only [Act.put, List.setIfInBounds_toArray, List.set_cons_zero, List.set_cons_succ]
      refine wpAnyH_take (i := 7) (oi := ?o7q49) (v := undef) ?hi7q49 (by kernel_rfl) (by kernel_rfl) (by kernel_rfl) (fun _ _ _ h => h) (Or.inr ⟨?hg7q49, rfl⟩) (by assumption) ?rest7q49
      case hi7q49 => rfl
      case hg7q49 => rfl
      case' rest7q49 =>
        dsimp only [List.getElem?_toArray, List.getElem?_cons_succ, List.getElem?_cons_zero, List.getElem_cons_succ, List.getElem_cons_zero, List.getElem_toArray]
        try simp only [Act.put, List.setIfInBounds_toArray, List.set_cons_zero, List.set_cons_succ]
      refine wpAnyH_take (i := 8) (oi := ?o8q50) (v := undef) ?hi8q50 (by kernel_rfl) (by kernel_rfl) (by kernel_rfl) (fun _ _ _ h => h) (Or.inr ⟨?hg8q50, rfl⟩) (by assumption) ?rest8q50
      case hi8q50 => rfl
      case hg8q50 => rfl
      case' rest8q50 =>
        dsimp only [List.getElem?_toArray, List.getElem?_cons_succ, List.getElem?_cons_zero, List.getElem_cons_succ, List.getElem_cons_zero, List.getElem_toArray]
        try simp only [Act.put, List.setIfInBounds_toArray, List.set_cons_zero, List.set_cons_succ]
      refine wpAnyH_take (i := 9) (oi := ?o9q51) (v := undef) ?hi9q51 (by kernel_rfl) (by kernel_rfl) (by kernel_rfl) (fun _ _ _ h => h) (Or.inr ⟨?hg9q51, rfl⟩) (by assumption) ?rest9q51
      case hi9q51 => rfl
      case hg9q51 => rfl
      case' rest9q51 =>
        dsimp only [List.getElem?_toArray, List.getElem?_cons_succ, List.getElem?_cons_zero, List.getElem_cons_succ, List.getElem_cons_zero, List.getElem_toArray]
        try simp only [Act.put, List.setIfInBounds_toArray, List.set_cons_zero, List.set_cons_succ]
      refine wpAnyH_take (i := 10) (oi := ?o10q52) (v := undef) ?hi10q52 (by kernel_rfl) (by kernel_rfl) (by kernel_rfl) (fun _ _ _ h => h) (Or.inr ⟨?hg10q52, rfl⟩) (by assumption) ?rest10q52
      case hi10q52 => rfl
      case hg10q52 => rfl
      case' rest10q52 =>
        dsimp only [List.getElem?_toArray, List.getElem?_cons_succ, List.getElem?_cons_zero, List.getElem_cons_succ, List.getElem_cons_zero, List.getElem_toArray]
        try simp only [Act.put, List.setIfInBounds_toArray, List.set_cons_zero, List.set_cons_succ]
      refine wpAnyH_take (i := 11) (oi := ?o11q53) (v := undef) ?hi11q53 (by kernel_rfl) (by kernel_rfl) (by kernel_rfl) (fun _ _ _ h => h) (Or.inr ⟨?hg11q53, rfl⟩) (by assumption) ?rest11q53
      case hi11q53 => rfl
      case hg11q53 => rfl
      case' rest11q53 =>
        dsimp only [List.getElem?_toArray, List.getElem?_cons_succ, List.getElem?_cons_zero, List.getElem_cons_succ, List.getElem_cons_zero, List.getElem_toArray]
        try simp only [Act.put, List.setIfInBounds_toArray, List.set_cons_zero, List.set_cons_succ]
      refine wpAnyH_take (i := 12) (oi := ?o12q54) (v := undef) ?hi12q54 (by kernel_rfl) (by kernel_rfl) (by kernel_rfl) (fun _ _ _ h => h) (Or.inr ⟨?hg12q54, rfl⟩) (by assumption) ?rest12q54
      case hi12q54 => rfl
      case hg12q54 => rfl
      case' rest12q54 =>
        dsimp only [List.getElem?_toArray, List.getElem?_cons_succ, List.getElem?_cons_zero, List.getElem_cons_succ, List.getElem_cons_zero, List.getElem_toArray]
        try simp only [Act.put, List.setIfInBounds_toArray, List.set_cons_zero, List.set_cons_succ]
      refine wpAnyH_take (i := 13) (oi := ?o13q55) (v := undef) ?hi13q55 (by kernel_rfl) (by kernel_rfl) (by kernel_rfl) (fun _ _ _ h => h) (Or.inr ⟨?hg13q55, rfl⟩) (by assumption) ?rest13q55
      case hi13q55 => rfl
      case hg13q55 => rfl
      case' rest13q55 =>
        dsimp only [List.getElem?_toArray, List.getElem?_cons_succ, List.getElem?_cons_zero, List.getElem_cons_succ, List.getElem_cons_zero, List.getElem_toArray]
        try simp only [Act.put, List.setIfInBounds_toArray, List.set_cons_zero, List.set_cons_succ]
      refine wpAnyH_take (i := 14) (oi := ?o14q56) (v := undef) ?hi14q56 (by kernel_rfl) (by kernel_rfl) (by kernel_rfl) (fun _ _ _ h => h) (Or.inr ⟨?hg14q56, rfl⟩) (by assumption) ?rest14q56
      case hi14q56 => rfl
      case hg14q56 => rfl
      case' rest14q56 =>
        dsimp only [List.getElem?_toArray, List.getElem?_cons_succ, List.getElem?_cons_zero, List.getElem_cons_succ, List.getElem_cons_zero, List.getElem_toArray]
        try simp only [Act.put, List.setIfInBounds_toArray, List.set_cons_zero, List.set_cons_succ]
      refine wpAnyH_take (i := 15) (oi := ?o15q57) (v := undef) ?hi15q57 (by kernel_rfl) (by kernel_rfl) (by kernel_rfl) (fun _ _ _ h => h) (Or.inr ⟨?hg15q57, rfl⟩) (by assumption) ?rest15q57
      case hi15q57 => rfl
      case hg15q57 => rfl
      case' rest15q57 =>
        dsimp only [List.getElem?_toArray, List.getElem?_cons_succ, List.getElem?_cons_zero, List.getElem_cons_succ, List.getElem_cons_zero, List.getElem_toArray]
        try simp only [Act.put, List.setIfInBounds_toArray, List.set_cons_zero, List.set_cons_succ]
      refine wpAnyH_take (i := 16) (oi := ?o16q58) (v := undef) ?hi16q58 (by kernel_rfl) (by kernel_rfl) (by kernel_rfl) (fun _ _ _ h => h) (Or.inr ⟨?hg16q58, rfl⟩) (by assumption) ?rest16q58
      case hi16q58 => rfl
      case hg16q58 => rfl
      case' rest16q58 =>
        dsimp only [List.getElem?_toArray, List.getElem?_cons_succ, List.getElem?_cons_zero, List.getElem_cons_succ, List.getElem_cons_zero, List.getElem_toArray]
        try simp only [Act.put, List.setIfInBounds_toArray, List.set_cons_zero, List.set_cons_succ]
      refine wpAnyH_take (i := 17) (oi := ?o17q59) (v := undef) ?hi17q59 (by kernel_rfl) (by kernel_rfl) (by kernel_rfl) (fun _ _ _ h => h) (Or.inr ⟨?hg17q59, rfl⟩) (by assumption) ?rest17q59
      case hi17q59 => rfl
      case hg17q59 => rfl
      case' rest17q59 =>
        dsimp only [List.getElem?_toArray, List.getElem?_cons_succ, List.getElem?_cons_zero, List.getElem_cons_succ, List.getElem_cons_zero, List.getElem_toArray]
        try simp only [Act.put, List.setIfInBounds_toArray, List.set_cons_zero, List.set_cons_succ]
      refine wpAnyH_take (i := 18) (oi := ?o18q60) (v := undef) ?hi18q60 (by kernel_rfl) (by kernel_rfl) (by kernel_rfl) (fun _ _ _ h => h) (Or.inr ⟨?hg18q60, rfl⟩) (by assumption) ?rest18q60
      case hi18q60 => rfl
      case hg18q60 => rfl
      case' rest18q60 =>
        dsimp only [List.getElem?_toArray, List.getElem?_cons_succ, List.getElem?_cons_zero, List.getElem_cons_succ, List.getElem_cons_zero, List.getElem_toArray]
        try simp only [Act.put, List.setIfInBounds_toArray, List.set_cons_zero, List.set_cons_succ]
      refine wpAnyH_take (i := 19) (oi := ?o19q61) (v := undef) ?hi19q61 (by kernel_rfl) (by kernel_rfl) (by kernel_rfl) (fun _ _ _ h => h) (Or.inr ⟨?hg19q61, rfl⟩) (by assumption) ?rest19q61
      case hi19q61 => rfl
      case hg19q61 => rfl
      case' rest19q61 =>
        dsimp only [List.getElem?_toArray, List.getElem?_cons_succ, List.getElem?_cons_zero, List.getElem_cons_succ, List.getElem_cons_zero, List.getElem_toArray]
        try simp only [Act.put, List.setIfInBounds_toArray, List.set_cons_zero, List.set_cons_succ]
      refine wpAnyH_take (i := 20) (oi := ?o20q62) (v := undef) ?hi20q62 (by kernel_rfl) (by kernel_rfl) (by kernel_rfl) (fun _ _ _ h => h) (Or.inr ⟨?hg20q62, rfl⟩) (by assumption) ?rest20q62
      case hi20q62 => rfl
      case hg20q62 => rfl
      case' rest20q62 =>
        dsimp only [List.getElem?_toArray, List.getElem?_cons_succ, List.getElem?_cons_zero, List.getElem_cons_succ, List.getElem_cons_zero, List.getElem_toArray]
        try simp only [Act.put, List.setIfInBounds_toArray, List.set_cons_zero, List.set_cons_succ]
      refine wpAnyH_take (i := 21) (oi := ?o21q63) (v := undef) ?hi21q63 (by kernel_rfl) (by kernel_rfl) (by kernel_rfl) (fun _ _ _ h => h) (Or.inr ⟨?hg21q63, rfl⟩) (by assumption) ?rest21q63
      case hi21q63 => rfl
      case hg21q63 => rfl
      case' rest21q63 =>
        dsimp only [List.getElem?_toArray, List.getElem?_cons_succ, List.getElem?_cons_zero, List.getElem_cons_succ, List.getElem_cons_zero, List.getElem_toArray]
        try simp only [Act.put, List.setIfInBounds_toArray, List.set_cons_zero, List.set_cons_succ]
      refine wpAnyH_take (i := 22) (oi := ?o22q64) (v := undef) ?hi22q64 (by kernel_rfl) (by kernel_rfl) (by kernel_rfl) (fun _ _ _ h => h) (Or.inr ⟨?hg22q64, rfl⟩) (by assumption) ?rest22q64
      case hi22q64 => rfl
      case hg22q64 => rfl
      case' rest22q64 =>
        dsimp only [List.getElem?_toArray, List.getElem?_cons_succ, List.getElem?_cons_zero, List.getElem_cons_succ, List.getElem_cons_zero, List.getElem_toArray]
        try simp only [Act.put, List.setIfInBounds_toArray, List.set_cons_zero, List.set_cons_succ]
      refine wpAnyH_take (i := 23) (oi := ?o23q65) (v := undef) ?hi23q65 (by kernel_rfl) (by kernel_rfl) (by kernel_rfl) (fun _ _ _ h => h) (Or.inr ⟨?hg23q65, rfl⟩) (by assumption) ?rest23q65
      case hi23q65 => rfl
      case hg23q65 => rfl
      case' rest23q65 =>
        dsimp only [List.getElem?_toArray, List.getElem?_cons_succ, List.getElem?_cons_zero, List.getElem_cons_succ, List.getElem_cons_zero, List.getElem_toArray]
        try simp only [Act.put, List.setIfInBounds_toArray, List.set_cons_zero, List.set_cons_succ]
      refine wpAnyH_take (i := 24) (oi := ?o24q66) (v := undef) ?hi24q66 (by kernel_rfl) (by kernel_rfl) (by kernel_rfl) (fun _ _ _ h => h) (Or.inr ⟨?hg24q66, rfl⟩) (by assumption) ?rest24q66
      case hi24q66 => rfl
      case hg24q66 => rfl
      case' rest24q66 =>
        dsimp only [List.getElem?_toArray, List.getElem?_cons_succ, List.getElem?_cons_zero, List.getElem_cons_succ, List.getElem_cons_zero, List.getElem_toArray]
        try simp only [Act.put, List.setIfInBounds_toArray, List.set_cons_zero, List.set_cons_succ]
      refine wpAnyH_take (i := 25) (oi := ?o25q67) (v := undef) ?hi25q67 (by kernel_rfl) (by kernel_rfl) (by kernel_rfl) (fun _ _ _ h => h) (Or.inr ⟨?hg25q67, rfl⟩) (by assumption) ?rest25q67
      case hi25q67 => rfl
      case hg25q67 => rfl
      case' rest25q67 =>
        dsimp only [List.getElem?_toArray, List.getElem?_cons_succ, List.getElem?_cons_zero, List.getElem_cons_succ, List.getElem_cons_zero, List.getElem_toArray]
        try simp only [Act.put, List.setIfInBounds_toArray, List.set_cons_zero, List.set_cons_succ]
      refine wpAnyH_take (i := 26) (oi := ?o26q68) (v := undef) ?hi26q68 (by kernel_rfl) (by kernel_rfl) (by kernel_rfl) (fun _ _ _ h => h) (Or.inr ⟨?hg26q68, rfl⟩) (by assumption) ?rest26q68
      case hi26q68 => rfl
      case hg26q68 => rfl
      case' rest26q68 =>
        dsimp only [List.getElem?_toArray, List.getElem?_cons_succ, List.getElem?_cons_zero, List.getElem_cons_succ, List.getElem_cons_zero, List.getElem_toArray]
        try simp only [Act.put, List.setIfInBounds_toArray, List.set_cons_zero, List.set_cons_succ]
      refine wpAnyH_take (i := 27) (oi := ?o27q69) (v := undef) ?hi27q69 (by kernel_rfl) (by kernel_rfl) (by kernel_rfl) (fun _ _ _ h => h) (Or.inr ⟨?hg27q69, rfl⟩) (by assumption) ?rest27q69
      case hi27q69 => rfl
      case hg27q69 => rfl
      case' rest27q69 =>
        dsimp only [List.getElem?_toArray, List.getElem?_cons_succ, List.getElem?_cons_zero, List.getElem_cons_succ, List.getElem_cons_zero, List.getElem_toArray]
        try simp only [Act.put, List.setIfInBounds_toArray, List.set_cons_zero, List.set_cons_succ]
      refine wpAnyH_take (i := 28) (oi := ?o28q70) (v := undef) ?hi28q70 (by kernel_rfl) (by kernel_rfl) (by kernel_rfl) (fun _ _ _ h => h) (Or.inr ⟨?hg28q70, rfl⟩) (by assumption) ?rest28q70
      case hi28q70 => rfl
      case hg28q70 => rfl
      case' rest28q70 =>
        dsimp only [List.getElem?_toArray, List.getElem?_cons_succ, List.getElem?_cons_zero, List.getElem_cons_succ, List.getElem_cons_zero, List.getElem_toArray]
        try simp only [Act.put, List.setIfInBounds_toArray, List.set_cons_zero, List.set_cons_succ]
      refine wpAnyH_take (i := 29) (oi := ?o29q71) (v := undef) ?hi29q71 (by kernel_rfl) (by kernel_rfl) (by kernel_rfl) (fun _ _ _ h => h) (Or.inr ⟨?hg29q71, rfl⟩) (by assumption) ?rest29q71
      case hi29q71 => rfl
      case hg29q71 => rfl
      case' rest29q71 =>
        dsimp only [List.getElem?_toArray, List.getElem?_cons_succ, List.getElem?_cons_zero, List.getElem_cons_succ, List.getElem_cons_zero, List.getElem_toArray]
        try simp only [Act.put, List.setIfInBounds_toArray, List.set_cons_zero, List.set_cons_succ]
      refine wpAnyH_take (i := 30) (oi := ?o30q72) (v := undef) ?hi30q72 (by kernel_rfl) (by kernel_rfl) (by kernel_rfl) (fun _ _ _ h => h) (Or.inr ⟨?hg30q72, rfl⟩) (by assumption) ?rest30q72
      case hi30q72 => rfl
      case hg30q72 => rfl
      case' rest30q72 =>
        dsimp only [List.getElem?_toArray, List.getElem?_cons_succ, List.getElem?_cons_zero, List.getElem_cons_succ, List.getElem_cons_zero, List.getElem_toArray]
        try simp only [Act.put, List.setIfInBounds_toArray, List.set_cons_zero, List.set_cons_succ]
      refine wpAnyH_take (i := 31) (oi := ?o31q73) (v := undef) ?hi31q73 (by kernel_rfl) (by kernel_rfl) (by kernel_rfl) (fun _ _ _ h => h) (Or.inr ⟨?hg31q73, rfl⟩) (by assumption) ?rest31q73
      case hi31q73 => rfl
      case hg31q73 => rfl
      case' rest31q73 =>
        dsimp only [List.getElem?_toArray, List.getElem?_cons_succ, List.getElem?_cons_zero, List.getElem_cons_succ, List.getElem_cons_zero, List.getElem_toArray]
        try simp only [Act.put, List.setIfInBounds_toArray, List.set_cons_zero, List.set_cons_succ]
      refine wpAnyH_take (i := 32) (oi := ?o32q74) (v := undef) ?hi32q74 (by kernel_rfl) (by kernel_rfl) (by kernel_rfl) (fun _ _ _ h => h) (Or.inr ⟨?hg32q74, rfl⟩) (by assumption) ?rest32q74
      case hi32q74 => rfl
      case hg32q74 => rfl
      case' rest32q74 =>
        dsimp only [List.getElem?_toArray, List.getElem?_cons_succ, List.getElem?_cons_zero, List.getElem_cons_succ, List.getElem_cons_zero, List.getElem_toArray]
        try simp only [Act.put, List.setIfInBounds_toArray, List.set_cons_zero, List.set_cons_succ]
      refine wpAnyH_take (i := 33) (oi := ?o33q75) (v := ?v33q75) ?hi33q75 (by kernel_rfl) (by kernel_rfl) (by kernel_rfl) (fun _ _ _ h => h) (Or.inl ⟨?hg33q75, ?hy33q75⟩) (by assumption) ?rest33q75
      case hi33q75 => rfl
      case hg33q75 => rfl
      case' hy33q75 =>
        dsimp only [List.getElem?_toArray, List.getElem?_cons_succ, List.getElem?_cons_zero, List.getElem_cons_succ, List.getElem_cons_zero, List.getElem_toArray]
        intro w hSw
        try dsimp only at hSw
        go_simp
        try with_reducible rfl
      case' rest33q75 =>
        dsimp only [List.getElem?_toArray, List.getElem?_cons_succ, List.getElem?_cons_zero, List.getElem_cons_succ, List.getElem_cons_zero, List.getElem_toArray]
        try simp only [Act.put, List.setIfInBounds_toArray, List.set_cons_zero, List.set_cons_succ]
      refine wpAnyH_take (i := 34) (oi := ?o34q76) (v := ?v34q76) ?hi34q76 (by kernel_rfl) (by kernel_rfl) (by kernel_rfl) (fun _ _ _ h => h) (Or.inl ⟨?hg34q76, ?hy34q76⟩) (by assumption) ?rest34q76
      case hi34q76 => rfl
      case hg34q76 => rfl
      case' hy34q76 =>
        dsimp only [List.getElem?_toArray, List.getElem?_cons_succ, List.getElem?_cons_zero, List.getElem_cons_succ, List.getElem_cons_zero, List.getElem_toArray]
        intro w hSw
        try dsimp only at hSw
        go_simp
        try with_reducible rfl
      case' rest34q76 =>
        dsimp only [List.getElem?_toArray, List.getElem?_cons_succ, List.getElem?_cons_zero, List.getElem_cons_succ, List.getElem_cons_zero, List.getElem_toArray]
        try simp only [Act.put, List.setIfInBounds_toArray, List.set_cons_zero, List.set_cons_succ]
      refine wpAnyH_done (by kernel_rfl) ?_ _
      refine NoPanic.normal ?_
      have kB9 : Kept (Below w.heap.size w (after w6.drew pw7)) := ⟨Below.next kB6.out kB7.out⟩
      generalize after w6.drew pw7 = w13 at kB9 ⊢
      go_wp2
      go_ret
      exact ⟨rfl, kB9.out⟩
set_option maxRecDepth 100000 in
theorem lifted (os : Os) (started : os.Started) (H : Type) (enc : TypeId × Value → H) :
    ReturnsInHanded {} Try.checked os 9 .any (Rows.linearValidSpec.pre6 enc Try.prog Try.f9 Rows.linearValidRow.domain false) (Rows.linearValidSpec.post enc Try.prog Try.f9 false true false false) := by
  refine returnsInHanded_of_change (C := Try.checked) own started (by kernel_rfl) Try.func9
    (ChangeSpec.witness6 (enc := enc) (C := Try.checked) false ⟨#[], #[.slice none 0 0], []⟩ 8 (by kernel_rfl) (by kernel_rfl) (by kernel_rfl) (by kernel_rfl)) ?_
  intro W base args ds gs before hval0 hW hcnd _
  have hval : ∀ (j : Nat) t v, Try.f9.params[j]? = some t → args[j]? = some v → Value.okWide Try.prog W .any base t v := hval0
  have hW0 : DataW.Whole enc Try.prog Try.f9.params.toList Rows.linearValidSpec.vars false W args.toList ds gs before := hW
  obtain ⟨p, q, hA0, hV, rfl, _, _⟩ := hW
  have hA : DataW.TrodAll enc Try.prog W 0 (fun _ => true) true Try.f9.params.toList args.toList ds p := hA0
  rw [Try.params9] at hA hval
  obtain ⟨v0, vs0, d0, ds0, p0, q0, hargs, rfl, rfl, h0, r0⟩ := trodAll_cons hA
  obtain ⟨rfl, rfl, rfl⟩ := trodAll_nil r0
  obtain rfl : args = #[v0] := by cases args; simp_all
  obtain ⟨rfl, rfl⟩ := trodVars_none hV
  obtain ⟨a0x, a0y, a0z, rfl, u0⟩ := open_mat (hval 0 28 v0 rfl rfl) h0
  clear hA0 hval0
  refine (walk W a0x a0y a0z u0).mono fun e W' ⟨he, hb⟩ => ⟨.bool true, he, ?_⟩
  exact law_post (fun t ht => by have ht' : t ∈ [28] := ht; simp only [List.mem_cons, List.not_mem_nil, or_false] at ht'; rcases ht' with rfl <;> exact ⟨by kernel_rfl, of_decide_eq_true (by kernel_rfl)⟩) rfl rfl hW0 rfl hb

theorem over : Rows.linearValidRow.holds Try.pinned (OpenSpec.ofChange Rows.linearValidSpec) :=
  OpenClaim.holds_of_wide 9 Try.f9 rfl rfl rfl rfl rfl rfl rfl ⟨rfl, rfl, rfl, rfl, rfl⟩ rfl rfl rfl rfl rfl (by kernel_rfl) Try.func9 (by kernel_rfl)
    (of_decide_eq_true (by kernel_rfl)) (by unfold Func.isWrapper; first | (rw [if_pos (by decide +kernel)]; kernel_rfl) | (rw [if_neg (by decide +kernel)]; exact ⟨rfl, rfl⟩))
    (fun os started H enc _ => lifted os started H enc)

/-- The statement. -/
theorem proved : Rows.LinearValidSaid := over
#print axioms proved
end Go.Proofs.Ytjnlnbkdnjainaa.linearValid
