/- LinearKernel: for any field and any matrix the call returns true: Kernel returns the reference's vectors, whose products with the matrix are 0 (matrices of at most 12 rows and columns; for others there is nothing to show). No condition. -/
import Derived.Test.YtjnlnbkdnjainaaHRke
import Derived.Test.YtjnlnbkdnjainaaHPl3
namespace Go.Proofs.Ytjnlnbkdnjainaa.linearKernel
open Go.ChangeShapes Go.WideShapes Go.ChangeAt Go.RowKit Go.Sort

set_option maxHeartbeats 8000000 in
set_option maxRecDepth 100000 in
theorem walk (w : World) (p : Int) (hp : U p) (u : Option Addr) (ls : List (List Int)) (c : Nat) (h1 : Arg w u c ls) :
    Calls Try.prog 5 #[.int .u64 p, .slice u ls.length c] w (Gives (.bool true) w) := by
  have hs := h1.1.small
  obtain ⟨n, hn⟩ : ∃ n, ls.length = n := ⟨_, rfl⟩
  have csm : Kept (∀ w', Below w.heap.size w w' → Calls Try.prog 31 #[.slice u n c] w' (Gives (.bool (smlM ls 12)) w')) := ⟨fun w' hw => by have := lsmall_c u c ls w' (h1.mt hw); rw [hn] at this; exact this⟩
  cases hsm : smlM ls 12
  · rw [hsm] at csm
    rw [hn] at hs ⊢
    clear h1 hsm hn
    go_enter Try.func5, Try.ntmps5
    go_wp2_with (first | (go_at_call 30; (first | with_reducible refine use1 (awake05_c _) ?_ | with_reducible refine use (awake05_c _) ?_); intro pw) | (go_at_call 31; (first | with_reducible refine use1 (csm.out _ (by repeat (first | exact Below.refl _ _ | refine Below.later ?_ _ | refine Below.box ?_ _ | refine Below.drew ?_ | refine Below.put ?_ (by dsimp only; omega) _))) ?_ | with_reducible refine use (csm.out _ (by repeat (first | exact Below.refl _ _ | refine Below.later ?_ _ | refine Below.box ?_ _ | refine Below.drew ?_ | refine Below.put ?_ (by dsimp only; omega) _))) ?_); intro pw))
    go_ret
    exact ⟨rfl, (by repeat (first | exact Below.refl _ _ | refine Below.later ?_ _ | refine Below.box ?_ _ | refine Below.drew ?_ | refine Below.put ?_ (by dsimp only; omega) _))⟩
  · rw [hsm] at csm
    have ccp : Kept (∀ w', Below w.heap.size w w' → Calls Try.prog 33 #[.slice u n c] w' (GivesC ls w')) := ⟨fun w' hw => by have := h1.cp hsm (by omega) hw; rw [hn] at this; exact this⟩
    cases hV : (vld p && vldM ls)
    · have crd : Kept (∀ w' u c, Mt w' u ls → Calls Try.prog 32 #[.agg #[.int .u64 p], .slice u n c] w' (Gives (.slice none 0 0) w')) := ⟨fun w' u c h => by have := kernel_no p u c ls w' h hV; rw [hn] at this; exact this⟩
      have crr : Kept (∀ w', Below w.heap.size w w' → Calls Try.prog 34 #[.int .u64 p, .slice u n c] w' (fun e w'' => e = .returned (.slice (some ⟨w'.heap.size, 0, none⟩) 0 0) ∧ Below w'.heap.size w' w'')) := ⟨fun w' hw => by have := rkernel_no p u c ls w' (h1.mt hw) hV; rw [hn] at this; exact this⟩
      have csa : Kept (∀ w' B, Calls Try.prog 17 #[.slice none 0 0, .slice (some ⟨B, 0, none⟩) 0 0] w' (Gives (.bool true) w')) := ⟨fun w' B => by have := same05_c none (some ⟨B, 0, none⟩) 0 0 [] [] w' ⟨by simp, fun h => absurd rfl h⟩ ⟨by simp, fun h => absurd rfl h⟩; rw [decide_eq_true rfl] at this; exact this⟩
      rw [hn] at hs ⊢
      have kn := (⟨hn⟩ : Kept _)
      have kp := (⟨hp⟩ : Kept _)
      clear h1 hsm hn hV hp
      go_enter Try.func5, Try.ntmps5
      go_wp2_with (first | (go_at_call 30; (first | with_reducible refine use1 (awake05_c _) ?_ | with_reducible refine use (awake05_c _) ?_); intro pw) | (go_at_call 31; (first | with_reducible refine use1 (csm.out _ (by repeat (first | exact Below.refl _ _ | refine Below.later ?_ _ | refine Below.box ?_ _ | refine Below.drew ?_ | refine Below.put ?_ (by dsimp only; omega) _))) ?_ | with_reducible refine use (csm.out _ (by repeat (first | exact Below.refl _ _ | refine Below.later ?_ _ | refine Below.box ?_ _ | refine Below.drew ?_ | refine Below.put ?_ (by dsimp only; omega) _))) ?_); intro pw))
      obtain ⟨X, hX⟩ : ∃ X, w.heap.size + pw.os.size = X := ⟨_, rfl⟩
      have hB1 : Below w.heap.size w ((after w pw).alloc (.cells #[.int .u64 p] 27)) := (by repeat (first | exact Below.refl _ _ | refine Below.later ?_ _ | refine Below.box ?_ _ | refine Below.drew ?_ | refine Below.put ?_ (by dsimp only; omega) _))
      have hb1 : ((after w pw).alloc (.cells #[.int .u64 p] 27)).cell? ⟨X, 0, none⟩ = some (.int .u64 p) := by rw [← hX]; simp [go_sem]
      have hl1 : X < ((after w pw).alloc (.cells #[.int .u64 p] 27)).heap.size := by rw [← hX]; simp
      rw [hX]
      generalize (after w pw).alloc (.cells #[.int .u64 p] 27) = W1 at hB1 hb1 hl1 ⊢
      have kB1 := (⟨hB1⟩ : Kept _)
      have hS : Kept (∀ w', Below W1.heap.size W1 w' → w'.cell? ⟨X, 0, none⟩ = some (.int .u64 p)) := ⟨fun w' hw => by rw [hw.cell (p := ⟨X, 0, none⟩) hl1]; exact hb1⟩
      clear hB1 hX csm
      refine wp_region_noPanic ?_
      refine wp_region_held_drew (S := (fun w' => w'.cell? ⟨X, 0, none⟩ = some (.int .u64 p))) (by kernel_rfl) (hS.out _ (by repeat (first | exact Below.refl _ _ | refine Below.later ?_ _ | refine Below.box ?_ _ | refine Below.drew ?_ | refine Below.put ?_ (by dsimp only; omega) _))) (fun hHeld => ?_)
      refine wpAnyH_take (i := 0) (oi := ?o0q1) (v := ?v0q1) ?hi0q1 (by kernel_rfl) (by kernel_rfl) (by kernel_rfl) (fun _ _ _ h => h) (Or.inl ⟨?hg0q1, ?hy0q1⟩) (by assumption) ?rest0q1
      case hi0q1 => rfl
      case hg0q1 => rfl
      case' hy0q1 =>
        dsimp only [List.getElem?_toArray, List.getElem?_cons_succ, List.getElem?_cons_zero, List.getElem_cons_succ, List.getElem_cons_zero, List.getElem_toArray]
        intro w hSw
        try dsimp only at hSw
        go_simp
        try with_reducible rfl
      case' rest0q1 =>
        dsimp only [List.getElem?_toArray, List.getElem?_cons_succ, List.getElem?_cons_zero, List.getElem_cons_succ, List.getElem_cons_zero, List.getElem_toArray]
        try simp only [Act.put, List.setIfInBounds_toArray, List.set_cons_zero, List.set_cons_succ]
      refine wpAnyH_take (i := 1) (oi := ?o1q2) (v := ?v1q2) ?hi1q2 (by kernel_rfl) (by kernel_rfl) (by kernel_rfl) (fun _ _ _ h => h) (Or.inl ⟨?hg1q2, ?hy1q2⟩) (by assumption) ?rest1q2
      case hi1q2 => rfl
      case hg1q2 => rfl
      case' hy1q2 =>
        dsimp only [List.getElem?_toArray, List.getElem?_cons_succ, List.getElem?_cons_zero, List.getElem_cons_succ, List.getElem_cons_zero, List.getElem_toArray]
        intro w hSw
        try dsimp only at hSw
        go_simp
        try with_reducible rfl
      case' rest1q2 =>
        dsimp only [List.getElem?_toArray, List.getElem?_cons_succ, List.getElem?_cons_zero, List.getElem_cons_succ, List.getElem_cons_zero, List.getElem_toArray]
        try simp only [Act.put, List.setIfInBounds_toArray, List.set_cons_zero, List.set_cons_succ]
      refine wpAnyH_ready (rs := [2]) (by kernel_rfl) (by simp) ?_
      refine AllReadyH.cons rfl (fun K hK => ?_) AllReadyH.nil
      dsimp only [List.getElem?_toArray, List.getElem?_cons_succ, List.getElem?_cons_zero, List.getElem_cons_succ, List.getElem_cons_zero, List.getElem_toArray]
      go_simp
      go_at_call 33
      refine (ccp.out _ (Below.next kB1.out (by repeat (first | exact Below.refl _ _ | refine Below.later ?_ _ | refine Below.box ?_ _ | refine Below.drew ?_ | refine Below.put ?_ (by dsimp only; omega) _)))).mono ?_
      rintro e w5 ⟨u5, c5, rfl, hM5, _, hB5⟩
      replace hB5 : Below W1.heap.size W1 w5 := Below.next (by repeat (first | exact Below.refl _ _ | refine Below.later ?_ _ | refine Below.box ?_ _ | refine Below.drew ?_ | refine Below.put ?_ (by dsimp only; omega) _)) hB5
      try simp only [kn.out]
      go_wp2
      refine hK.out _ _ ?_ (fun hHeld => ?_)
      · exact hS.out _ (hB5)
      clear hK K
      try simp only [Act.put, List.setIfInBounds_toArray, List.set_cons_zero, List.set_cons_succ]
      refine wpAnyH_ready (rs := [3]) (by kernel_rfl) (by simp) ?_
      refine AllReadyH.cons rfl (fun K hK => ?_) AllReadyH.nil
      dsimp only [List.getElem?_toArray, List.getElem?_cons_succ, List.getElem?_cons_zero, List.getElem_cons_succ, List.getElem_cons_zero, List.getElem_toArray]
      go_simp
      go_at_call 32
      refine use (crd.out _ _ _ hM5) ?_
      intro pw3
      go_wp2
      refine hK.out _ _ ?_ (fun hHeld => ?_)
      · exact hS.out _ (Below.later hB5 _)
      clear hK K
      try simp only [Act.put, List.setIfInBounds_toArray, List.set_cons_zero, List.set_cons_succ]
      refine wpAnyH_take (i := 4) (oi := ?o4q3) (v := ?v4q3) ?hi4q3 (by kernel_rfl) (by kernel_rfl) (by kernel_rfl) (fun _ _ _ h => h) (Or.inl ⟨?hg4q3, ?hy4q3⟩) (by assumption) ?rest4q3
      case hi4q3 => rfl
      case hg4q3 => rfl
      case' hy4q3 =>
        dsimp only [List.getElem?_toArray, List.getElem?_cons_succ, List.getElem?_cons_zero, List.getElem_cons_succ, List.getElem_cons_zero, List.getElem_toArray]
        intro w hSw
        try dsimp only at hSw
        go_simp
        try with_reducible rfl
      case' rest4q3 =>
        dsimp only [List.getElem?_toArray, List.getElem?_cons_succ, List.getElem?_cons_zero, List.getElem_cons_succ, List.getElem_cons_zero, List.getElem_toArray]
        try simp only [Act.put, List.setIfInBounds_toArray, List.set_cons_zero, List.set_cons_succ]
      refine wpAnyH_done (by kernel_rfl) ?_ _
      refine NoPanic.normal ?_
      have kB6 : Kept (Below w.heap.size w (after w5 pw3)) := ⟨Below.next kB1.out (Below.later hB5 _)⟩
      generalize after w5 pw3 = w6 at kB6 ⊢
      clear hHeld hM5 hB5
      go_wp2_with (first | (go_at_call 34; refine (crr.out _ kB6.out).mono ?_; rintro e w7 ⟨rfl, hB7⟩; refine Stop.out ?_))
      refine ⟨?_⟩
      have kB7 : Kept (Below w.heap.size w w7) := ⟨Below.next kB6.out hB7⟩
      generalize w6.heap.size = B7
      clear hB7
      go_wp2_with (first | (go_at_call 17; refine use (csa.out _ _) ?_; intro pw5))
      have kB8 : Kept (Below w.heap.size w (after w7 pw5)) := ⟨Below.later kB7.out _⟩
      generalize after w7 pw5 = w9 at kB8 ⊢
      go_loopw [33] (fun v wr => v = .int .i64 0 ∧ wr = w9) (fun _ _ => 0)
      case atStart => exact ⟨rfl, by first | rfl | trivial⟩
      case round =>
        obtain ⟨rfl, rfl⟩ := hrel
        go_wp2
        go_ret
        exact ⟨rfl, kB8.out⟩
    · simp only [Bool.and_eq_true] at hV
      obtain ⟨hv, hM⟩ := hV
      obtain ⟨m, hm⟩ : ∃ m, colsN ls = m := ⟨_, rfl⟩
      have hn12 : n ≤ 64 := by have := (vldM_row hM).1; omega
      have hm12 : m ≤ 64 := by have := (vldM_row hM).2.1; omega
      have hker := ker_apply (p := p) (n := n) (m := m) (ls := ls) hv hn (fun l hl => by rw [(vldM_row hM).2.2 l hl, hm])
      have crd : Kept (∀ w' u c, Mt w' u ls → Calls Try.prog 32 #[.agg #[.int .u64 p], .slice u n c] w' (GivesC (kerL p m (elR p n m (elF p ls)).f (elR p n m (elF p ls)).piv) w')) := ⟨fun w' u c h => kernel_lc p n m u c ls w' h hv hM hn hm⟩
      have crr : Kept (∀ w', Below w.heap.size w w' → Calls Try.prog 34 #[.int .u64 p, .slice u n c] w' (GivesC (kerL p m (elR p n m (elF p ls)).f (elR p n m (elF p ls)).piv) w')) := ⟨fun w' hw => rkernel_lc p n m u c ls w' (h1.mt hw) hv hM hn hm⟩
      have hkl : (kerL p m (elR p n m (elF p ls)).f (elR p n m (elF p ls)).piv).length ≤ 64 := by
        have := frees_len (elR p n m (elF p ls)).piv m
        rw [kerL, List.length_map]; omega
      generalize kerL p m (elR p n m (elF p ls)).f (elR p n m (elF p ls)).piv = KL at *
      have cap : Kept (∀ w' v d x, Below w.heap.size w w' → x ∈ KL → Ls w' v x → Calls Try.prog 35 #[.int .u64 p, .slice u n c, .slice v m d] w' (GivesV (mulV p ls x) w')) := ⟨fun w' v d x hw hx h => rapply_lc p n m u v c d ls x w' (h1.mt hw) h (hker x hx).1 hv hM hn hm⟩
      obtain ⟨nk, hnk⟩ : ∃ nk, KL.length = nk := ⟨_, rfl⟩
      have csa : Kept (∀ w' u1 u2 c1 c2, Mt w' u1 KL → Mt w' u2 KL → Calls Try.prog 17 #[.slice u1 nk c1, .slice u2 nk c2] w' (Gives (.bool true) w')) := ⟨fun w' u1 u2 c1 c2 h1 h2 => by have := same05_c u1 u2 c1 c2 _ _ w' h1 h2; rw [decide_eq_true rfl, hnk] at this; exact this⟩
      have kz : Kept (∀ x ∈ KL, x.length = m ∧ (mulV p ls x).length = n ∧ ∀ v ∈ mulV p ls x, v = 0) := ⟨fun x hx => ⟨(hker x hx).1, by rw [mulV, List.length_map, hn], (hker x hx).2⟩⟩
      rw [hn] at hs ⊢
      rw [hnk] at hkl
      have kn := (⟨hn⟩ : Kept _)
      have knk := (⟨hnk⟩ : Kept _)
      have kp := (⟨hp⟩ : Kept _)
      clear h1 hsm hn hv hM hp hm hker hnk
      go_enter Try.func5, Try.ntmps5
      go_wp2_with (first | (go_at_call 30; (first | with_reducible refine use1 (awake05_c _) ?_ | with_reducible refine use (awake05_c _) ?_); intro pw) | (go_at_call 31; (first | with_reducible refine use1 (csm.out _ (by repeat (first | exact Below.refl _ _ | refine Below.later ?_ _ | refine Below.box ?_ _ | refine Below.drew ?_ | refine Below.put ?_ (by dsimp only; omega) _))) ?_ | with_reducible refine use (csm.out _ (by repeat (first | exact Below.refl _ _ | refine Below.later ?_ _ | refine Below.box ?_ _ | refine Below.drew ?_ | refine Below.put ?_ (by dsimp only; omega) _))) ?_); intro pw))
      obtain ⟨X, hX⟩ : ∃ X, w.heap.size + pw.os.size = X := ⟨_, rfl⟩
      have hB1 : Below w.heap.size w ((after w pw).alloc (.cells #[.int .u64 p] 27)) := (by repeat (first | exact Below.refl _ _ | refine Below.later ?_ _ | refine Below.box ?_ _ | refine Below.drew ?_ | refine Below.put ?_ (by dsimp only; omega) _))
      have hb1 : ((after w pw).alloc (.cells #[.int .u64 p] 27)).cell? ⟨X, 0, none⟩ = some (.int .u64 p) := by rw [← hX]; simp [go_sem]
      have hl1 : X < ((after w pw).alloc (.cells #[.int .u64 p] 27)).heap.size := by rw [← hX]; simp
      rw [hX]
      generalize (after w pw).alloc (.cells #[.int .u64 p] 27) = W1 at hB1 hb1 hl1 ⊢
      have kB1 := (⟨hB1⟩ : Kept _)
      have hS : Kept (∀ w', Below W1.heap.size W1 w' → w'.cell? ⟨X, 0, none⟩ = some (.int .u64 p)) := ⟨fun w' hw => by rw [hw.cell (p := ⟨X, 0, none⟩) hl1]; exact hb1⟩
      clear hB1 hX csm
      refine wp_region_noPanic ?_
      refine wp_region_held_drew (S := (fun w' => w'.cell? ⟨X, 0, none⟩ = some (.int .u64 p))) (by kernel_rfl) (hS.out _ (by repeat (first | exact Below.refl _ _ | refine Below.later ?_ _ | refine Below.box ?_ _ | refine Below.drew ?_ | refine Below.put ?_ (by dsimp only; omega) _))) (fun hHeld => ?_)
      refine wpAnyH_take (i := 0) (oi := ?o0q4) (v := ?v0q4) ?hi0q4 (by kernel_rfl) (by kernel_rfl) (by kernel_rfl) (fun _ _ _ h => h) (Or.inl ⟨?hg0q4, ?hy0q4⟩) (by assumption) ?rest0q4
      case hi0q4 => rfl
      case hg0q4 => rfl
      case' hy0q4 =>
        dsimp only [List.getElem?_toArray, List.getElem?_cons_succ, List.getElem?_cons_zero, List.getElem_cons_succ, List.getElem_cons_zero, List.getElem_toArray]
        intro w hSw
        try dsimp only at hSw
        go_simp
        try with_reducible rfl
      case' rest0q4 =>
        dsimp only [List.getElem?_toArray, List.getElem?_cons_succ, List.getElem?_cons_zero, List.getElem_cons_succ, List.getElem_cons_zero, List.getElem_toArray]
        try simp only [Act.put, List.setIfInBounds_toArray, List.set_cons_zero, List.set_cons_succ]
      refine wpAnyH_take (i := 1) (oi := ?o1q5) (v := ?v1q5) ?hi1q5 (by kernel_rfl) (by kernel_rfl) (by kernel_rfl) (fun _ _ _ h => h) (Or.inl ⟨?hg1q5, ?hy1q5⟩) (by assumption) ?rest1q5
      case hi1q5 => rfl
      case hg1q5 => rfl
      case' hy1q5 =>
        dsimp only [List.getElem?_toArray, List.getElem?_cons_succ, List.getElem?_cons_zero, List.getElem_cons_succ, List.getElem_cons_zero, List.getElem_toArray]
        intro w hSw
        try dsimp only at hSw
        go_simp
        try with_reducible rfl
      case' rest1q5 =>
        dsimp only [List.getElem?_toArray, List.getElem?_cons_succ, List.getElem?_cons_zero, List.getElem_cons_succ, List.getElem_cons_zero, List.getElem_toArray]
        try simp only [Act.put, List.setIfInBounds_toArray, List.set_cons_zero, List.set_cons_succ]
      refine wpAnyH_ready (rs := [2]) (by kernel_rfl) (by simp) ?_
      refine AllReadyH.cons rfl (fun K hK => ?_) AllReadyH.nil
      dsimp only [List.getElem?_toArray, List.getElem?_cons_succ, List.getElem?_cons_zero, List.getElem_cons_succ, List.getElem_cons_zero, List.getElem_toArray]
      go_simp
      go_at_call 33
      refine (ccp.out _ (Below.next kB1.out (by repeat (first | exact Below.refl _ _ | refine Below.later ?_ _ | refine Below.box ?_ _ | refine Below.drew ?_ | refine Below.put ?_ (by dsimp only; omega) _)))).mono ?_
      rintro e w5 ⟨u5, c5, rfl, hM5, _, hB5⟩
      replace hB5 : Below W1.heap.size W1 w5 := Below.next (by repeat (first | exact Below.refl _ _ | refine Below.later ?_ _ | refine Below.box ?_ _ | refine Below.drew ?_ | refine Below.put ?_ (by dsimp only; omega) _)) hB5
      try simp only [kn.out]
      go_wp2
      refine hK.out _ _ ?_ (fun hHeld => ?_)
      · exact hS.out _ (hB5)
      clear hK K
      try simp only [Act.put, List.setIfInBounds_toArray, List.set_cons_zero, List.set_cons_succ]
      refine wpAnyH_ready (rs := [3]) (by kernel_rfl) (by simp) ?_
      refine AllReadyH.cons rfl (fun K hK => ?_) AllReadyH.nil
      dsimp only [List.getElem?_toArray, List.getElem?_cons_succ, List.getElem?_cons_zero, List.getElem_cons_succ, List.getElem_cons_zero, List.getElem_toArray]
      go_simp
      go_at_call 32
      refine (crd.out _ _ _ hM5).mono ?_
      rintro e w6 ⟨u6, c6, rfl, hM6, _, hB6⟩
      replace hB5 : Below W1.heap.size W1 w6 := Below.next hB5 hB6
      simp only [knk.out]
      go_wp2
      refine hK.out _ _ ?_ (fun hHeld => ?_)
      · exact hS.out _ (hB5)
      clear hK K
      try simp only [Act.put, List.setIfInBounds_toArray, List.set_cons_zero, List.set_cons_succ]
      refine wpAnyH_take (i := 4) (oi := ?o4q6) (v := ?v4q6) ?hi4q6 (by kernel_rfl) (by kernel_rfl) (by kernel_rfl) (fun _ _ _ h => h) (Or.inl ⟨?hg4q6, ?hy4q6⟩) (by assumption) ?rest4q6
      case hi4q6 => rfl
      case hg4q6 => rfl
      case' hy4q6 =>
        dsimp only [List.getElem?_toArray, List.getElem?_cons_succ, List.getElem?_cons_zero, List.getElem_cons_succ, List.getElem_cons_zero, List.getElem_toArray]
        intro w hSw
        try dsimp only at hSw
        go_simp
        try with_reducible rfl
      case' rest4q6 =>
        dsimp only [List.getElem?_toArray, List.getElem?_cons_succ, List.getElem?_cons_zero, List.getElem_cons_succ, List.getElem_cons_zero, List.getElem_toArray]
        try simp only [Act.put, List.setIfInBounds_toArray, List.set_cons_zero, List.set_cons_succ]
      refine wpAnyH_done (by kernel_rfl) ?_ _
      refine NoPanic.normal ?_
      have kB6 : Kept (Below w.heap.size w w6) := ⟨Below.next kB1.out hB5⟩
      have kM6 := (⟨hM6⟩ : Kept _)
      clear hHeld hM5 hB5 hM6 hB6
      go_wp2_with (first | (go_at_call 34; refine (crr.out _ kB6.out).mono ?_; rintro e w7 ⟨u7, c7, rfl, hM7, _, hB7⟩; simp only [knk.out]; refine Stop.out ?_))
      refine ⟨?_⟩
      have kB7 : Kept (Below w.heap.size w w7) := ⟨Below.next kB6.out hB7⟩
      have kM7 := (⟨hM7⟩ : Kept _)
      have kM6' := (⟨kM6.out.below (Nat.le_refl _) hB7⟩ : Kept (Mt w7 u6 KL))
      clear hB7 hM7
      go_wp2_with (first | (go_at_call 17; refine use (csa.out _ _ _ _ _ kM6'.out kM7.out) ?_; intro pw5))
      have kB8 : Kept (Below w.heap.size w (after w7 pw5)) := ⟨Below.later kB7.out _⟩
      have kM8 : Kept (Mt (after w7 pw5) u6 KL) := ⟨kM6'.out.below (Nat.le_refl _) (by repeat (first | exact Below.refl _ _ | refine Below.later ?_ _ | refine Below.box ?_ _ | refine Below.drew ?_ | refine Below.put ?_ (by dsimp only; omega) _))⟩
      generalize after w7 pw5 = w9 at kB8 kM8 ⊢
      have kg := (⟨kM8.out.get knk.out⟩ : Kept _)
      go_loopw [33] (fun v wr => ∃ k : Nat, v = .int .i64 (k : Int) ∧ k ≤ nk ∧ Kept (Below w9.heap.size w9 wr)) (fun v _ => ((nk : Int) - intOf v).toNat)
      case atStart => exact ⟨0, rfl, by omega, ⟨Below.refl _ _⟩⟩
      case round =>
        obtain ⟨k, rfl, hk, hB⟩ := hrel
        obtain ⟨w1, rfl⟩ : ∃ x, x = wr := ⟨wr, rfl⟩
        by_cases h5 : k < nk
        · obtain ⟨b1, o1, x, v1, d1, rfl, hx1, hb1, hc1, hL1⟩ := kg.out k h5
          obtain ⟨hxm, hxl, hxz⟩ := kz.out x (List.mem_of_getElem? hx1)
          rw [hxm] at hc1
          have hc1' : w1.cell? ⟨b1, o1 + k, none⟩ = some (.slice v1 m d1) := by rw [hB.out.cell (p := ⟨b1, o1 + k, none⟩) hb1]; exact hc1
          have hb1' : b1 < w1.heap.size := by have := hB.out.size; omega
          have kap : Kept (Calls Try.prog 35 #[.int .u64 p, .slice u n c, .slice v1 m d1] w1 (GivesV (mulV p ls x) w1)) := ⟨cap.out w1 v1 d1 x (Below.next kB8.out hB.out) (List.mem_of_getElem? hx1) (hL1.below (Nat.le_refl _) hB.out)⟩
          have kxl := (⟨hxl⟩ : Kept _)
          have kxz := (⟨hxz⟩ : Kept _)
          clear hx1 hc1 hL1 hxm hb1 hxl hxz
          go_wp2_with (first | (go_at_call 35; refine kap.out.mono ?_; rintro e w2 ⟨u2, c2, rfl, hL2, _, hB2⟩; simp only [kxl.out]; refine Stop.out ?_))
          refine ⟨?_⟩
          have kB2 : Kept (Below w9.heap.size w9 w2) := ⟨Below.next hB.out hB2⟩
          have kg2 : Kept (∀ j, j < n → ∃ b o, u2 = some ⟨b, o, none⟩ ∧ b < w2.heap.size ∧ w2.cell? ⟨b, o + j, none⟩ = some (.int .u64 0)) := ⟨fun j hj => by
            obtain ⟨b, o, z, e, hz, hb, hc, _⟩ := hL2.get kxl.out j hj
            rw [kxz.out z (List.mem_of_getElem? hz)] at hc
            exact ⟨b, o, e, hb, hc⟩⟩
          clear hL2 hB2 hB kap hc1' hb1'
          go_wp2
          go_loopw [42] (fun v wr => ∃ j : Nat, v = .int .i64 (j : Int) ∧ j ≤ n ∧ wr = w2) (fun v _ => ((n : Int) - intOf v).toNat)
          case atStart => exact ⟨0, rfl, by omega, by first | rfl | trivial⟩
          case round =>
            obtain ⟨j, rfl, hj, rfl⟩ := hrel
            by_cases h7 : j < n
            · obtain ⟨b2, o2, rfl, hb2, hc2⟩ := kg2.out j h7
              go_wp2
              go_roundw
              case rel => exact ⟨j + 1, by go_num, by omega, by first | rfl | trivial⟩
              case measure => first | (simp [intOf]; omega) | (simp [intOf]; done)
            · go_wp2
              go_roundw
              case rel => exact ⟨k + 1, by go_num, by omega, kB2⟩
              case measure => first | (simp [intOf]; omega) | (simp [intOf]; done)
        · have kB10 : Kept (Below w.heap.size w w1) := ⟨Below.next kB8.out hB.out⟩
          go_wp2
          go_ret
          exact ⟨rfl, kB10.out⟩
set_option maxRecDepth 100000 in
theorem lifted (os : Os) (started : os.Started) (H : Type) (enc : TypeId × Value → H) :
    ReturnsInHanded {} Try.checked os 5 .any (Rows.linearKernelSpec.pre6 enc Try.prog Try.f5 Rows.linearKernelRow.domain false) (Rows.linearKernelSpec.post enc Try.prog Try.f5 false true false false) := by
  refine returnsInHanded_of_change (C := Try.checked) own started (by kernel_rfl) Try.func5
    (ChangeSpec.witness6 (enc := enc) (C := Try.checked) false ⟨#[], #[.int .u64 0, .slice none 0 0], []⟩ 8 (by kernel_rfl) (by kernel_rfl) (by kernel_rfl) (by kernel_rfl)) ?_
  intro W base args ds gs before hval0 hW hcnd _
  have hval : ∀ (j : Nat) t v, Try.f5.params[j]? = some t → args[j]? = some v → Value.okWide Try.prog W .any base t v := hval0
  have hW0 : DataW.Whole enc Try.prog Try.f5.params.toList Rows.linearKernelSpec.vars false W args.toList ds gs before := hW
  obtain ⟨p, q, hA0, hV, rfl, _, _⟩ := hW
  have hA : DataW.TrodAll enc Try.prog W 0 (fun _ => true) true Try.f5.params.toList args.toList ds p := hA0
  rw [Try.params5] at hA hval
  obtain ⟨v0, vs0, d0, ds0, p0, q0, hargs, rfl, rfl, h0, r0⟩ := trodAll_cons hA
  obtain ⟨v1, vs1, d1, ds1, p1, q1, rfl, rfl, rfl, h1, r1⟩ := trodAll_cons r0
  obtain ⟨rfl, rfl, rfl⟩ := trodAll_nil r1
  obtain rfl : args = #[v0, v1] := by cases args; simp_all
  obtain ⟨rfl, rfl⟩ := trodVars_none hV
  obtain ⟨a0, rfl, u0⟩ := open_u64 (hval 0 22 v0 rfl rfl)
  obtain ⟨a1x, a1y, a1z, rfl, u1⟩ := open_mat (hval 1 28 v1 rfl rfl) h1
  clear hA0 hval0
  refine (walk W a0 u0 a1x a1y a1z u1).mono fun e W' ⟨he, hb⟩ => ⟨.bool true, he, ?_⟩
  exact law_post (fun t ht => by have ht' : t ∈ [22, 28] := ht; simp only [List.mem_cons, List.not_mem_nil, or_false] at ht'; rcases ht' with rfl | rfl <;> exact ⟨by kernel_rfl, of_decide_eq_true (by kernel_rfl)⟩) rfl rfl hW0 rfl hb

theorem over : Rows.linearKernelRow.holds Try.pinned (OpenSpec.ofChange Rows.linearKernelSpec) :=
  OpenClaim.holds_of_wide 5 Try.f5 rfl rfl rfl rfl rfl rfl rfl ⟨rfl, rfl, rfl, rfl, rfl⟩ rfl rfl rfl rfl rfl (by kernel_rfl) Try.func5 (by kernel_rfl)
    (of_decide_eq_true (by kernel_rfl)) (by unfold Func.isWrapper; first | (rw [if_pos (by decide +kernel)]; kernel_rfl) | (rw [if_neg (by decide +kernel)]; exact ⟨rfl, rfl⟩))
    (fun os started H enc _ => lifted os started H enc)

/-- The statement. -/
theorem proved : Rows.LinearKernelSaid := over
#print axioms proved
end Go.Proofs.Ytjnlnbkdnjainaa.linearKernel
