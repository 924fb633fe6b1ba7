/- ExtensionField: for any field and any three pairs the call returns true: addition and multiplication are associative and commutative, and distribute. No condition. -/
import Derived.Test.YteljpelagpghcaaLaw
import Derived.Test.YteljpelagpghcaaBig
import Derived.Test.YteljpelagpghcaaInv
import Derived.Test.YteljpelagpghcaaL02a
import Derived.Test.YteljpelagpghcaaExtl
namespace Go.Proofs.Yteljpelagpghcaa.extensionField
open Go.ChangeShapes Go.WideShapes Go.ChangeAt Go.RowKit

set_option maxRecDepth 100000 in
set_option maxHeartbeats 4000000 in
theorem walk (p k a0 a1 b0 b1 : Int) (h : (U p ∧ 0 ≤ k ∧ k ≤ 255) ∧ (U a0 ∧ U a1) ∧ (U b0 ∧ U b1)) (e0 e1 : Int) (hc : U e0 ∧ U e1) (w : World) : Calls Try.prog 7 #[.agg #[.int .u64 p, .int .u8 k, .int .u64 a0, .int .u64 a1, .int .u64 b0, .int .u64 b1], .agg #[.int .u64 e0, .int .u64 e1]] w (Gives (.bool true) w) := by
  obtain ⟨⟨hp, hk0, hk1⟩, ha, hb⟩ := h
  have hA : U2 (a0, a1) := ha
  have hB : U2 (b0, b1) := hb
  have hC : U2 (e0, e1) := hc
  have c0 : Kept (∀ w, Calls Try.prog 12 #[.agg #[.int .u64 p, .int .u8 k, .int .u64 a0, .int .u64 a1, .int .u64 b0, .int .u64 b1]] w (Gives (.int .u64 (twoP p k)) w)) := ⟨fun w => two_c p k a0 a1 b0 b1 w hk0 hk1⟩
  generalize twoP p k = r at *
  have c1 : Kept (∀ w, Calls Try.prog 24 #[fv r, pv (a0, a1), pv (b0, b1)] w (Gives (pv (xadd r (a0, a1) (b0, b1))) w)) := ⟨fun w => xadd_c r _ _ w hA hB⟩
  have c2 : Kept (∀ w, Calls Try.prog 24 #[fv r, pv (xadd r (a0, a1) (b0, b1)), pv (e0, e1)] w (Gives (pv (xadd r (a0, a1) (xadd r (b0, b1) (e0, e1)))) w)) := ⟨fun w => by have := xadd_c r _ _ w (xadd_U (p := r) (a := (a0, a1)) (b := (b0, b1))) hC; rw [xadd_assoc] at this; exact this⟩
  have c3 : Kept (∀ w, Calls Try.prog 24 #[fv r, pv (b0, b1), pv (e0, e1)] w (Gives (pv (xadd r (b0, b1) (e0, e1))) w)) := ⟨fun w => xadd_c r _ _ w hB hC⟩
  have c4 : Kept (∀ w, Calls Try.prog 24 #[fv r, pv (a0, a1), pv (xadd r (b0, b1) (e0, e1))] w (Gives (pv (xadd r (a0, a1) (xadd r (b0, b1) (e0, e1)))) w)) := ⟨fun w => xadd_c r _ _ w hA xadd_U⟩
  have c5 : Kept (∀ w, Calls Try.prog 22 #[fv r, pv (a0, a1), pv (b0, b1)] w (Gives (pv (xmul r (a0, a1) (b0, b1))) w)) := ⟨fun w => xmul_c r _ _ w hA hB⟩
  have c6 : Kept (∀ w, Calls Try.prog 22 #[fv r, pv (xmul r (a0, a1) (b0, b1)), pv (e0, e1)] w (Gives (pv (xmul r (a0, a1) (xmul r (b0, b1) (e0, e1)))) w)) := ⟨fun w => by have := xmul_c r _ _ w (xmul_U (p := r) (a := (a0, a1)) (b := (b0, b1))) hC; rw [xmul_assoc] at this; exact this⟩
  have c7 : Kept (∀ w, Calls Try.prog 22 #[fv r, pv (b0, b1), pv (e0, e1)] w (Gives (pv (xmul r (b0, b1) (e0, e1))) w)) := ⟨fun w => xmul_c r _ _ w hB hC⟩
  have c8 : Kept (∀ w, Calls Try.prog 22 #[fv r, pv (a0, a1), pv (xmul r (b0, b1) (e0, e1))] w (Gives (pv (xmul r (a0, a1) (xmul r (b0, b1) (e0, e1)))) w)) := ⟨fun w => xmul_c r _ _ w hA xmul_U⟩
  have c9 : Kept (∀ w, Calls Try.prog 22 #[fv r, pv (b0, b1), pv (a0, a1)] w (Gives (pv (xmul r (a0, a1) (b0, b1))) w)) := ⟨fun w => by have := xmul_c r _ _ w hB hA; rw [xmul_comm] at this; exact this⟩
  have d1 : Kept (∀ w, Calls Try.prog 22 #[fv r, pv (a0, a1), pv (xadd r (b0, b1) (e0, e1))] w (Gives (pv (xmul r (a0, a1) (xadd r (b0, b1) (e0, e1)))) w)) := ⟨fun w => xmul_c r _ _ w hA xadd_U⟩
  have d2 : Kept (∀ w, Calls Try.prog 22 #[fv r, pv (a0, a1), pv (e0, e1)] w (Gives (pv (xmul r (a0, a1) (e0, e1))) w)) := ⟨fun w => xmul_c r _ _ w hA hC⟩
  have d3 : Kept (∀ w, Calls Try.prog 24 #[fv r, pv (xmul r (a0, a1) (b0, b1)), pv (xmul r (a0, a1) (e0, e1))] w (Gives (pv (xmul r (a0, a1) (xadd r (b0, b1) (e0, e1)))) w)) := ⟨fun w => by have := xadd_c r _ _ w (xmul_U (p := r) (a := (a0, a1)) (b := (b0, b1))) (xmul_U (p := r) (a := (a0, a1)) (b := (e0, e1))); rw [xmul_add] at this; exact this⟩
  have d4 : Kept (∀ w, Calls Try.prog 26 #[fv r, pv (xadd r (a0, a1) (b0, b1)), pv (b0, b1)] w (Gives (pv (xadd r (a0, a1) (0, 0))) w)) := ⟨fun w => by have := xsub_c r _ _ w (xadd_U (p := r) (a := (a0, a1)) (b := (b0, b1))) hB; rw [xsub_add] at this; exact this⟩
  have d5 : Kept (∀ w, Calls Try.prog 24 #[fv r, pv (a0, a1), pv (0, 0)] w (Gives (pv (xadd r (a0, a1) (0, 0))) w)) := ⟨fun w => xadd_c r _ _ w hA ⟨⟨by decide, by decide⟩, ⟨by decide, by decide⟩⟩⟩
  generalize xadd r (a0, a1) (0, 0) = y1 at *
  generalize xmul r (a0, a1) (xadd r (b0, b1) (e0, e1)) = y2 at *
  generalize xmul r (a0, a1) (xmul r (b0, b1) (e0, e1)) = y3 at *
  generalize xadd r (a0, a1) (xadd r (b0, b1) (e0, e1)) = y4 at *
  generalize xmul r (a0, a1) (e0, e1) = y5 at *
  generalize xmul r (b0, b1) (e0, e1) = y6 at *
  generalize xmul r (a0, a1) (b0, b1) = y7 at *
  generalize xadd r (b0, b1) (e0, e1) = y8 at *
  generalize xadd r (a0, a1) (b0, b1) = y9 at *
  obtain ⟨y10, y11⟩ := y1
  obtain ⟨y20, y21⟩ := y2
  obtain ⟨y30, y31⟩ := y3
  obtain ⟨y40, y41⟩ := y4
  obtain ⟨y50, y51⟩ := y5
  obtain ⟨y60, y61⟩ := y6
  obtain ⟨y70, y71⟩ := y7
  obtain ⟨y80, y81⟩ := y8
  obtain ⟨y90, y91⟩ := y9
  dsimp only [pv, fv] at *
  clear hA hB hC ha hb hc hp
  go_enter Try.func7, Try.ntmps7
  obtain ⟨I, hI⟩ : ∃ I : Act → World → (Nat → Prop) → Act → World → Prop, Kept (I = fun A W L a w' => ∃ x0 x1 x2 x3 x4 x5, a = (((((A.put (some 15) x0).put (some 16) x1).put (some 17) x2).put (some 18) x3).put (some 6) x4).put (some 7) x5 ∧ Below W.heap.size W w' ∧
      (L 0 → x0 = .pointer (some ⟨w.heap.size, 2, none⟩)) ∧ (L 1 → x1 = .agg #[.int .u64 a0, .int .u64 a1]) ∧ (L 2 → x2 = .pointer (some ⟨w.heap.size, 4, none⟩)) ∧ (L 3 → x3 = .agg #[.int .u64 b0, .int .u64 b1]) ∧
      BoxIn W w' (L 4) (L 6) x4 a0 a1 ∧ BoxIn W w' (L 5) (L 7) x5 b0 b1 ∧ Apart (L 4) (L 5) x4 x5 ∧ (L 6 → L 4) ∧ (L 7 → L 5)) := ⟨_, ⟨rfl⟩⟩
  go_wp2_with (first | (go_at_call 11; (first | with_reducible refine use1 (awake02_c _) ?_ | with_reducible refine use (awake02_c _) ?_); intro pw) | (go_at_call 12; (first | with_reducible refine use1 (c0.out _) ?_ | with_reducible refine use (c0.out _) ?_); intro pw) | (go_at_call 24; (first | with_reducible refine use1 (c1.out _) ?_ | with_reducible refine use (c1.out _) ?_); intro pw) | (go_at_call 24; (first | with_reducible refine use1 (c2.out _) ?_ | with_reducible refine use (c2.out _) ?_); intro pw) | (go_at_call 24; (first | with_reducible refine use1 (c3.out _) ?_ | with_reducible refine use (c3.out _) ?_); intro pw) | (go_at_call 24; (first | with_reducible refine use1 (c4.out _) ?_ | with_reducible refine use (c4.out _) ?_); intro pw) | (go_at_call 22; (first | with_reducible refine use1 (c5.out _) ?_ | with_reducible refine use (c5.out _) ?_); intro pw) | (go_at_call 22; (first | with_reducible refine use1 (c6.out _) ?_ | with_reducible refine use (c6.out _) ?_); intro pw) | (go_at_call 22; (first | with_reducible refine use1 (c7.out _) ?_ | with_reducible refine use (c7.out _) ?_); intro pw) | (go_at_call 22; (first | with_reducible refine use1 (c8.out _) ?_ | with_reducible refine use (c8.out _) ?_); intro pw) | (go_at_call 22; (first | with_reducible refine use1 (c9.out _) ?_ | with_reducible refine use (c9.out _) ?_); intro pw) | (go_at_call 22; (first | with_reducible refine use1 (d1.out _) ?_ | with_reducible refine use (d1.out _) ?_); intro pw) | (go_at_call 22; (first | with_reducible refine use1 (d2.out _) ?_ | with_reducible refine use (d2.out _) ?_); intro pw) | (go_at_call 24; (first | with_reducible refine use1 (d3.out _) ?_ | with_reducible refine use (d3.out _) ?_); intro pw) | (go_at_call 26; (first | with_reducible refine use1 (d4.out _) ?_ | with_reducible refine use (d4.out _) ?_); intro pw) | (go_at_call 24; (first | with_reducible refine use1 (d5.out _) ?_ | with_reducible refine use (d5.out _) ?_); intro pw))
  refine region_inv_at (by kernel_rfl) I ?start ?step ?done
  case start =>
    rw [hI.out]
    exact ⟨undef, undef, undef, undef, undef, undef, rfl, (Below.refl _ _).drew, fun h => h.elim, fun h => h.elim, fun h => h.elim, fun h => h.elim, fun h => h.elim, fun h => h.elim, fun h => h.elim, fun h => h.elim, fun h => h.elim⟩
  case step =>
    intro i o L b v ho hn hd hinv
    rw [hI.out] at hinv
    obtain ⟨x0, x1, x2, x3, x4, x5, rfl, hB, g0, g1, g2, g3, g4, g5, g6, g7, g8⟩ := hinv
    have kB : Kept (Below _ _ v) := ⟨hB⟩
    have t0 : v.cell? ⟨w.heap.size, 2, none⟩ = some (.int .u64 a0) := by
      have hq := hB.cell (p := ⟨w.heap.size, 2, none⟩) (by simp only [World.size_alloc, after_size]; omega)
      rw [hq]; simp [go_sem]
    have t1 : v.cell? ⟨w.heap.size, 3, none⟩ = some (.int .u64 a1) := by
      have hq := hB.cell (p := ⟨w.heap.size, 3, none⟩) (by simp only [World.size_alloc, after_size]; omega)
      rw [hq]; simp [go_sem]
    have t2 : v.cell? ⟨w.heap.size, 4, none⟩ = some (.int .u64 b0) := by
      have hq := hB.cell (p := ⟨w.heap.size, 4, none⟩) (by simp only [World.size_alloc, after_size]; omega)
      rw [hq]; simp [go_sem]
    have t3 : v.cell? ⟨w.heap.size, 5, none⟩ = some (.int .u64 b1) := by
      have hq := hB.cell (p := ⟨w.heap.size, 5, none⟩) (by simp only [World.size_alloc, after_size]; omega)
      rw [hq]; simp [go_sem]
    clear hB
    have kg : Kept ((L 0 → x0 = .pointer (some ⟨w.heap.size, 2, none⟩)) ∧ (L 1 → x1 = .agg #[.int .u64 a0, .int .u64 a1]) ∧ (L 2 → x2 = .pointer (some ⟨w.heap.size, 4, none⟩)) ∧ (L 3 → x3 = .agg #[.int .u64 b0, .int .u64 b1]) ∧
      BoxIn _ v (L 4) (L 6) x4 a0 a1 ∧ BoxIn _ v (L 5) (L 7) x5 b0 b1 ∧ Apart (L 4) (L 5) x4 x5 ∧ (L 6 → L 4) ∧ (L 7 → L 5)) := ⟨g0, g1, g2, g3, g4, g5, g6, g7, g8⟩
    clear g0 g1 g2 g3 g4 g5 g6 g7 g8
    rcases i with _ | _ | _ | _ | _ | _ | _ | _ | i
    · simp only [List.getElem?_cons_zero, Option.some.injEq] at ho
      subst ho
      clear hd hn
      go_wp2
      show I _ _ _ _ _
      rw [hI.out]
      exact ⟨.pointer (some ⟨w.heap.size, 2, none⟩), x1, x2, x3, x4, x5, rfl, kB.out, (fun _ => rfl), (fun h => kg.out.2.1 (h.resolve_left (by decide))), (fun h => kg.out.2.2.1 (h.resolve_left (by decide))), (fun h => kg.out.2.2.2.1 (h.resolve_left (by decide))), (kg.out.2.2.2.2.1.same (fun h => h.resolve_left (by decide)) (fun h => h.resolve_left (by decide))), (kg.out.2.2.2.2.2.1.same (fun h => h.resolve_left (by decide)) (fun h => h.resolve_left (by decide))), (fun h h2 => kg.out.2.2.2.2.2.2.1 (h.resolve_left (by decide)) (h2.resolve_left (by decide))), (fun h => .inr (kg.out.2.2.2.2.2.2.2.1 (h.resolve_left (by decide)))), (fun h => .inr (kg.out.2.2.2.2.2.2.2.2 (h.resolve_left (by decide))))⟩
    · simp only [List.getElem?_cons_succ, List.getElem?_cons_zero, Option.some.injEq] at ho
      subst ho
      obtain rfl := kg.out.1 (hd ⟨0, .data⟩ (by simp) rfl)
      clear hd hn
      go_wp2
      show I _ _ _ _ _
      rw [hI.out]
      exact ⟨.pointer (some ⟨w.heap.size, 2, none⟩), .agg #[.int .u64 a0, .int .u64 a1], x2, x3, x4, x5, rfl, kB.out, (fun _ => rfl), (fun _ => rfl), (fun h => kg.out.2.2.1 (h.resolve_left (by decide))), (fun h => kg.out.2.2.2.1 (h.resolve_left (by decide))), (kg.out.2.2.2.2.1.same (fun h => h.resolve_left (by decide)) (fun h => h.resolve_left (by decide))), (kg.out.2.2.2.2.2.1.same (fun h => h.resolve_left (by decide)) (fun h => h.resolve_left (by decide))), (fun h h2 => kg.out.2.2.2.2.2.2.1 (h.resolve_left (by decide)) (h2.resolve_left (by decide))), (fun h => .inr (kg.out.2.2.2.2.2.2.2.1 (h.resolve_left (by decide)))), (fun h => .inr (kg.out.2.2.2.2.2.2.2.2 (h.resolve_left (by decide))))⟩
    · simp only [List.getElem?_cons_succ, List.getElem?_cons_zero, Option.some.injEq] at ho
      subst ho
      clear hd hn
      go_wp2
      show I _ _ _ _ _
      rw [hI.out]
      exact ⟨x0, x1, .pointer (some ⟨w.heap.size, 4, none⟩), x3, x4, x5, rfl, kB.out, (fun h => kg.out.1 (h.resolve_left (by decide))), (fun h => kg.out.2.1 (h.resolve_left (by decide))), (fun _ => rfl), (fun h => kg.out.2.2.2.1 (h.resolve_left (by decide))), (kg.out.2.2.2.2.1.same (fun h => h.resolve_left (by decide)) (fun h => h.resolve_left (by decide))), (kg.out.2.2.2.2.2.1.same (fun h => h.resolve_left (by decide)) (fun h => h.resolve_left (by decide))), (fun h h2 => kg.out.2.2.2.2.2.2.1 (h.resolve_left (by decide)) (h2.resolve_left (by decide))), (fun h => .inr (kg.out.2.2.2.2.2.2.2.1 (h.resolve_left (by decide)))), (fun h => .inr (kg.out.2.2.2.2.2.2.2.2 (h.resolve_left (by decide))))⟩
    · simp only [List.getElem?_cons_succ, List.getElem?_cons_zero, Option.some.injEq] at ho
      subst ho
      obtain rfl := kg.out.2.2.1 (hd ⟨2, .data⟩ (by simp) rfl)
      clear hd hn
      go_wp2
      show I _ _ _ _ _
      rw [hI.out]
      exact ⟨x0, x1, .pointer (some ⟨w.heap.size, 4, none⟩), .agg #[.int .u64 b0, .int .u64 b1], x4, x5, rfl, kB.out, (fun h => kg.out.1 (h.resolve_left (by decide))), (fun h => kg.out.2.1 (h.resolve_left (by decide))), (fun _ => rfl), (fun _ => rfl), (kg.out.2.2.2.2.1.same (fun h => h.resolve_left (by decide)) (fun h => h.resolve_left (by decide))), (kg.out.2.2.2.2.2.1.same (fun h => h.resolve_left (by decide)) (fun h => h.resolve_left (by decide))), (fun h h2 => kg.out.2.2.2.2.2.2.1 (h.resolve_left (by decide)) (h2.resolve_left (by decide))), (fun h => .inr (kg.out.2.2.2.2.2.2.2.1 (h.resolve_left (by decide)))), (fun h => .inr (kg.out.2.2.2.2.2.2.2.2 (h.resolve_left (by decide))))⟩
    · simp only [List.getElem?_cons_succ, List.getElem?_cons_zero, Option.some.injEq] at ho
      subst ho
      have hn6 : ¬ (6 = 4 ∨ L 6) := fun h => hn (kg.out.2.2.2.2.2.2.2.1 (h.resolve_left (by decide)))
      clear hd hn
      go_wp2
      show I _ _ _ _ _
      rw [hI.out]
      exact ⟨x0, x1, x2, x3, .pointer (some ⟨v.heap.size, 0, none⟩), x5, rfl, (Below.alloc kB.out kB.out.size _), (fun h => kg.out.1 (h.resolve_left (by decide))), (fun h => kg.out.2.1 (h.resolve_left (by decide))), (fun h => kg.out.2.2.1 (h.resolve_left (by decide))), (fun h => kg.out.2.2.2.1 (h.resolve_left (by decide))), (BoxIn.made kB.out.size _ hn6), (kg.out.2.2.2.2.2.1.boxed (fun h => h.resolve_left (by decide)) (fun h => h.resolve_left (by decide)) _), (Apart.new kg.out.2.2.2.2.2.1 _ (fun h => h.resolve_left (by decide))), (fun _ => .inl rfl), (fun h => .inr (kg.out.2.2.2.2.2.2.2.2 (h.resolve_left (by decide))))⟩
    · simp only [List.getElem?_cons_succ, List.getElem?_cons_zero, Option.some.injEq] at ho
      subst ho
      have hn7 : ¬ (7 = 5 ∨ L 7) := fun h => hn (kg.out.2.2.2.2.2.2.2.2 (h.resolve_left (by decide)))
      clear hd hn
      go_wp2
      show I _ _ _ _ _
      rw [hI.out]
      exact ⟨x0, x1, x2, x3, x4, .pointer (some ⟨v.heap.size, 0, none⟩), rfl, (Below.alloc kB.out kB.out.size _), (fun h => kg.out.1 (h.resolve_left (by decide))), (fun h => kg.out.2.1 (h.resolve_left (by decide))), (fun h => kg.out.2.2.1 (h.resolve_left (by decide))), (fun h => kg.out.2.2.2.1 (h.resolve_left (by decide))), (kg.out.2.2.2.2.1.boxed (fun h => h.resolve_left (by decide)) (fun h => h.resolve_left (by decide)) _), (BoxIn.made kB.out.size _ hn7), (fun h h2 e => Apart.new kg.out.2.2.2.2.1 _ (fun h => h.resolve_left (by decide)) h2 h e.symm), (fun h => .inr (kg.out.2.2.2.2.2.2.2.1 (h.resolve_left (by decide)))), (fun _ => .inl rfl)⟩
    · simp only [List.getElem?_cons_succ, List.getElem?_cons_zero, Option.some.injEq] at ho
      subst ho
      have hp : L 4 := hd ⟨4, .data⟩ (by simp) rfl
      obtain ⟨c, e, f, e1, hc1, hc2, _⟩ := kg.out.2.2.2.2.1 hp
      obtain rfl := kg.out.2.1 (hd ⟨1, .data⟩ (by simp) rfl)
      subst e1
      have z0 := hc2.c0
      have z1 := hc2.c1
      have z2 := hc2.f0
      have z3 := hc2.f1
      have z4 := hc2.lt
      have kc : Kept (Cell2 v c e f) := ⟨hc2⟩
      clear hc2
      clear hd hn
      go_wp2
      show I _ _ _ _ _
      rw [hI.out]
      exact ⟨x0, .agg #[.int .u64 a0, .int .u64 a1], x2, x3, .pointer (some ⟨c, 0, none⟩), x5, rfl, (Below.put (Below.put kB.out (a := ⟨c, 0, none⟩) hc1 _) (a := ⟨c, 1, none⟩) hc1 _), (fun h => kg.out.1 (h.resolve_left (by decide))), (fun _ => rfl), (fun h => kg.out.2.2.1 (h.resolve_left (by decide))), (fun h => kg.out.2.2.2.1 (h.resolve_left (by decide))), (fun _ => ⟨c, a0, a1, rfl, hc1, kc.out.put a0 a1, fun _ => ⟨rfl, rfl⟩⟩), (fun h => by
        obtain ⟨c', e', f', q1, q2, q3, q4⟩ := kg.out.2.2.2.2.2.1 (h.resolve_left (by decide))
        have hne : c ≠ c' := fun e => by
          subst e
          exact kg.out.2.2.2.2.2.2.1 hp (h.resolve_left (by decide)) q1.symm
        exact ⟨c', e', f', q1, q2, (q3.other (a := ⟨c, 0, none⟩) hne _).other (a := ⟨c, 1, none⟩) hne _, fun y => q4 (y.resolve_left (by decide))⟩), (fun h h2 => kg.out.2.2.2.2.2.2.1 (h.resolve_left (by decide)) (h2.resolve_left (by decide))), (fun _ => .inr hp), (fun h => .inr (kg.out.2.2.2.2.2.2.2.2 (h.resolve_left (by decide))))⟩
    · simp only [List.getElem?_cons_succ, List.getElem?_cons_zero, Option.some.injEq] at ho
      subst ho
      have hp : L 5 := hd ⟨5, .data⟩ (by simp) rfl
      obtain ⟨c, e, f, e1, hc1, hc2, _⟩ := kg.out.2.2.2.2.2.1 hp
      obtain rfl := kg.out.2.2.2.1 (hd ⟨3, .data⟩ (by simp) rfl)
      subst e1
      have z0 := hc2.c0
      have z1 := hc2.c1
      have z2 := hc2.f0
      have z3 := hc2.f1
      have z4 := hc2.lt
      have kc : Kept (Cell2 v c e f) := ⟨hc2⟩
      clear hc2
      clear hd hn
      go_wp2
      show I _ _ _ _ _
      rw [hI.out]
      exact ⟨x0, x1, x2, .agg #[.int .u64 b0, .int .u64 b1], x4, .pointer (some ⟨c, 0, none⟩), rfl, (Below.put (Below.put kB.out (a := ⟨c, 0, none⟩) hc1 _) (a := ⟨c, 1, none⟩) hc1 _), (fun h => kg.out.1 (h.resolve_left (by decide))), (fun h => kg.out.2.1 (h.resolve_left (by decide))), (fun h => kg.out.2.2.1 (h.resolve_left (by decide))), (fun _ => rfl), (fun h => by
        obtain ⟨c', e', f', q1, q2, q3, q4⟩ := kg.out.2.2.2.2.1 (h.resolve_left (by decide))
        have hne : c ≠ c' := fun e => by
          subst e
          exact kg.out.2.2.2.2.2.2.1 (h.resolve_left (by decide)) hp q1
        exact ⟨c', e', f', q1, q2, (q3.other (a := ⟨c, 0, none⟩) hne _).other (a := ⟨c, 1, none⟩) hne _, fun y => q4 (y.resolve_left (by decide))⟩), (fun _ => ⟨c, b0, b1, rfl, hc1, kc.out.put b0 b1, fun _ => ⟨rfl, rfl⟩⟩), (fun h h2 => kg.out.2.2.2.2.2.2.1 (h.resolve_left (by decide)) (h2.resolve_left (by decide))), (fun h => .inr (kg.out.2.2.2.2.2.2.2.1 (h.resolve_left (by decide)))), (fun _ => .inr hp)⟩
    · simp at ho
  case done =>
    intro L b v hL hinv
    rw [hI.out] at hinv
    obtain ⟨x0, x1, x2, x3, x4, x5, rfl, hB, g0, g1, g2, g3, g4, g5, g6, _, _⟩ := hinv
    obtain rfl := g0 (hL 0 (by simp))
    obtain rfl := g1 (hL 1 (by simp))
    obtain rfl := g2 (hL 2 (by simp))
    obtain rfl := g3 (hL 3 (by simp))
    obtain ⟨p1, _, _, rfl, _, k1, f1⟩ := g4 (hL 4 (by simp))
    obtain ⟨p2, _, _, rfl, _, k2, f2⟩ := g5 (hL 5 (by simp))
    rw [(f1 (hL 6 (by simp))).1, (f1 (hL 6 (by simp))).2] at k1
    rw [(f2 (hL 7 (by simp))).1, (f2 (hL 7 (by simp))).2] at k2
    clear g0 g1 g2 g3 g4 g5 g6 f1 f2 hL hI
    have t0 := k1.c0
    have t1 := k1.c1
    have t2 := k1.lt
    have t3 := k2.c0
    have t4 := k2.c1
    have t5 := k2.lt
    have r0 : v.cell? ⟨w.heap.size + 1, 0, none⟩ = some (.int .u64 e0) := by
      have hq := hB.cell (p := ⟨w.heap.size + 1, 0, none⟩) (by simp only [World.size_alloc, after_size]; omega)
      rw [hq]; simp [go_sem]
    have r1 : v.cell? ⟨w.heap.size + 1, 1, none⟩ = some (.int .u64 e1) := by
      have hq := hB.cell (p := ⟨w.heap.size + 1, 1, none⟩) (by simp only [World.size_alloc, after_size]; omega)
      rw [hq]; simp [go_sem]
    have r2 : v.cell? ⟨w.heap.size + 1 + 1 + pw.os.size, 0, none⟩ = some (.int .u64 r) := by
      have hq := hB.cell (p := ⟨w.heap.size + 1 + 1 + pw.os.size, 0, none⟩) (by simp only [World.size_alloc, after_size]; omega)
      rw [hq]; simp [go_sem]
    have hl := hB.size
    simp only [World.size_alloc, after_size] at hl
    have l1 : w.heap.size + 1 < v.heap.size := by omega
    have l2 : w.heap.size + 1 + 1 + pw.os.size < v.heap.size := by omega
    have hB2 : Kept (Below w.heap.size w v) := ⟨Below.next (by repeat (first | exact Below.refl _ _ | refine Below.later ?_ _ | refine Below.box ?_ _ | refine Below.drew ?_ | refine Below.put ?_ (by dsimp only; omega) _)) hB⟩
    clear k1 k2 hB hl
    rw [← after_self v]
    generalize (⟨v.drawn, #[]⟩ : Regrown) = q0
    go_wp2_with (first | (go_at_call 11; (first | with_reducible refine use1 (awake02_c _) ?_ | with_reducible refine use (awake02_c _) ?_); intro pw) | (go_at_call 12; (first | with_reducible refine use1 (c0.out _) ?_ | with_reducible refine use (c0.out _) ?_); intro pw) | (go_at_call 24; (first | with_reducible refine use1 (c1.out _) ?_ | with_reducible refine use (c1.out _) ?_); intro pw) | (go_at_call 24; (first | with_reducible refine use1 (c2.out _) ?_ | with_reducible refine use (c2.out _) ?_); intro pw) | (go_at_call 24; (first | with_reducible refine use1 (c3.out _) ?_ | with_reducible refine use (c3.out _) ?_); intro pw) | (go_at_call 24; (first | with_reducible refine use1 (c4.out _) ?_ | with_reducible refine use (c4.out _) ?_); intro pw) | (go_at_call 22; (first | with_reducible refine use1 (c5.out _) ?_ | with_reducible refine use (c5.out _) ?_); intro pw) | (go_at_call 22; (first | with_reducible refine use1 (c6.out _) ?_ | with_reducible refine use (c6.out _) ?_); intro pw) | (go_at_call 22; (first | with_reducible refine use1 (c7.out _) ?_ | with_reducible refine use (c7.out _) ?_); intro pw) | (go_at_call 22; (first | with_reducible refine use1 (c8.out _) ?_ | with_reducible refine use (c8.out _) ?_); intro pw) | (go_at_call 22; (first | with_reducible refine use1 (c9.out _) ?_ | with_reducible refine use (c9.out _) ?_); intro pw) | (go_at_call 22; (first | with_reducible refine use1 (d1.out _) ?_ | with_reducible refine use (d1.out _) ?_); intro pw) | (go_at_call 22; (first | with_reducible refine use1 (d2.out _) ?_ | with_reducible refine use (d2.out _) ?_); intro pw) | (go_at_call 24; (first | with_reducible refine use1 (d3.out _) ?_ | with_reducible refine use (d3.out _) ?_); intro pw) | (go_at_call 26; (first | with_reducible refine use1 (d4.out _) ?_ | with_reducible refine use (d4.out _) ?_); intro pw) | (go_at_call 24; (first | with_reducible refine use1 (d5.out _) ?_ | with_reducible refine use (d5.out _) ?_); intro pw))
    repeat (
      (try dsimp only [List.append])
      (first | refine region_big1 (by kernel_rfl) ?_ | refine region_big (by kernel_rfl) ?_)
      repeat (go_big_quiet_step (first | (go_at_call 11; with_reducible exact quiet (awake02_c _)) | (go_at_call 12; with_reducible exact quiet (c0.out _)) | (go_at_call 24; with_reducible exact quiet (c1.out _)) | (go_at_call 24; with_reducible exact quiet (c2.out _)) | (go_at_call 24; with_reducible exact quiet (c3.out _)) | (go_at_call 24; with_reducible exact quiet (c4.out _)) | (go_at_call 22; with_reducible exact quiet (c5.out _)) | (go_at_call 22; with_reducible exact quiet (c6.out _)) | (go_at_call 22; with_reducible exact quiet (c7.out _)) | (go_at_call 22; with_reducible exact quiet (c8.out _)) | (go_at_call 22; with_reducible exact quiet (c9.out _)) | (go_at_call 22; with_reducible exact quiet (d1.out _)) | (go_at_call 22; with_reducible exact quiet (d2.out _)) | (go_at_call 24; with_reducible exact quiet (d3.out _)) | (go_at_call 26; with_reducible exact quiet (d4.out _)) | (go_at_call 24; with_reducible exact quiet (d5.out _))))
      refine wpQuiet_nil ?_
      intro _
      go_wp2_with (first | (go_at_call 11; (first | with_reducible refine use1 (awake02_c _) ?_ | with_reducible refine use (awake02_c _) ?_); intro pw) | (go_at_call 12; (first | with_reducible refine use1 (c0.out _) ?_ | with_reducible refine use (c0.out _) ?_); intro pw) | (go_at_call 24; (first | with_reducible refine use1 (c1.out _) ?_ | with_reducible refine use (c1.out _) ?_); intro pw) | (go_at_call 24; (first | with_reducible refine use1 (c2.out _) ?_ | with_reducible refine use (c2.out _) ?_); intro pw) | (go_at_call 24; (first | with_reducible refine use1 (c3.out _) ?_ | with_reducible refine use (c3.out _) ?_); intro pw) | (go_at_call 24; (first | with_reducible refine use1 (c4.out _) ?_ | with_reducible refine use (c4.out _) ?_); intro pw) | (go_at_call 22; (first | with_reducible refine use1 (c5.out _) ?_ | with_reducible refine use (c5.out _) ?_); intro pw) | (go_at_call 22; (first | with_reducible refine use1 (c6.out _) ?_ | with_reducible refine use (c6.out _) ?_); intro pw) | (go_at_call 22; (first | with_reducible refine use1 (c7.out _) ?_ | with_reducible refine use (c7.out _) ?_); intro pw) | (go_at_call 22; (first | with_reducible refine use1 (c8.out _) ?_ | with_reducible refine use (c8.out _) ?_); intro pw) | (go_at_call 22; (first | with_reducible refine use1 (c9.out _) ?_ | with_reducible refine use (c9.out _) ?_); intro pw) | (go_at_call 22; (first | with_reducible refine use1 (d1.out _) ?_ | with_reducible refine use (d1.out _) ?_); intro pw) | (go_at_call 22; (first | with_reducible refine use1 (d2.out _) ?_ | with_reducible refine use (d2.out _) ?_); intro pw) | (go_at_call 24; (first | with_reducible refine use1 (d3.out _) ?_ | with_reducible refine use (d3.out _) ?_); intro pw) | (go_at_call 26; (first | with_reducible refine use1 (d4.out _) ?_ | with_reducible refine use (d4.out _) ?_); intro pw) | (go_at_call 24; (first | with_reducible refine use1 (d5.out _) ?_ | with_reducible refine use (d5.out _) ?_); intro pw)))
    go_ret
    exact ⟨rfl, Below.next hB2.out (by repeat (first | exact Below.refl _ _ | refine Below.later ?_ _ | refine Below.box ?_ _ | refine Below.drew ?_ | refine Below.put ?_ (by dsimp only; omega) _))⟩

set_option maxRecDepth 100000 in
theorem lifted (os : Os) (started : os.Started) (H : Type) (enc : TypeId × Value → H) :
    ReturnsInHanded {} Try.checked os 7 .any (Rows.extensionFieldSpec.pre6 enc Try.prog Try.f7 Rows.extensionFieldRow.domain false) (Rows.extensionFieldSpec.post enc Try.prog Try.f7 false true false false) := by
  refine returnsInHanded_of_change (C := Try.checked) own started (by kernel_rfl) Try.func7
    (ChangeSpec.witness6 (enc := enc) (C := Try.checked) false ⟨#[], #[.agg #[.int .u64 0, .int .u8 0, .int .u64 0, .int .u64 0, .int .u64 0, .int .u64 0], .agg #[.int .u64 0, .int .u64 0]], []⟩ 8 (by kernel_rfl) (by kernel_rfl) (by kernel_rfl) (by kernel_rfl)) ?_
  intro W base args ds gs before hval0 hW hcnd _
  have hval : ∀ (j : Nat) t v, Try.f7.params[j]? = some t → args[j]? = some v → Value.okWide Try.prog W .any base t v := hval0
  have hW0 : DataW.Whole enc Try.prog Try.f7.params.toList Rows.extensionFieldSpec.vars false W args.toList ds gs before := hW
  obtain ⟨p, q, hA0, hV, rfl, _, _⟩ := hW
  have hA : DataW.TrodAll enc Try.prog W 0 (fun _ => true) true Try.f7.params.toList args.toList ds p := hA0
  rw [Try.params7] at hA hval
  obtain ⟨v0, vs0, d0, ds0, p0, q0, hargs, rfl, rfl, h0, r0⟩ := trodAll_cons hA
  obtain ⟨v1, vs1, d1, ds1, p1, q1, rfl, rfl, rfl, h1, r1⟩ := trodAll_cons r0
  obtain ⟨rfl, rfl, rfl⟩ := trodAll_nil r1
  obtain rfl : args = #[v0, v1] := by cases args; simp_all
  obtain ⟨rfl, rfl⟩ := trodVars_none hV
  obtain ⟨a0x, a0y, a0z, a0u, a0v, a0t, rfl, u0⟩ := open_two (hval 0 25 v0 rfl rfl)
  obtain ⟨a1x, a1y, rfl, u1⟩ := open_pair (hval 1 23 v1 rfl rfl)
  clear hA0 hval0
  refine (walk a0x a0y a0z a0u a0v a0t u0 a1x a1y u1 W).mono fun e W' ⟨he, hb⟩ => ⟨.bool true, he, ?_⟩
  exact law_post (fun t ht => by have ht' : t ∈ [25, 23] := ht; simp only [List.mem_cons, List.not_mem_nil, or_false] at ht'; rcases ht' with rfl | rfl <;> exact ⟨by kernel_rfl, of_decide_eq_true (by kernel_rfl)⟩) rfl rfl hW0 rfl hb

theorem over : Rows.extensionFieldRow.holds Try.pinned (OpenSpec.ofChange Rows.extensionFieldSpec) :=
  OpenClaim.holds_of_wide 7 Try.f7 rfl rfl rfl rfl rfl rfl rfl ⟨rfl, rfl, rfl, rfl, rfl⟩ rfl rfl rfl rfl rfl (by kernel_rfl) Try.func7 (by kernel_rfl)
    (of_decide_eq_true (by kernel_rfl)) (by unfold Func.isWrapper; first | (rw [if_pos (by decide +kernel)]; kernel_rfl) | (rw [if_neg (by decide +kernel)]; exact ⟨rfl, rfl⟩))
    (fun os started H enc _ => lifted os started H enc)

/-- The statement. -/
theorem proved : Rows.ExtensionFieldSaid := over
#print axioms proved
end Go.Proofs.Yteljpelagpghcaa.extensionField
