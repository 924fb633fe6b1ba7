/- ExtensionPow: for any field, any pair and any two exponents the call returns true: both implementations give the same power; the power with a sum is the product of the powers. No condition. -/
import Derived.Test.YteljpelagpghcaaLaw
import Derived.Test.YteljpelagpghcaaBig
import Derived.Test.YteljpelagpghcaaInv
import Derived.Test.YteljpelagpghcaaL02a
import Derived.Test.YteljpelagpghcaaExtl
namespace Go.Proofs.Yteljpelagpghcaa.extensionPow
open Go.ChangeShapes Go.WideShapes Go.ChangeAt Go.RowKit

set_option maxRecDepth 100000 in
set_option maxHeartbeats 4000000 in
theorem walk (p k a0 a1 b0 b1 : Int) (h : (U p ∧ 0 ≤ k ∧ k ≤ 255) ∧ (U a0 ∧ U a1) ∧ (U b0 ∧ U b1)) (m : Int) (hm : U m) (n : Int) (hn : U n) (w : World) : Calls Try.prog 8 #[.agg #[.int .u64 p, .int .u8 k, .int .u64 a0, .int .u64 a1, .int .u64 b0, .int .u64 b1], .int .u64 m, .int .u64 n] w (Gives (.bool true) w) := by
  obtain ⟨⟨hp, hk0, hk1⟩, ha, hb⟩ := h
  have hA : U2 (a0, a1) := ha
  have hB : U2 (b0, b1) := hb
  have c0 : Kept (∀ w, Calls Try.prog 12 #[.agg #[.int .u64 p, .int .u8 k, .int .u64 a0, .int .u64 a1, .int .u64 b0, .int .u64 b1]] w (Gives (.int .u64 (twoP p k)) w)) := ⟨fun w => two_c p k a0 a1 b0 b1 w hk0 hk1⟩
  generalize twoP p k = r at *
  have gm := big_of hm
  have gn := big_of hn
  have tm : ((m.toNat : Nat) : Int) = m := Int.toNat_of_nonneg hm.1
  have tn : ((n.toNat : Nat) : Int) = n := Int.toNat_of_nonneg hn.1
  have c1 : Kept (∀ w, Calls Try.prog 29 #[fv r, pv (a0, a1), .int .u64 m] w (Gives (pv (xpow r (a0, a1) m.toNat)) w)) := ⟨fun w => by have := xpow_c r (a0, a1) m.toNat w hA gm; rw [tm] at this; exact this⟩
  have d1 : Kept (∀ w, Calls Try.prog 30 #[.int .u64 r, pv (a0, a1), .int .u64 m] w (Gives (pv (xpow r (a0, a1) m.toNat)) w)) := ⟨fun w => by have := rxpow_c r (a0, a1) m.toNat w hA gm; rw [tm] at this; exact this⟩
  have c2 : Kept (∀ w, Calls Try.prog 29 #[fv r, pv (a0, a1), .int .u64 n] w (Gives (pv (xpow r (a0, a1) n.toNat)) w)) := ⟨fun w => by have := xpow_c r (a0, a1) n.toNat w hA gn; rw [tn] at this; exact this⟩
  have d2 : Kept (∀ w, Calls Try.prog 30 #[.int .u64 r, pv (a0, a1), .int .u64 n] w (Gives (pv (xpow r (a0, a1) n.toNat)) w)) := ⟨fun w => by have := rxpow_c r (a0, a1) n.toNat w hA gn; rw [tn] at this; exact this⟩
  have c3 : Kept (∀ w, Calls Try.prog 22 #[fv r, pv (xpow r (a0, a1) m.toNat), pv (xpow r (a0, a1) n.toNat)] w (Gives (pv (xmul r (xpow r (a0, a1) m.toNat) (xpow r (a0, a1) n.toNat))) w)) := ⟨fun w => xmul_c r _ _ w xpow_U xpow_U⟩
  have c4 : Kept (m + n < 18446744073709551616 → ∀ w, Calls Try.prog 29 #[fv r, pv (a0, a1), .int .u64 (m + n)] w (Gives (pv (xmul r (xpow r (a0, a1) m.toNat) (xpow r (a0, a1) n.toNat))) w)) := ⟨fun hw w => by
    have := xpow_c r (a0, a1) (m.toNat + n.toNat) w hA ⟨by have := hm.1; have := hn.1; omega⟩
    rw [xpow_add, show ((m.toNat + n.toNat : Nat) : Int) = m + n from by omega] at this; exact this⟩
  generalize xmul r (xpow r (a0, a1) m.toNat) (xpow r (a0, a1) n.toNat) = y3 at *
  generalize xpow r (a0, a1) m.toNat = y1 at *
  generalize xpow r (a0, a1) n.toNat = y2 at *
  obtain ⟨y10, y11⟩ := y1
  obtain ⟨y20, y21⟩ := y2
  obtain ⟨y30, y31⟩ := y3
  dsimp only [pv, fv] at *
  obtain ⟨m0, m1⟩ := hm
  obtain ⟨n0, n1⟩ := hn
  clear hA hB ha hb hp gm gn tm tn
  go_enter Try.func8, Try.ntmps8
  obtain ⟨I, hI⟩ : ∃ I : Act → World → (Nat → Prop) → Act → World → Prop, Kept (I = fun A W L a w' => ∃ x0 x1 x2 x3 x4 x5 x6 x7 x8 x9 y1 y2, a = (((((((((((A.put (some 17) x0).put (some 18) x1).put (some 19) x2).put (some 20) x3).put (some 21) x4).put (some 22) x5).put (some 23) x6).put (some 24) x7).put (some 25) x8).put (some 26) x9).put (some 9) y1).put (some 10) y2 ∧ Below W.heap.size W w' ∧
      (L 0 → x0 = .agg #[.int .u64 r]) ∧ (L 1 → x1 = .pointer (some ⟨w.heap.size, 2, none⟩)) ∧ (L 2 → x2 = .agg #[.int .u64 a0, .int .u64 a1]) ∧ (L 3 → x3 = .int .u64 m) ∧ (L 4 → x4 = .agg #[.int .u64 y10, .int .u64 y11]) ∧ (L 5 → x5 = .agg #[.int .u64 r]) ∧ (L 6 → x6 = .pointer (some ⟨w.heap.size, 2, none⟩)) ∧ (L 7 → x7 = .agg #[.int .u64 a0, .int .u64 a1]) ∧ (L 8 → x8 = .int .u64 n) ∧ (L 9 → x9 = .agg #[.int .u64 y20, .int .u64 y21]) ∧ BoxIn W w' (L 10) (L 12) y1 y10 y11 ∧ BoxIn W w' (L 11) (L 13) y2 y20 y21 ∧ Apart (L 10) (L 11) y1 y2 ∧ (L 12 → L 10) ∧ (L 13 → L 11)) := ⟨_, ⟨rfl⟩⟩
  go_wp2_with (first | (go_at_call 11; (first | with_reducible refine use1 (awake02_c _) ?_ | with_reducible refine use (awake02_c _) ?_); intro pw) | (go_at_call 12; (first | with_reducible refine use1 (c0.out _) ?_ | with_reducible refine use (c0.out _) ?_); intro pw))
  refine region_inv_at (by kernel_rfl) I ?start ?step ?done
  case start =>
    rw [hI.out]
    exact ⟨undef, undef, undef, undef, undef, undef, undef, undef, undef, undef, undef, undef, (by first | (simp [Act.put]; done) | rfl), (Below.refl _ _).drew, fun h => h.elim, fun h => h.elim, fun h => h.elim, fun h => h.elim, fun h => h.elim, fun h => h.elim, fun h => h.elim, fun h => h.elim, fun h => h.elim, fun h => h.elim, fun h => h.elim, fun h => h.elim, fun h => h.elim, fun h => h.elim, fun h => h.elim⟩
  case step =>
    intro i o L b v ho hn hd hinv
    rw [hI.out] at hinv
    obtain ⟨x0, x1, x2, x3, x4, x5, x6, x7, x8, x9, y1, y2, rfl, hB, g0, g1, g2, g3, g4, g5, g6, g7, g8, g9, g10, g11, g12, g13, g14⟩ := hinv
    have kB : Kept (Below _ _ v) := ⟨hB⟩
    have t0 : v.cell? ⟨w.heap.size, 2, none⟩ = some (.int .u64 a0) := by
      have hq := hB.cell (p := ⟨w.heap.size, 2, none⟩) (by simp only [World.size_alloc, after_size]; omega)
      rw [hq]; simp [go_sem]
    have t1 : v.cell? ⟨w.heap.size, 3, none⟩ = some (.int .u64 a1) := by
      have hq := hB.cell (p := ⟨w.heap.size, 3, none⟩) (by simp only [World.size_alloc, after_size]; omega)
      rw [hq]; simp [go_sem]
    have t2 : v.cell? ⟨w.heap.size + 1 + pw.os.size, 0, none⟩ = some (.int .u64 r) := by
      have hq := hB.cell (p := ⟨w.heap.size + 1 + pw.os.size, 0, none⟩) (by simp only [World.size_alloc, after_size]; omega)
      rw [hq]; simp [go_sem]
    have hl := hB.size
    simp only [World.size_alloc, after_size] at hl
    have l1 : w.heap.size < v.heap.size := by omega
    have l2 : w.heap.size + 1 + pw.os.size < v.heap.size := by omega
    clear hl
    clear hB
    have kg : Kept ((L 0 → x0 = .agg #[.int .u64 r]) ∧ (L 1 → x1 = .pointer (some ⟨w.heap.size, 2, none⟩)) ∧ (L 2 → x2 = .agg #[.int .u64 a0, .int .u64 a1]) ∧ (L 3 → x3 = .int .u64 m) ∧ (L 4 → x4 = .agg #[.int .u64 y10, .int .u64 y11]) ∧ (L 5 → x5 = .agg #[.int .u64 r]) ∧ (L 6 → x6 = .pointer (some ⟨w.heap.size, 2, none⟩)) ∧ (L 7 → x7 = .agg #[.int .u64 a0, .int .u64 a1]) ∧ (L 8 → x8 = .int .u64 n) ∧ (L 9 → x9 = .agg #[.int .u64 y20, .int .u64 y21]) ∧ BoxIn _ v (L 10) (L 12) y1 y10 y11 ∧ BoxIn _ v (L 11) (L 13) y2 y20 y21 ∧ Apart (L 10) (L 11) y1 y2 ∧ (L 12 → L 10) ∧ (L 13 → L 11)) := ⟨g0, g1, g2, g3, g4, g5, g6, g7, g8, g9, g10, g11, g12, g13, g14⟩
    clear g0 g1 g2 g3 g4 g5 g6 g7 g8 g9 g10 g11 g12 g13 g14
    rcases i with _ | _ | _ | _ | _ | _ | _ | _ | _ | _ | _ | _ | _ | _ | i
    · simp only [List.getElem?_cons_zero, Option.some.injEq] at ho
      subst ho
      clear hd hn
      go_wp2
      show I _ _ _ _ _
      rw [hI.out]
      exact ⟨.agg #[.int .u64 r], x1, x2, x3, x4, x5, x6, x7, x8, x9, y1, y2, (by first | (simp [Act.put]; done) | rfl), kB.out, (fun _ => rfl), (fun h => kg.out.2.1 (h.resolve_left (by decide))), (fun h => kg.out.2.2.1 (h.resolve_left (by decide))), (fun h => kg.out.2.2.2.1 (h.resolve_left (by decide))), (fun h => kg.out.2.2.2.2.1 (h.resolve_left (by decide))), (fun h => kg.out.2.2.2.2.2.1 (h.resolve_left (by decide))), (fun h => kg.out.2.2.2.2.2.2.1 (h.resolve_left (by decide))), (fun h => kg.out.2.2.2.2.2.2.2.1 (h.resolve_left (by decide))), (fun h => kg.out.2.2.2.2.2.2.2.2.1 (h.resolve_left (by decide))), (fun h => kg.out.2.2.2.2.2.2.2.2.2.1 (h.resolve_left (by decide))), (kg.out.2.2.2.2.2.2.2.2.2.2.1.same (fun h => h.resolve_left (by decide)) (fun h => h.resolve_left (by decide))), (kg.out.2.2.2.2.2.2.2.2.2.2.2.1.same (fun h => h.resolve_left (by decide)) (fun h => h.resolve_left (by decide))), (fun h h2 => kg.out.2.2.2.2.2.2.2.2.2.2.2.2.1 (h.resolve_left (by decide)) (h2.resolve_left (by decide))), (fun h => .inr (kg.out.2.2.2.2.2.2.2.2.2.2.2.2.2.1 (h.resolve_left (by decide)))), (fun h => .inr (kg.out.2.2.2.2.2.2.2.2.2.2.2.2.2.2 (h.resolve_left (by decide))))⟩
    · simp only [List.getElem?_cons_succ, List.getElem?_cons_zero, Option.some.injEq] at ho
      subst ho
      clear hd hn
      go_wp2
      show I _ _ _ _ _
      rw [hI.out]
      exact ⟨x0, .pointer (some ⟨w.heap.size, 2, none⟩), x2, x3, x4, x5, x6, x7, x8, x9, y1, y2, (by first | (simp [Act.put]; done) | rfl), kB.out, (fun h => kg.out.1 (h.resolve_left (by decide))), (fun _ => rfl), (fun h => kg.out.2.2.1 (h.resolve_left (by decide))), (fun h => kg.out.2.2.2.1 (h.resolve_left (by decide))), (fun h => kg.out.2.2.2.2.1 (h.resolve_left (by decide))), (fun h => kg.out.2.2.2.2.2.1 (h.resolve_left (by decide))), (fun h => kg.out.2.2.2.2.2.2.1 (h.resolve_left (by decide))), (fun h => kg.out.2.2.2.2.2.2.2.1 (h.resolve_left (by decide))), (fun h => kg.out.2.2.2.2.2.2.2.2.1 (h.resolve_left (by decide))), (fun h => kg.out.2.2.2.2.2.2.2.2.2.1 (h.resolve_left (by decide))), (kg.out.2.2.2.2.2.2.2.2.2.2.1.same (fun h => h.resolve_left (by decide)) (fun h => h.resolve_left (by decide))), (kg.out.2.2.2.2.2.2.2.2.2.2.2.1.same (fun h => h.resolve_left (by decide)) (fun h => h.resolve_left (by decide))), (fun h h2 => kg.out.2.2.2.2.2.2.2.2.2.2.2.2.1 (h.resolve_left (by decide)) (h2.resolve_left (by decide))), (fun h => .inr (kg.out.2.2.2.2.2.2.2.2.2.2.2.2.2.1 (h.resolve_left (by decide)))), (fun h => .inr (kg.out.2.2.2.2.2.2.2.2.2.2.2.2.2.2 (h.resolve_left (by decide))))⟩
    · simp only [List.getElem?_cons_succ, List.getElem?_cons_zero, Option.some.injEq] at ho
      subst ho
      obtain rfl := kg.out.2.1 (hd ⟨1, .data⟩ (by simp) rfl)
      clear hd hn
      go_wp2
      show I _ _ _ _ _
      rw [hI.out]
      exact ⟨x0, .pointer (some ⟨w.heap.size, 2, none⟩), .agg #[.int .u64 a0, .int .u64 a1], x3, x4, x5, x6, x7, x8, x9, y1, y2, (by first | (simp [Act.put]; done) | rfl), kB.out, (fun h => kg.out.1 (h.resolve_left (by decide))), (fun _ => rfl), (fun _ => rfl), (fun h => kg.out.2.2.2.1 (h.resolve_left (by decide))), (fun h => kg.out.2.2.2.2.1 (h.resolve_left (by decide))), (fun h => kg.out.2.2.2.2.2.1 (h.resolve_left (by decide))), (fun h => kg.out.2.2.2.2.2.2.1 (h.resolve_left (by decide))), (fun h => kg.out.2.2.2.2.2.2.2.1 (h.resolve_left (by decide))), (fun h => kg.out.2.2.2.2.2.2.2.2.1 (h.resolve_left (by decide))), (fun h => kg.out.2.2.2.2.2.2.2.2.2.1 (h.resolve_left (by decide))), (kg.out.2.2.2.2.2.2.2.2.2.2.1.same (fun h => h.resolve_left (by decide)) (fun h => h.resolve_left (by decide))), (kg.out.2.2.2.2.2.2.2.2.2.2.2.1.same (fun h => h.resolve_left (by decide)) (fun h => h.resolve_left (by decide))), (fun h h2 => kg.out.2.2.2.2.2.2.2.2.2.2.2.2.1 (h.resolve_left (by decide)) (h2.resolve_left (by decide))), (fun h => .inr (kg.out.2.2.2.2.2.2.2.2.2.2.2.2.2.1 (h.resolve_left (by decide)))), (fun h => .inr (kg.out.2.2.2.2.2.2.2.2.2.2.2.2.2.2 (h.resolve_left (by decide))))⟩
    · simp only [List.getElem?_cons_succ, List.getElem?_cons_zero, Option.some.injEq] at ho
      subst ho
      clear hd hn
      go_wp2
      show I _ _ _ _ _
      rw [hI.out]
      exact ⟨x0, x1, x2, .int .u64 m, x4, x5, x6, x7, x8, x9, y1, y2, (by first | (simp [Act.put]; done) | rfl), kB.out, (fun h => kg.out.1 (h.resolve_left (by decide))), (fun h => kg.out.2.1 (h.resolve_left (by decide))), (fun h => kg.out.2.2.1 (h.resolve_left (by decide))), (fun _ => rfl), (fun h => kg.out.2.2.2.2.1 (h.resolve_left (by decide))), (fun h => kg.out.2.2.2.2.2.1 (h.resolve_left (by decide))), (fun h => kg.out.2.2.2.2.2.2.1 (h.resolve_left (by decide))), (fun h => kg.out.2.2.2.2.2.2.2.1 (h.resolve_left (by decide))), (fun h => kg.out.2.2.2.2.2.2.2.2.1 (h.resolve_left (by decide))), (fun h => kg.out.2.2.2.2.2.2.2.2.2.1 (h.resolve_left (by decide))), (kg.out.2.2.2.2.2.2.2.2.2.2.1.same (fun h => h.resolve_left (by decide)) (fun h => h.resolve_left (by decide))), (kg.out.2.2.2.2.2.2.2.2.2.2.2.1.same (fun h => h.resolve_left (by decide)) (fun h => h.resolve_left (by decide))), (fun h h2 => kg.out.2.2.2.2.2.2.2.2.2.2.2.2.1 (h.resolve_left (by decide)) (h2.resolve_left (by decide))), (fun h => .inr (kg.out.2.2.2.2.2.2.2.2.2.2.2.2.2.1 (h.resolve_left (by decide)))), (fun h => .inr (kg.out.2.2.2.2.2.2.2.2.2.2.2.2.2.2 (h.resolve_left (by decide))))⟩
    · simp only [List.getElem?_cons_succ, List.getElem?_cons_zero, Option.some.injEq] at ho
      subst ho
      obtain rfl := kg.out.1 (hd ⟨0, .data⟩ (by simp) rfl)
      obtain rfl := kg.out.2.2.1 (hd ⟨2, .data⟩ (by simp) rfl)
      obtain rfl := kg.out.2.2.2.1 (hd ⟨3, .data⟩ (by simp) rfl)
      clear hd hn
      go_wp2_with (go_at_call 29; (first | with_reducible refine use1 (c1.out _) ?_ | with_reducible refine use (c1.out _) ?_); intro pw)
      show I _ _ _ _ _
      rw [hI.out]
      exact ⟨.agg #[.int .u64 r], x1, .agg #[.int .u64 a0, .int .u64 a1], .int .u64 m, .agg #[.int .u64 y10, .int .u64 y11], x5, x6, x7, x8, x9, y1, y2, (by first | (simp [Act.put]; done) | rfl), (Below.later kB.out _), (fun _ => rfl), (fun h => kg.out.2.1 (h.resolve_left (by decide))), (fun _ => rfl), (fun _ => rfl), (fun _ => rfl), (fun h => kg.out.2.2.2.2.2.1 (h.resolve_left (by decide))), (fun h => kg.out.2.2.2.2.2.2.1 (h.resolve_left (by decide))), (fun h => kg.out.2.2.2.2.2.2.2.1 (h.resolve_left (by decide))), (fun h => kg.out.2.2.2.2.2.2.2.2.1 (h.resolve_left (by decide))), (fun h => kg.out.2.2.2.2.2.2.2.2.2.1 (h.resolve_left (by decide))), (kg.out.2.2.2.2.2.2.2.2.2.2.1.later (fun h => h.resolve_left (by decide)) (fun h => h.resolve_left (by decide)) _), (kg.out.2.2.2.2.2.2.2.2.2.2.2.1.later (fun h => h.resolve_left (by decide)) (fun h => h.resolve_left (by decide)) _), (fun h h2 => kg.out.2.2.2.2.2.2.2.2.2.2.2.2.1 (h.resolve_left (by decide)) (h2.resolve_left (by decide))), (fun h => .inr (kg.out.2.2.2.2.2.2.2.2.2.2.2.2.2.1 (h.resolve_left (by decide)))), (fun h => .inr (kg.out.2.2.2.2.2.2.2.2.2.2.2.2.2.2 (h.resolve_left (by decide))))⟩
    · simp only [List.getElem?_cons_succ, List.getElem?_cons_zero, Option.some.injEq] at ho
      subst ho
      clear hd hn
      go_wp2
      show I _ _ _ _ _
      rw [hI.out]
      exact ⟨x0, x1, x2, x3, x4, .agg #[.int .u64 r], x6, x7, x8, x9, y1, y2, (by first | (simp [Act.put]; done) | rfl), kB.out, (fun h => kg.out.1 (h.resolve_left (by decide))), (fun h => kg.out.2.1 (h.resolve_left (by decide))), (fun h => kg.out.2.2.1 (h.resolve_left (by decide))), (fun h => kg.out.2.2.2.1 (h.resolve_left (by decide))), (fun h => kg.out.2.2.2.2.1 (h.resolve_left (by decide))), (fun _ => rfl), (fun h => kg.out.2.2.2.2.2.2.1 (h.resolve_left (by decide))), (fun h => kg.out.2.2.2.2.2.2.2.1 (h.resolve_left (by decide))), (fun h => kg.out.2.2.2.2.2.2.2.2.1 (h.resolve_left (by decide))), (fun h => kg.out.2.2.2.2.2.2.2.2.2.1 (h.resolve_left (by decide))), (kg.out.2.2.2.2.2.2.2.2.2.2.1.same (fun h => h.resolve_left (by decide)) (fun h => h.resolve_left (by decide))), (kg.out.2.2.2.2.2.2.2.2.2.2.2.1.same (fun h => h.resolve_left (by decide)) (fun h => h.resolve_left (by decide))), (fun h h2 => kg.out.2.2.2.2.2.2.2.2.2.2.2.2.1 (h.resolve_left (by decide)) (h2.resolve_left (by decide))), (fun h => .inr (kg.out.2.2.2.2.2.2.2.2.2.2.2.2.2.1 (h.resolve_left (by decide)))), (fun h => .inr (kg.out.2.2.2.2.2.2.2.2.2.2.2.2.2.2 (h.resolve_left (by decide))))⟩
    · simp only [List.getElem?_cons_succ, List.getElem?_cons_zero, Option.some.injEq] at ho
      subst ho
      clear hd hn
      go_wp2
      show I _ _ _ _ _
      rw [hI.out]
      exact ⟨x0, x1, x2, x3, x4, x5, .pointer (some ⟨w.heap.size, 2, none⟩), x7, x8, x9, y1, y2, (by first | (simp [Act.put]; done) | rfl), kB.out, (fun h => kg.out.1 (h.resolve_left (by decide))), (fun h => kg.out.2.1 (h.resolve_left (by decide))), (fun h => kg.out.2.2.1 (h.resolve_left (by decide))), (fun h => kg.out.2.2.2.1 (h.resolve_left (by decide))), (fun h => kg.out.2.2.2.2.1 (h.resolve_left (by decide))), (fun h => kg.out.2.2.2.2.2.1 (h.resolve_left (by decide))), (fun _ => rfl), (fun h => kg.out.2.2.2.2.2.2.2.1 (h.resolve_left (by decide))), (fun h => kg.out.2.2.2.2.2.2.2.2.1 (h.resolve_left (by decide))), (fun h => kg.out.2.2.2.2.2.2.2.2.2.1 (h.resolve_left (by decide))), (kg.out.2.2.2.2.2.2.2.2.2.2.1.same (fun h => h.resolve_left (by decide)) (fun h => h.resolve_left (by decide))), (kg.out.2.2.2.2.2.2.2.2.2.2.2.1.same (fun h => h.resolve_left (by decide)) (fun h => h.resolve_left (by decide))), (fun h h2 => kg.out.2.2.2.2.2.2.2.2.2.2.2.2.1 (h.resolve_left (by decide)) (h2.resolve_left (by decide))), (fun h => .inr (kg.out.2.2.2.2.2.2.2.2.2.2.2.2.2.1 (h.resolve_left (by decide)))), (fun h => .inr (kg.out.2.2.2.2.2.2.2.2.2.2.2.2.2.2 (h.resolve_left (by decide))))⟩
    · simp only [List.getElem?_cons_succ, List.getElem?_cons_zero, Option.some.injEq] at ho
      subst ho
      obtain rfl := kg.out.2.2.2.2.2.2.1 (hd ⟨6, .data⟩ (by simp) rfl)
      clear hd hn
      go_wp2
      show I _ _ _ _ _
      rw [hI.out]
      exact ⟨x0, x1, x2, x3, x4, x5, .pointer (some ⟨w.heap.size, 2, none⟩), .agg #[.int .u64 a0, .int .u64 a1], x8, x9, y1, y2, (by first | (simp [Act.put]; done) | rfl), kB.out, (fun h => kg.out.1 (h.resolve_left (by decide))), (fun h => kg.out.2.1 (h.resolve_left (by decide))), (fun h => kg.out.2.2.1 (h.resolve_left (by decide))), (fun h => kg.out.2.2.2.1 (h.resolve_left (by decide))), (fun h => kg.out.2.2.2.2.1 (h.resolve_left (by decide))), (fun h => kg.out.2.2.2.2.2.1 (h.resolve_left (by decide))), (fun _ => rfl), (fun _ => rfl), (fun h => kg.out.2.2.2.2.2.2.2.2.1 (h.resolve_left (by decide))), (fun h => kg.out.2.2.2.2.2.2.2.2.2.1 (h.resolve_left (by decide))), (kg.out.2.2.2.2.2.2.2.2.2.2.1.same (fun h => h.resolve_left (by decide)) (fun h => h.resolve_left (by decide))), (kg.out.2.2.2.2.2.2.2.2.2.2.2.1.same (fun h => h.resolve_left (by decide)) (fun h => h.resolve_left (by decide))), (fun h h2 => kg.out.2.2.2.2.2.2.2.2.2.2.2.2.1 (h.resolve_left (by decide)) (h2.resolve_left (by decide))), (fun h => .inr (kg.out.2.2.2.2.2.2.2.2.2.2.2.2.2.1 (h.resolve_left (by decide)))), (fun h => .inr (kg.out.2.2.2.2.2.2.2.2.2.2.2.2.2.2 (h.resolve_left (by decide))))⟩
    · simp only [List.getElem?_cons_succ, List.getElem?_cons_zero, Option.some.injEq] at ho
      subst ho
      clear hd hn
      go_wp2
      show I _ _ _ _ _
      rw [hI.out]
      exact ⟨x0, x1, x2, x3, x4, x5, x6, x7, .int .u64 n, x9, y1, y2, (by first | (simp [Act.put]; done) | rfl), kB.out, (fun h => kg.out.1 (h.resolve_left (by decide))), (fun h => kg.out.2.1 (h.resolve_left (by decide))), (fun h => kg.out.2.2.1 (h.resolve_left (by decide))), (fun h => kg.out.2.2.2.1 (h.resolve_left (by decide))), (fun h => kg.out.2.2.2.2.1 (h.resolve_left (by decide))), (fun h => kg.out.2.2.2.2.2.1 (h.resolve_left (by decide))), (fun h => kg.out.2.2.2.2.2.2.1 (h.resolve_left (by decide))), (fun h => kg.out.2.2.2.2.2.2.2.1 (h.resolve_left (by decide))), (fun _ => rfl), (fun h => kg.out.2.2.2.2.2.2.2.2.2.1 (h.resolve_left (by decide))), (kg.out.2.2.2.2.2.2.2.2.2.2.1.same (fun h => h.resolve_left (by decide)) (fun h => h.resolve_left (by decide))), (kg.out.2.2.2.2.2.2.2.2.2.2.2.1.same (fun h => h.resolve_left (by decide)) (fun h => h.resolve_left (by decide))), (fun h h2 => kg.out.2.2.2.2.2.2.2.2.2.2.2.2.1 (h.resolve_left (by decide)) (h2.resolve_left (by decide))), (fun h => .inr (kg.out.2.2.2.2.2.2.2.2.2.2.2.2.2.1 (h.resolve_left (by decide)))), (fun h => .inr (kg.out.2.2.2.2.2.2.2.2.2.2.2.2.2.2 (h.resolve_left (by decide))))⟩
    · simp only [List.getElem?_cons_succ, List.getElem?_cons_zero, Option.some.injEq] at ho
      subst ho
      obtain rfl := kg.out.2.2.2.2.2.1 (hd ⟨5, .data⟩ (by simp) rfl)
      obtain rfl := kg.out.2.2.2.2.2.2.2.1 (hd ⟨7, .data⟩ (by simp) rfl)
      obtain rfl := kg.out.2.2.2.2.2.2.2.2.1 (hd ⟨8, .data⟩ (by simp) rfl)
      clear hd hn
      go_wp2_with (go_at_call 29; (first | with_reducible refine use1 (c2.out _) ?_ | with_reducible refine use (c2.out _) ?_); intro pw)
      show I _ _ _ _ _
      rw [hI.out]
      exact ⟨x0, x1, x2, x3, x4, .agg #[.int .u64 r], x6, .agg #[.int .u64 a0, .int .u64 a1], .int .u64 n, .agg #[.int .u64 y20, .int .u64 y21], y1, y2, (by first | (simp [Act.put]; done) | rfl), (Below.later kB.out _), (fun h => kg.out.1 (h.resolve_left (by decide))), (fun h => kg.out.2.1 (h.resolve_left (by decide))), (fun h => kg.out.2.2.1 (h.resolve_left (by decide))), (fun h => kg.out.2.2.2.1 (h.resolve_left (by decide))), (fun h => kg.out.2.2.2.2.1 (h.resolve_left (by decide))), (fun _ => rfl), (fun h => kg.out.2.2.2.2.2.2.1 (h.resolve_left (by decide))), (fun _ => rfl), (fun _ => rfl), (fun _ => rfl), (kg.out.2.2.2.2.2.2.2.2.2.2.1.later (fun h => h.resolve_left (by decide)) (fun h => h.resolve_left (by decide)) _), (kg.out.2.2.2.2.2.2.2.2.2.2.2.1.later (fun h => h.resolve_left (by decide)) (fun h => h.resolve_left (by decide)) _), (fun h h2 => kg.out.2.2.2.2.2.2.2.2.2.2.2.2.1 (h.resolve_left (by decide)) (h2.resolve_left (by decide))), (fun h => .inr (kg.out.2.2.2.2.2.2.2.2.2.2.2.2.2.1 (h.resolve_left (by decide)))), (fun h => .inr (kg.out.2.2.2.2.2.2.2.2.2.2.2.2.2.2 (h.resolve_left (by decide))))⟩
    · simp only [List.getElem?_cons_succ, List.getElem?_cons_zero, Option.some.injEq] at ho
      subst ho
      have hn6 : ¬ (12 = 10 ∨ L 12) := fun h => hn (kg.out.2.2.2.2.2.2.2.2.2.2.2.2.2.1 (h.resolve_left (by decide)))
      clear hd hn
      go_wp2
      show I _ _ _ _ _
      rw [hI.out]
      exact ⟨x0, x1, x2, x3, x4, x5, x6, x7, x8, x9, .pointer (some ⟨v.heap.size, 0, none⟩), y2, (by first | (simp [Act.put]; done) | rfl), (Below.alloc kB.out kB.out.size _), (fun h => kg.out.1 (h.resolve_left (by decide))), (fun h => kg.out.2.1 (h.resolve_left (by decide))), (fun h => kg.out.2.2.1 (h.resolve_left (by decide))), (fun h => kg.out.2.2.2.1 (h.resolve_left (by decide))), (fun h => kg.out.2.2.2.2.1 (h.resolve_left (by decide))), (fun h => kg.out.2.2.2.2.2.1 (h.resolve_left (by decide))), (fun h => kg.out.2.2.2.2.2.2.1 (h.resolve_left (by decide))), (fun h => kg.out.2.2.2.2.2.2.2.1 (h.resolve_left (by decide))), (fun h => kg.out.2.2.2.2.2.2.2.2.1 (h.resolve_left (by decide))), (fun h => kg.out.2.2.2.2.2.2.2.2.2.1 (h.resolve_left (by decide))), (BoxIn.made kB.out.size _ hn6), (kg.out.2.2.2.2.2.2.2.2.2.2.2.1.boxed (fun h => h.resolve_left (by decide)) (fun h => h.resolve_left (by decide)) _), (Apart.new kg.out.2.2.2.2.2.2.2.2.2.2.2.1 _ (fun h => h.resolve_left (by decide))), (fun _ => .inl rfl), (fun h => .inr (kg.out.2.2.2.2.2.2.2.2.2.2.2.2.2.2 (h.resolve_left (by decide))))⟩
    · simp only [List.getElem?_cons_succ, List.getElem?_cons_zero, Option.some.injEq] at ho
      subst ho
      have hn7 : ¬ (13 = 11 ∨ L 13) := fun h => hn (kg.out.2.2.2.2.2.2.2.2.2.2.2.2.2.2 (h.resolve_left (by decide)))
      clear hd hn
      go_wp2
      show I _ _ _ _ _
      rw [hI.out]
      exact ⟨x0, x1, x2, x3, x4, x5, x6, x7, x8, x9, y1, .pointer (some ⟨v.heap.size, 0, none⟩), (by first | (simp [Act.put]; done) | rfl), (Below.alloc kB.out kB.out.size _), (fun h => kg.out.1 (h.resolve_left (by decide))), (fun h => kg.out.2.1 (h.resolve_left (by decide))), (fun h => kg.out.2.2.1 (h.resolve_left (by decide))), (fun h => kg.out.2.2.2.1 (h.resolve_left (by decide))), (fun h => kg.out.2.2.2.2.1 (h.resolve_left (by decide))), (fun h => kg.out.2.2.2.2.2.1 (h.resolve_left (by decide))), (fun h => kg.out.2.2.2.2.2.2.1 (h.resolve_left (by decide))), (fun h => kg.out.2.2.2.2.2.2.2.1 (h.resolve_left (by decide))), (fun h => kg.out.2.2.2.2.2.2.2.2.1 (h.resolve_left (by decide))), (fun h => kg.out.2.2.2.2.2.2.2.2.2.1 (h.resolve_left (by decide))), (kg.out.2.2.2.2.2.2.2.2.2.2.1.boxed (fun h => h.resolve_left (by decide)) (fun h => h.resolve_left (by decide)) _), (BoxIn.made kB.out.size _ hn7), (fun h h2 e => Apart.new kg.out.2.2.2.2.2.2.2.2.2.2.1 _ (fun h => h.resolve_left (by decide)) h2 h e.symm), (fun h => .inr (kg.out.2.2.2.2.2.2.2.2.2.2.2.2.2.1 (h.resolve_left (by decide)))), (fun _ => .inl rfl)⟩
    · simp only [List.getElem?_cons_succ, List.getElem?_cons_zero, Option.some.injEq] at ho
      subst ho
      have hp : L 10 := hd ⟨10, .data⟩ (by simp) rfl
      obtain ⟨c, e, f, e1, hc1, hc2, _⟩ := kg.out.2.2.2.2.2.2.2.2.2.2.1 hp
      obtain rfl := kg.out.2.2.2.2.1 (hd ⟨4, .data⟩ (by simp) rfl)
      subst e1
      have z0 := hc2.c0
      have z1 := hc2.c1
      have z2 := hc2.f0
      have z3 := hc2.f1
      have z4 := hc2.lt
      have kc : Kept (Cell2 v c e f) := ⟨hc2⟩
      clear hc2
      clear hd hn
      go_wp2
      show I _ _ _ _ _
      rw [hI.out]
      exact ⟨x0, x1, x2, x3, .agg #[.int .u64 y10, .int .u64 y11], x5, x6, x7, x8, x9, .pointer (some ⟨c, 0, none⟩), y2, (by first | (simp [Act.put]; done) | rfl), (Below.put (Below.put kB.out (a := ⟨c, 0, none⟩) hc1 _) (a := ⟨c, 1, none⟩) hc1 _), (fun h => kg.out.1 (h.resolve_left (by decide))), (fun h => kg.out.2.1 (h.resolve_left (by decide))), (fun h => kg.out.2.2.1 (h.resolve_left (by decide))), (fun h => kg.out.2.2.2.1 (h.resolve_left (by decide))), (fun _ => rfl), (fun h => kg.out.2.2.2.2.2.1 (h.resolve_left (by decide))), (fun h => kg.out.2.2.2.2.2.2.1 (h.resolve_left (by decide))), (fun h => kg.out.2.2.2.2.2.2.2.1 (h.resolve_left (by decide))), (fun h => kg.out.2.2.2.2.2.2.2.2.1 (h.resolve_left (by decide))), (fun h => kg.out.2.2.2.2.2.2.2.2.2.1 (h.resolve_left (by decide))), (fun _ => ⟨c, y10, y11, rfl, hc1, kc.out.put y10 y11, fun _ => ⟨rfl, rfl⟩⟩), (fun h => by
        obtain ⟨c', e', f', q1, q2, q3, q4⟩ := kg.out.2.2.2.2.2.2.2.2.2.2.2.1 (h.resolve_left (by decide))
        have hne : c ≠ c' := fun e => by
          subst e
          exact kg.out.2.2.2.2.2.2.2.2.2.2.2.2.1 hp (h.resolve_left (by decide)) q1.symm
        exact ⟨c', e', f', q1, q2, (q3.other (a := ⟨c, 0, none⟩) hne _).other (a := ⟨c, 1, none⟩) hne _, fun y => q4 (y.resolve_left (by decide))⟩), (fun h h2 => kg.out.2.2.2.2.2.2.2.2.2.2.2.2.1 (h.resolve_left (by decide)) (h2.resolve_left (by decide))), (fun _ => .inr hp), (fun h => .inr (kg.out.2.2.2.2.2.2.2.2.2.2.2.2.2.2 (h.resolve_left (by decide))))⟩
    · simp only [List.getElem?_cons_succ, List.getElem?_cons_zero, Option.some.injEq] at ho
      subst ho
      have hp : L 11 := hd ⟨11, .data⟩ (by simp) rfl
      obtain ⟨c, e, f, e1, hc1, hc2, _⟩ := kg.out.2.2.2.2.2.2.2.2.2.2.2.1 hp
      obtain rfl := kg.out.2.2.2.2.2.2.2.2.2.1 (hd ⟨9, .data⟩ (by simp) rfl)
      subst e1
      have z0 := hc2.c0
      have z1 := hc2.c1
      have z2 := hc2.f0
      have z3 := hc2.f1
      have z4 := hc2.lt
      have kc : Kept (Cell2 v c e f) := ⟨hc2⟩
      clear hc2
      clear hd hn
      go_wp2
      show I _ _ _ _ _
      rw [hI.out]
      exact ⟨x0, x1, x2, x3, x4, x5, x6, x7, x8, .agg #[.int .u64 y20, .int .u64 y21], y1, .pointer (some ⟨c, 0, none⟩), (by first | (simp [Act.put]; done) | rfl), (Below.put (Below.put kB.out (a := ⟨c, 0, none⟩) hc1 _) (a := ⟨c, 1, none⟩) hc1 _), (fun h => kg.out.1 (h.resolve_left (by decide))), (fun h => kg.out.2.1 (h.resolve_left (by decide))), (fun h => kg.out.2.2.1 (h.resolve_left (by decide))), (fun h => kg.out.2.2.2.1 (h.resolve_left (by decide))), (fun h => kg.out.2.2.2.2.1 (h.resolve_left (by decide))), (fun h => kg.out.2.2.2.2.2.1 (h.resolve_left (by decide))), (fun h => kg.out.2.2.2.2.2.2.1 (h.resolve_left (by decide))), (fun h => kg.out.2.2.2.2.2.2.2.1 (h.resolve_left (by decide))), (fun h => kg.out.2.2.2.2.2.2.2.2.1 (h.resolve_left (by decide))), (fun _ => rfl), (fun h => by
        obtain ⟨c', e', f', q1, q2, q3, q4⟩ := kg.out.2.2.2.2.2.2.2.2.2.2.1 (h.resolve_left (by decide))
        have hne : c ≠ c' := fun e => by
          subst e
          exact kg.out.2.2.2.2.2.2.2.2.2.2.2.2.1 (h.resolve_left (by decide)) hp q1
        exact ⟨c', e', f', q1, q2, (q3.other (a := ⟨c, 0, none⟩) hne _).other (a := ⟨c, 1, none⟩) hne _, fun y => q4 (y.resolve_left (by decide))⟩), (fun _ => ⟨c, y20, y21, rfl, hc1, kc.out.put y20 y21, fun _ => ⟨rfl, rfl⟩⟩), (fun h h2 => kg.out.2.2.2.2.2.2.2.2.2.2.2.2.1 (h.resolve_left (by decide)) (h2.resolve_left (by decide))), (fun h => .inr (kg.out.2.2.2.2.2.2.2.2.2.2.2.2.2.1 (h.resolve_left (by decide)))), (fun _ => .inr hp)⟩
    · simp at ho
  case done =>
    intro L b v hL hinv
    rw [hI.out] at hinv
    obtain ⟨x0, x1, x2, x3, x4, x5, x6, x7, x8, x9, y1, y2, rfl, hB, g0, g1, g2, g3, g4, g5, g6, g7, g8, g9, g10, g11, g12, _, _⟩ := hinv
    obtain rfl := g0 (hL 0 (by simp))
    obtain rfl := g1 (hL 1 (by simp))
    obtain rfl := g2 (hL 2 (by simp))
    obtain rfl := g3 (hL 3 (by simp))
    obtain rfl := g4 (hL 4 (by simp))
    obtain rfl := g5 (hL 5 (by simp))
    obtain rfl := g6 (hL 6 (by simp))
    obtain rfl := g7 (hL 7 (by simp))
    obtain rfl := g8 (hL 8 (by simp))
    obtain rfl := g9 (hL 9 (by simp))
    obtain ⟨p1, _, _, rfl, _, k1, f1⟩ := g10 (hL 10 (by simp))
    obtain ⟨p2, _, _, rfl, _, k2, f2⟩ := g11 (hL 11 (by simp))
    rw [(f1 (hL 12 (by simp))).1, (f1 (hL 12 (by simp))).2] at k1
    rw [(f2 (hL 13 (by simp))).1, (f2 (hL 13 (by simp))).2] at k2
    clear g0 g1 g2 g3 g4 g5 g6 g7 g8 g9 g10 g11 g12 f1 f2 hL hI
    have t0 := k1.c0
    have t1 := k1.c1
    have t2 := k1.lt
    have t3 := k2.c0
    have t4 := k2.c1
    have t5 := k2.lt
    have r0 : v.cell? ⟨w.heap.size, 2, none⟩ = some (.int .u64 a0) := by
      have hq := hB.cell (p := ⟨w.heap.size, 2, none⟩) (by simp only [World.size_alloc, after_size]; omega)
      rw [hq]; simp [go_sem]
    have r1 : v.cell? ⟨w.heap.size, 3, none⟩ = some (.int .u64 a1) := by
      have hq := hB.cell (p := ⟨w.heap.size, 3, none⟩) (by simp only [World.size_alloc, after_size]; omega)
      rw [hq]; simp [go_sem]
    have r2 : v.cell? ⟨w.heap.size + 1 + pw.os.size, 0, none⟩ = some (.int .u64 r) := by
      have hq := hB.cell (p := ⟨w.heap.size + 1 + pw.os.size, 0, none⟩) (by simp only [World.size_alloc, after_size]; omega)
      rw [hq]; simp [go_sem]
    have hl := hB.size
    simp only [World.size_alloc, after_size] at hl
    have l1 : w.heap.size < v.heap.size := by omega
    have l2 : w.heap.size + 1 + pw.os.size < v.heap.size := by omega
    have hB2 : Kept (Below w.heap.size w v) := ⟨Below.next (by repeat (first | exact Below.refl _ _ | refine Below.later ?_ _ | refine Below.box ?_ _ | refine Below.drew ?_ | refine Below.put ?_ (by dsimp only; omega) _)) hB⟩
    clear k1 k2 hB hl
    rw [← after_self v]
    generalize (⟨v.drawn, #[]⟩ : Regrown) = q0
    by_cases hw : m + n < 18446744073709551616
    · have hwrap : IntKind.u64.wrap (m + n) = m + n := by rw [IntKind.wrap_u64]; omega
      have c5 : Kept (∀ w, Calls Try.prog 29 #[.agg #[.int .u64 r], .agg #[.int .u64 a0, .int .u64 a1], .int .u64 (m + n)] w (Gives (.agg #[.int .u64 y30, .int .u64 y31]) w)) := ⟨c4.out hw⟩
      have hge : decide (m + n < m) = false := by rw [decide_eq_false_iff_not]; omega
      have hge2 : ¬ m + n < m := by omega
      clear hw c4
      go_wp2_with (first | (go_at_call 29; (first | with_reducible refine use1 (c1.out _) ?_ | with_reducible refine use (c1.out _) ?_); intro pw) | (go_at_call 29; (first | with_reducible refine use1 (c2.out _) ?_ | with_reducible refine use (c2.out _) ?_); intro pw) | (go_at_call 30; (first | with_reducible refine use1 (d1.out _) ?_ | with_reducible refine use (d1.out _) ?_); intro pw) | (go_at_call 30; (first | with_reducible refine use1 (d2.out _) ?_ | with_reducible refine use (d2.out _) ?_); intro pw) | (go_at_call 22; (first | with_reducible refine use1 (c3.out _) ?_ | with_reducible refine use (c3.out _) ?_); intro pw) | (go_at_call 29; (first | with_reducible refine use1 (c5.out _) ?_ | with_reducible refine use (c5.out _) ?_); intro pw))
      repeat (
        (try dsimp only [List.append])
        (first | refine region_big1 (by kernel_rfl) ?_ | refine region_big (by kernel_rfl) ?_)
        repeat (go_big_quiet_step (first | (go_at_call 29; with_reducible exact quiet (c1.out _)) | (go_at_call 29; with_reducible exact quiet (c2.out _)) | (go_at_call 30; with_reducible exact quiet (d1.out _)) | (go_at_call 30; with_reducible exact quiet (d2.out _)) | (go_at_call 22; with_reducible exact quiet (c3.out _)) | (go_at_call 29; with_reducible exact quiet (c5.out _))))
        refine wpQuiet_nil ?_
        intro _
        go_wp2_with (first | (go_at_call 29; (first | with_reducible refine use1 (c1.out _) ?_ | with_reducible refine use (c1.out _) ?_); intro pw) | (go_at_call 29; (first | with_reducible refine use1 (c2.out _) ?_ | with_reducible refine use (c2.out _) ?_); intro pw) | (go_at_call 30; (first | with_reducible refine use1 (d1.out _) ?_ | with_reducible refine use (d1.out _) ?_); intro pw) | (go_at_call 30; (first | with_reducible refine use1 (d2.out _) ?_ | with_reducible refine use (d2.out _) ?_); intro pw) | (go_at_call 22; (first | with_reducible refine use1 (c3.out _) ?_ | with_reducible refine use (c3.out _) ?_); intro pw) | (go_at_call 29; (first | with_reducible refine use1 (c5.out _) ?_ | with_reducible refine use (c5.out _) ?_); intro pw)))
      go_ret
      exact ⟨rfl, Below.next hB2.out (by repeat (first | exact Below.refl _ _ | refine Below.later ?_ _ | refine Below.box ?_ _ | refine Below.drew ?_ | refine Below.put ?_ (by dsimp only; omega) _))⟩
    · have hwrap : IntKind.u64.wrap (m + n) = m + n - 18446744073709551616 := by rw [IntKind.wrap_u64]; omega
      have hlt : m + n - 18446744073709551616 < m := by omega
      go_wp2_with (first | (go_at_call 29; (first | with_reducible refine use1 (c1.out _) ?_ | with_reducible refine use (c1.out _) ?_); intro pw) | (go_at_call 29; (first | with_reducible refine use1 (c2.out _) ?_ | with_reducible refine use (c2.out _) ?_); intro pw) | (go_at_call 30; (first | with_reducible refine use1 (d1.out _) ?_ | with_reducible refine use (d1.out _) ?_); intro pw) | (go_at_call 30; (first | with_reducible refine use1 (d2.out _) ?_ | with_reducible refine use (d2.out _) ?_); intro pw) | (go_at_call 22; (first | with_reducible refine use1 (c3.out _) ?_ | with_reducible refine use (c3.out _) ?_); intro pw))
      repeat (
        (try dsimp only [List.append])
        (first | refine region_big1 (by kernel_rfl) ?_ | refine region_big (by kernel_rfl) ?_)
        repeat (go_big_quiet_step (first | (go_at_call 29; with_reducible exact quiet (c1.out _)) | (go_at_call 29; with_reducible exact quiet (c2.out _)) | (go_at_call 30; with_reducible exact quiet (d1.out _)) | (go_at_call 30; with_reducible exact quiet (d2.out _)) | (go_at_call 22; with_reducible exact quiet (c3.out _))))
        refine wpQuiet_nil ?_
        intro _
        go_wp2_with (first | (go_at_call 29; (first | with_reducible refine use1 (c1.out _) ?_ | with_reducible refine use (c1.out _) ?_); intro pw) | (go_at_call 29; (first | with_reducible refine use1 (c2.out _) ?_ | with_reducible refine use (c2.out _) ?_); intro pw) | (go_at_call 30; (first | with_reducible refine use1 (d1.out _) ?_ | with_reducible refine use (d1.out _) ?_); intro pw) | (go_at_call 30; (first | with_reducible refine use1 (d2.out _) ?_ | with_reducible refine use (d2.out _) ?_); intro pw) | (go_at_call 22; (first | with_reducible refine use1 (c3.out _) ?_ | with_reducible refine use (c3.out _) ?_); intro pw)))
      go_ret
      exact ⟨rfl, Below.next hB2.out (by repeat (first | exact Below.refl _ _ | refine Below.later ?_ _ | refine Below.box ?_ _ | refine Below.drew ?_ | refine Below.put ?_ (by dsimp only; omega) _))⟩

set_option maxRecDepth 100000 in
theorem lifted (os : Os) (started : os.Started) (H : Type) (enc : TypeId × Value → H) :
    ReturnsInHanded {} Try.checked os 8 .any (Rows.extensionPowSpec.pre6 enc Try.prog Try.f8 Rows.extensionPowRow.domain false) (Rows.extensionPowSpec.post enc Try.prog Try.f8 false true false false) := by
  refine returnsInHanded_of_change (C := Try.checked) own started (by kernel_rfl) Try.func8
    (ChangeSpec.witness6 (enc := enc) (C := Try.checked) false ⟨#[], #[.agg #[.int .u64 0, .int .u8 0, .int .u64 0, .int .u64 0, .int .u64 0, .int .u64 0], .int .u64 0, .int .u64 0], []⟩ 8 (by kernel_rfl) (by kernel_rfl) (by kernel_rfl) (by kernel_rfl)) ?_
  intro W base args ds gs before hval0 hW hcnd _
  have hval : ∀ (j : Nat) t v, Try.f8.params[j]? = some t → args[j]? = some v → Value.okWide Try.prog W .any base t v := hval0
  have hW0 : DataW.Whole enc Try.prog Try.f8.params.toList Rows.extensionPowSpec.vars false W args.toList ds gs before := hW
  obtain ⟨p, q, hA0, hV, rfl, _, _⟩ := hW
  have hA : DataW.TrodAll enc Try.prog W 0 (fun _ => true) true Try.f8.params.toList args.toList ds p := hA0
  rw [Try.params8] at hA hval
  obtain ⟨v0, vs0, d0, ds0, p0, q0, hargs, rfl, rfl, h0, r0⟩ := trodAll_cons hA
  obtain ⟨v1, vs1, d1, ds1, p1, q1, rfl, rfl, rfl, h1, r1⟩ := trodAll_cons r0
  obtain ⟨v2, vs2, d2, ds2, p2, q2, rfl, rfl, rfl, h2, r2⟩ := trodAll_cons r1
  obtain ⟨rfl, rfl, rfl⟩ := trodAll_nil r2
  obtain rfl : args = #[v0, v1, v2] := by cases args; simp_all
  obtain ⟨rfl, rfl⟩ := trodVars_none hV
  obtain ⟨a0x, a0y, a0z, a0u, a0v, a0t, rfl, u0⟩ := open_two (hval 0 25 v0 rfl rfl)
  obtain ⟨a1, rfl, u1⟩ := open_u64 (hval 1 22 v1 rfl rfl)
  obtain ⟨a2, rfl, u2⟩ := open_u64 (hval 2 22 v2 rfl rfl)
  clear hA0 hval0
  refine (walk a0x a0y a0z a0u a0v a0t u0 a1 u1 a2 u2 W).mono fun e W' ⟨he, hb⟩ => ⟨.bool true, he, ?_⟩
  exact law_post (fun t ht => by have ht' : t ∈ [25, 22, 22] := ht; simp only [List.mem_cons, List.not_mem_nil, or_false] at ht'; rcases ht' with rfl | rfl | rfl <;> exact ⟨by kernel_rfl, of_decide_eq_true (by kernel_rfl)⟩) rfl rfl hW0 rfl hb

theorem over : Rows.extensionPowRow.holds Try.pinned (OpenSpec.ofChange Rows.extensionPowSpec) :=
  OpenClaim.holds_of_wide 8 Try.f8 rfl rfl rfl rfl rfl rfl rfl ⟨rfl, rfl, rfl, rfl, rfl⟩ rfl rfl rfl rfl rfl (by kernel_rfl) Try.func8 (by kernel_rfl)
    (of_decide_eq_true (by kernel_rfl)) (by unfold Func.isWrapper; first | (rw [if_pos (by decide +kernel)]; kernel_rfl) | (rw [if_neg (by decide +kernel)]; exact ⟨rfl, rfl⟩))
    (fun os started H enc _ => lifted os started H enc)

/-- The statement. -/
theorem proved : Rows.ExtensionPowSaid := over
#print axioms proved
end Go.Proofs.Yteljpelagpghcaa.extensionPow
