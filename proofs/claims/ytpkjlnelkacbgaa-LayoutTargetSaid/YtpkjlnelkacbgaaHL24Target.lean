/- LayoutTarget: for any case and any rho the call returns true: where the case is right (up to 100 rows) and rho is less than P, Target gives the specified number; others are passed over. No condition. -/
import Derived.Test.YtpkjlnelkacbgaaHL24c
import Derived.Deep.RegionHeld3
import Derived.Test.YtpkjlnelkacbgaaQC
namespace Go.Proofs.Ytpkjlnelkacbgaa.layoutTarget
open Go.ChangeShapes Go.WideShapes Go.ChangeAt Go.RowKit Go.Sort

set_option maxRecDepth 100000
theorem alloc_at24 {W : World} {o : Obj} {G : Nat} (h : W.heap.size = G) : (W.alloc o).heap[G]? = some o := by subst h; exact heap_alloc_new W o
theorem wpl_gen24 {P : Program} {ops : Array Oper} {Q : Exit → Act → World → Prop} {rest : List Oper} {a : Act} {W : World} (F : World → Prop) (hF : F W) (h : ∀ W', F W' → wpList P ops Q rest a W') : wpList P ops Q rest a W := h W hF
set_option maxHeartbeats 8000000 in
theorem walk (w : World) (p pub vs : Int) (u : Option Addr) (c : Nat) (rs : List Rw) (b bl q : Int) (uw : Option Addr) (l : List Int) (cw : Nat)
    (h : U p ∧ I pub ∧ I vs ∧ Rws w u rs ∧ I b ∧ I bl ∧ I q ∧ Ls w uw l ∧ (uw = none → cw = 0) ∧ l.length ≤ cw) (rho : Int) (hrho : U rho) :
    Calls Try.prog 5 #[.agg #[.int .u64 p, .int .i64 pub, .int .i64 vs, .slice u rs.length c, .int .i64 b, .int .i64 bl, .int .i64 q, .slice uw l.length cw], .int .u64 rho] w (Gives (.bool true) w) := by
  obtain ⟨hU, _, _, hR, _, _, _, hL, _, hcw⟩ := h
  have hs1 := hR.small
  have hs2 := hL.small
  rcases right24_c p pub vs b bl q 100 u c rs uw cw l w hR hL with h0 | ⟨pb, B, S, P0, P1, K, NN, rfl, rfl, y, h0⟩
  · have cr := (⟨h0⟩ : Kept _)
    clear h0 hR hL
    generalize rs.length = m at *
    generalize l.length = n at *
    go_enter Try.func5, Try.ntmps5
    go_wp2_with (first | (go_at_call 17; (first | with_reducible refine use1 (cr.out _ (by repeat (first | exact Below.refl _ _ | refine Below.later ?_ _ | refine Below.box ?_ _ | refine Below.drew ?_ | refine Below.put ?_ (by dsimp only; omega) _))) ?_ | with_reducible refine use (cr.out _ (by repeat (first | exact Below.refl _ _ | refine Below.later ?_ _ | refine Below.box ?_ _ | refine Below.drew ?_ | refine Below.put ?_ (by dsimp only; omega) _))) ?_); intro pw) | (go_at_call 10; (first | with_reducible refine use1 (awake24_c _) ?_ | with_reducible refine use (awake24_c _) ?_); intro pw))
    go_ret
    exact ⟨rfl, (by repeat (first | exact Below.refl _ _ | refine Below.later ?_ _ | refine Below.box ?_ _ | refine Below.drew ?_ | refine Below.put ?_ (by dsimp only; omega) _))⟩
  · have cr := (⟨h0⟩ : Kept _)
    have hls := y.hls
    have hpb : pb ≤ 65536 := by have := y.hl; have := y.hvs; omega
    obtain ⟨bw, ow, rfl⟩ : ∃ bw ow, uw = some ⟨bw, ow, none⟩ := by
      obtain ⟨bw, ow, e, _⟩ := hL.mem (fun e => by subst e; simp at hls; omega)
      exact ⟨bw, ow, e⟩
    obtain ⟨ps, hps⟩ : ∃ ps, (l.drop 1).take pb = ps := ⟨_, rfl⟩
    have hpl : ps.length = pb := by rw [← hps, List.length_take, List.length_drop]; omega
    have kp : Kept (ps.length = pb) := ⟨hpl⟩
    have cc : Kept (∀ nb : Nat, nb = pb → ∀ w' G cp, Below w.heap.size w w' → Ls w' (some ⟨G, 0, none⟩) ps → ∀ K NN : Int, Calls Try.prog 21 #[.agg #[.int .u64 p, .int .i64 (B : Int), .int .i64 q, .int .i64 K, .int .i64 NN, .int .i64 (S : Int), .int .i64 rs.length, .int .i64 (P0 : Nat), .int .i64 (P1 : Nat), .int .i64 (P1 : Nat), .int .i64 (P1 : Nat)], .agg #[.int .u64 p, .int .i64 pb, .int .i64 vs, .slice u rs.length c], .slice (some ⟨G, 0, none⟩) nb cp, .int .u64 rho] w' (Gives (.int .u64 (tgV p rho (1 :: ps) rs rs.length)) w')) := ⟨fun nb hnb w' G cp hw hLs K NN => by
      rw [hnb]
      have := y.target (hR.below (Nat.le_refl _) hw) K NN c (some ⟨G, 0, none⟩) cp ps hLs (by omega) (by intro e; cases e) rho hrho
      rw [hpl] at this; exact this⟩
    have cd : Kept (∀ nb : Nat, nb = pb → ∀ w' G cp, Below w.heap.size w w' → Ls w' (some ⟨G, 0, none⟩) ps → ∀ K NN : Int, Calls Try.prog 22 #[.agg #[.int .u64 p, .int .i64 (B : Int), .int .i64 q, .int .i64 K, .int .i64 NN, .int .i64 (S : Int), .int .i64 rs.length, .int .i64 (P0 : Nat), .int .i64 (P1 : Nat), .int .i64 (P1 : Nat), .int .i64 (P1 : Nat)], .agg #[.int .u64 p, .int .i64 pb, .int .i64 vs, .slice u rs.length c], .slice (some ⟨G, 0, none⟩) nb cp, .int .u64 rho] w' (Gives (.int .u64 (tgV p rho (1 :: ps) rs rs.length)) w')) := ⟨fun nb hnb w' G cp hw hLs K NN => by
      rw [hnb]
      have := y.rtarget (hR.below (Nat.le_refl _) hw) K NN c (some ⟨G, 0, none⟩) cp ps hLs (by omega) (by intro e; cases e) rho hrho
      rw [hpl] at this; exact this⟩
    generalize tgV p rho (1 :: ps) rs rs.length = TV at *
    have co : Kept (∀ w' K NN, Calls Try.prog 14 #[.agg #[.int .u64 p, .int .i64 B, .int .i64 q, .int .i64 K, .int .i64 NN, .int .i64 S, .int .i64 rs.length, .int .i64 P0, .int .i64 P1, .int .i64 P1, .int .i64 P1]] w' (Gives (.agg #[.int .u64 p, .int .i64 B, .int .i64 q, .int .i64 K, .int .i64 NN, .int .i64 S, .int .i64 rs.length, .int .i64 P0, .int .i64 P1, .int .i64 P1, .int .i64 P1]) w')) := ⟨fun w' K NN => own24_c _ _ _ _ _ _ _ _ _ _ _ w'⟩
    have kL : Kept (Ls w (some ⟨bw, ow, none⟩) l) := ⟨hL⟩
    have kps : Kept ((l.drop 1).take pb = ps) := ⟨hps⟩
    have hn1 : (1 : Int) + (pb : Int) ≤ (cw : Int) := by omega
    have hw1 : IntKind.i64.wrap (1 + (pb : Int)) = 1 + (pb : Int) := by rw [IntKind.wrap_i64]; omega
    have hw2 : (0 : Int) ≤ 1 + (pb : Int) := by omega
    have hw4 : (1 + (pb : Int)).toNat = 1 + pb := by omega
    have hw5 : (1 : Int) ≤ 1 + (pb : Int) := by omega
    have hl1 : 1 + pb ≤ l.length := by omega
    have hpbz : Kept (cw = 1 → pb = 0) := ⟨fun e => by omega⟩
    clear h0 hR hL y hps hls hpl
    generalize rs.length = m at *
    generalize l.length = n at *
    by_cases hr : rho < p
    · have hr2 : decide (rho ≥ p) = false := by simp; omega
      have hr3 : decide (p ≤ rho) = false := by simp; omega
      by_cases hc1 : cw = 1
      · have hpb0 := (⟨hpbz.out hc1⟩ : Kept _)
        subst hc1
        have hn1' : (1 : Int) + (pb : Int) ≤ 1 := by omega
        have hn2' : 1 + pb ≤ 1 := by omega
        go_enter Try.func5, Try.ntmps5
        go_wp2_with (first | (at_builtin; refine Stop.out ?_) | (go_at_call 17; (first | with_reducible refine use1 (cr.out _ (by repeat (first | exact Below.refl _ _ | refine Below.later ?_ _ | refine Below.box ?_ _ | refine Below.drew ?_ | refine Below.put ?_ (by dsimp only; omega) _))) ?_ | with_reducible refine use (cr.out _ (by repeat (first | exact Below.refl _ _ | refine Below.later ?_ _ | refine Below.box ?_ _ | refine Below.drew ?_ | refine Below.put ?_ (by dsimp only; omega) _))) ?_); intro pw1) | (go_at_call 10; (first | with_reducible refine use1 (awake24_c _) ?_ | with_reducible refine use (awake24_c _) ?_); intro pw))
        refine ⟨?_⟩
        obtain ⟨LB, hLB⟩ : ∃ LB, LB = w.heap.size + 1 + pw1.os.size := ⟨_, rfl⟩
        rw [← hLB]
        obtain ⟨G, hG⟩ : ∃ G, G = LB + 1 + pw.os.size := ⟨_, rfl⟩
        rw [← hG]
        refine wpl_gen24 (fun w' => Below w.heap.size w w' ∧ LB < w'.heap.size ∧ LB < G ∧ w.heap.size < G ∧ w'.heap[G]? = some (.cells #[] 22 (0, 0)) ∧ w'.cell? ⟨LB, 0, none⟩ = some (Value.int .u64 p) ∧ w'.cell? ⟨LB, 1, none⟩ = some (.int .i64 (B : Int)) ∧ w'.cell? ⟨LB, 2, none⟩ = some (.int .i64 q) ∧ w'.cell? ⟨LB, 3, none⟩ = some (.int .i64 K) ∧ w'.cell? ⟨LB, 4, none⟩ = some (.int .i64 NN) ∧ w'.cell? ⟨LB, 5, none⟩ = some (.int .i64 (S : Int)) ∧ w'.cell? ⟨LB, 6, none⟩ = some (.int .i64 (m : Int)) ∧ w'.cell? ⟨LB, 7, none⟩ = some (.int .i64 (P0 : Nat)) ∧ w'.cell? ⟨LB, 8, none⟩ = some (.int .i64 (P1 : Nat)) ∧ w'.cell? ⟨LB, 9, none⟩ = some (.int .i64 (P1 : Nat)) ∧ w'.cell? ⟨LB, 10, none⟩ = some (.int .i64 (P1 : Nat)) ∧ w'.cell? ⟨w.heap.size, 0, none⟩ = some (Value.int .u64 p) ∧ w'.cell? ⟨w.heap.size, 1, none⟩ = some (.int .i64 (pb : Int)) ∧ w'.cell? ⟨w.heap.size, 2, none⟩ = some (.int .i64 vs) ∧ w'.cell? ⟨w.heap.size, 3, none⟩ = some (.slice u m c) ∧ w'.cell? ⟨w.heap.size, 4, none⟩ = some (.int .i64 (B : Int)) ∧ w'.cell? ⟨w.heap.size, 5, none⟩ = some (.int .i64 bl) ∧ w'.cell? ⟨w.heap.size, 6, none⟩ = some (.int .i64 q) ∧ w'.cell? ⟨w.heap.size, 7, none⟩ = some (.slice (some ⟨bw, ow, none⟩) n 1)) ?fx ?_
        case fx => subst hG; subst hLB; exact ⟨(by repeat (first | exact Below.refl _ _ | refine Below.later ?_ _ | refine Below.box ?_ _ | refine Below.drew ?_ | refine Below.put ?_ (by dsimp only; omega) _)), by simp, by omega, by omega, alloc_at24 (by simp), by simp [go_sem], by simp [go_sem], by simp [go_sem], by simp [go_sem], by simp [go_sem], by simp [go_sem], by simp [go_sem], by simp [go_sem], by simp [go_sem], by simp [go_sem], by simp [go_sem], by simp [go_sem], by simp [go_sem], by simp [go_sem], by simp [go_sem], by simp [go_sem], by simp [go_sem], by simp [go_sem], by simp [go_sem]⟩
        rintro W0 ⟨hB0, hLt, hLG, hwG, hGc, l0, l1, l2, l3, l4, l5, l6, l7, l8, l9, l10, t0, t1, t2, t3, t4, t5, t6, t7⟩
        clear hG hLB cr
        have hlt0 : w.heap.size < W0.heap.size := by
          have := World.block_lt_of_cell? W0 ⟨w.heap.size, 0, none⟩ t0
          exact this
        have hB0 : Kept (Below w.heap.size w W0) := ⟨hB0⟩
        have hS : Kept (∀ w', Below W0.heap.size W0 w' → w'.cell? ⟨LB, 0, none⟩ = some (Value.int .u64 p) ∧ w'.cell? ⟨LB, 1, none⟩ = some (.int .i64 (B : Int)) ∧ w'.cell? ⟨LB, 2, none⟩ = some (.int .i64 q) ∧ w'.cell? ⟨LB, 3, none⟩ = some (.int .i64 K) ∧ w'.cell? ⟨LB, 4, none⟩ = some (.int .i64 NN) ∧ w'.cell? ⟨LB, 5, none⟩ = some (.int .i64 (S : Int)) ∧ w'.cell? ⟨LB, 6, none⟩ = some (.int .i64 (m : Int)) ∧ w'.cell? ⟨LB, 7, none⟩ = some (.int .i64 (P0 : Nat)) ∧ w'.cell? ⟨LB, 8, none⟩ = some (.int .i64 (P1 : Nat)) ∧ w'.cell? ⟨LB, 9, none⟩ = some (.int .i64 (P1 : Nat)) ∧ w'.cell? ⟨LB, 10, none⟩ = some (.int .i64 (P1 : Nat)) ∧ w'.cell? ⟨w.heap.size, 0, none⟩ = some (Value.int .u64 p) ∧ w'.cell? ⟨w.heap.size, 1, none⟩ = some (.int .i64 (pb : Int)) ∧ w'.cell? ⟨w.heap.size, 2, none⟩ = some (.int .i64 vs) ∧ w'.cell? ⟨w.heap.size, 3, none⟩ = some (.slice u m c) ∧ w'.cell? ⟨w.heap.size, 4, none⟩ = some (.int .i64 (B : Int)) ∧ w'.cell? ⟨w.heap.size, 5, none⟩ = some (.int .i64 bl) ∧ w'.cell? ⟨w.heap.size, 6, none⟩ = some (.int .i64 q) ∧ w'.cell? ⟨w.heap.size, 7, none⟩ = some (.slice (some ⟨bw, ow, none⟩) n 1)) := ⟨fun w' hw => by
          have hc : ∀ k v, W0.cell? ⟨LB, k, none⟩ = some v → w'.cell? ⟨LB, k, none⟩ = some v := fun k v h => by rw [hw.cell (p := ⟨LB, k, none⟩) hLt]; exact h
          have hd : ∀ k v, W0.cell? ⟨w.heap.size, k, none⟩ = some v → w'.cell? ⟨w.heap.size, k, none⟩ = some v := fun k v h => by rw [hw.cell (p := ⟨w.heap.size, k, none⟩) hlt0]; exact h
          exact ⟨hc _ _ l0, hc _ _ l1, hc _ _ l2, hc _ _ l3, hc _ _ l4, hc _ _ l5, hc _ _ l6, hc _ _ l7, hc _ _ l8, hc _ _ l9, hc _ _ l10, hd _ _ t0, hd _ _ t1, hd _ _ t2, hd _ _ t3, hd _ _ t4, hd _ _ t5, hd _ _ t6, hd _ _ t7⟩⟩
        have hLX : Kept (Ls W0 (some ⟨G, 0, none⟩) ps) := ⟨by
          have := kp.out
          have := hpb0.out
          have : ps = [] := List.length_eq_zero_iff.1 (by omega)
          rw [this]; exact Ls.nil _ _⟩
        have hSX := hS
        have hBX := hB0
        have hp0 : Kept (0 = pb) := ⟨hpb0.out.symm⟩
        clear hpb0 hpbz
        go_wp2
        go_region_held3 (fun w' => w'.cell? ⟨LB, 0, none⟩ = some (Value.int .u64 p) ∧ w'.cell? ⟨LB, 1, none⟩ = some (.int .i64 (B : Int)) ∧ w'.cell? ⟨LB, 2, none⟩ = some (.int .i64 q) ∧ w'.cell? ⟨LB, 3, none⟩ = some (.int .i64 K) ∧ w'.cell? ⟨LB, 4, none⟩ = some (.int .i64 NN) ∧ w'.cell? ⟨LB, 5, none⟩ = some (.int .i64 (S : Int)) ∧ w'.cell? ⟨LB, 6, none⟩ = some (.int .i64 (m : Int)) ∧ w'.cell? ⟨LB, 7, none⟩ = some (.int .i64 (P0 : Nat)) ∧ w'.cell? ⟨LB, 8, none⟩ = some (.int .i64 (P1 : Nat)) ∧ w'.cell? ⟨LB, 9, none⟩ = some (.int .i64 (P1 : Nat)) ∧ w'.cell? ⟨LB, 10, none⟩ = some (.int .i64 (P1 : Nat)) ∧ w'.cell? ⟨w.heap.size, 0, none⟩ = some (Value.int .u64 p) ∧ w'.cell? ⟨w.heap.size, 1, none⟩ = some (.int .i64 (pb : Int)) ∧ w'.cell? ⟨w.heap.size, 2, none⟩ = some (.int .i64 vs) ∧ w'.cell? ⟨w.heap.size, 3, none⟩ = some (.slice u m c) ∧ w'.cell? ⟨w.heap.size, 4, none⟩ = some (.int .i64 (B : Int)) ∧ w'.cell? ⟨w.heap.size, 5, none⟩ = some (.int .i64 bl) ∧ w'.cell? ⟨w.heap.size, 6, none⟩ = some (.int .i64 q) ∧ w'.cell? ⟨w.heap.size, 7, none⟩ = some (.slice (some ⟨bw, ow, none⟩) n 1))
          (exact hSX.out _ (by repeat (first | with_reducible exact Below.refl _ _ | with_reducible refine Below.later ?_ _ | with_reducible refine Below.drew ?_)))
          (first
            | (go_at_call 14; refine use (co.out _ _ _) ?_; intro pw3)
            | (go_at_call 21; refine use (cc.out 0 hp0.out _ _ _ (Below.next hBX.out (by repeat (first | exact Below.refl _ _ | refine Below.later ?_ _ | refine Below.box ?_ _ | refine Below.drew ?_ | refine Below.put ?_ (by dsimp only; omega) _))) (hLX.out.below (Nat.le_refl _) (by repeat (first | exact Below.refl _ _ | refine Below.later ?_ _ | refine Below.box ?_ _ | refine Below.drew ?_ | refine Below.put ?_ (by dsimp only; omega) _))) _ _) ?_; intro pw4)
            | (go_at_call 22; refine use (cd.out 0 hp0.out _ _ _ (Below.next hBX.out (by repeat (first | exact Below.refl _ _ | refine Below.later ?_ _ | refine Below.box ?_ _ | refine Below.drew ?_ | refine Below.put ?_ (by dsimp only; omega) _))) (hLX.out.below (Nat.le_refl _) (by repeat (first | exact Below.refl _ _ | refine Below.later ?_ _ | refine Below.box ?_ _ | refine Below.drew ?_ | refine Below.put ?_ (by dsimp only; omega) _))) _ _) ?_; intro pw5))
        try with_reducible refine NoPanic.normal ?_
        go_split_ands
        go_wp2
        go_ret
        exact ⟨by simp, Below.next hBX.out (by repeat (first | exact Below.refl _ _ | refine Below.later ?_ _ | refine Below.box ?_ _ | refine Below.drew ?_ | refine Below.put ?_ (by dsimp only; omega) _))⟩
      · have hc0 : ¬ cw - 1 = 0 := by omega
        have hc2 : (cw - 1 == 0) = false := by simp; omega
        go_enter Try.func5, Try.ntmps5
        go_wp2_with (first | (at_builtin; refine Stop.out ?_) | (go_at_call 17; (first | with_reducible refine use1 (cr.out _ (by repeat (first | exact Below.refl _ _ | refine Below.later ?_ _ | refine Below.box ?_ _ | refine Below.drew ?_ | refine Below.put ?_ (by dsimp only; omega) _))) ?_ | with_reducible refine use (cr.out _ (by repeat (first | exact Below.refl _ _ | refine Below.later ?_ _ | refine Below.box ?_ _ | refine Below.drew ?_ | refine Below.put ?_ (by dsimp only; omega) _))) ?_); intro pw1) | (go_at_call 10; (first | with_reducible refine use1 (awake24_c _) ?_ | with_reducible refine use (awake24_c _) ?_); intro pw))
        refine ⟨?_⟩
        obtain ⟨LB, hLB⟩ : ∃ LB, LB = w.heap.size + 1 + pw1.os.size := ⟨_, rfl⟩
        rw [← hLB]
        obtain ⟨G, hG⟩ : ∃ G, G = LB + 1 + pw.os.size := ⟨_, rfl⟩
        rw [← hG]
        refine wpl_gen24 (fun w' => Below w.heap.size w w' ∧ LB < w'.heap.size ∧ LB < G ∧ w.heap.size < G ∧ w'.heap[G]? = some (.cells #[] 22 (0, 0)) ∧ w'.cell? ⟨LB, 0, none⟩ = some (Value.int .u64 p) ∧ w'.cell? ⟨LB, 1, none⟩ = some (.int .i64 (B : Int)) ∧ w'.cell? ⟨LB, 2, none⟩ = some (.int .i64 q) ∧ w'.cell? ⟨LB, 3, none⟩ = some (.int .i64 K) ∧ w'.cell? ⟨LB, 4, none⟩ = some (.int .i64 NN) ∧ w'.cell? ⟨LB, 5, none⟩ = some (.int .i64 (S : Int)) ∧ w'.cell? ⟨LB, 6, none⟩ = some (.int .i64 (m : Int)) ∧ w'.cell? ⟨LB, 7, none⟩ = some (.int .i64 (P0 : Nat)) ∧ w'.cell? ⟨LB, 8, none⟩ = some (.int .i64 (P1 : Nat)) ∧ w'.cell? ⟨LB, 9, none⟩ = some (.int .i64 (P1 : Nat)) ∧ w'.cell? ⟨LB, 10, none⟩ = some (.int .i64 (P1 : Nat)) ∧ w'.cell? ⟨w.heap.size, 0, none⟩ = some (Value.int .u64 p) ∧ w'.cell? ⟨w.heap.size, 1, none⟩ = some (.int .i64 (pb : Int)) ∧ w'.cell? ⟨w.heap.size, 2, none⟩ = some (.int .i64 vs) ∧ w'.cell? ⟨w.heap.size, 3, none⟩ = some (.slice u m c) ∧ w'.cell? ⟨w.heap.size, 4, none⟩ = some (.int .i64 (B : Int)) ∧ w'.cell? ⟨w.heap.size, 5, none⟩ = some (.int .i64 bl) ∧ w'.cell? ⟨w.heap.size, 6, none⟩ = some (.int .i64 q) ∧ w'.cell? ⟨w.heap.size, 7, none⟩ = some (.slice (some ⟨bw, ow, none⟩) n cw)) ?fx ?_
        case fx => subst hG; subst hLB; exact ⟨(by repeat (first | exact Below.refl _ _ | refine Below.later ?_ _ | refine Below.box ?_ _ | refine Below.drew ?_ | refine Below.put ?_ (by dsimp only; omega) _)), by simp, by omega, by omega, alloc_at24 (by simp), by simp [go_sem], by simp [go_sem], by simp [go_sem], by simp [go_sem], by simp [go_sem], by simp [go_sem], by simp [go_sem], by simp [go_sem], by simp [go_sem], by simp [go_sem], by simp [go_sem], by simp [go_sem], by simp [go_sem], by simp [go_sem], by simp [go_sem], by simp [go_sem], by simp [go_sem], by simp [go_sem], by simp [go_sem]⟩
        rintro W0 ⟨hB0, hLt, hLG, hwG, hGc, l0, l1, l2, l3, l4, l5, l6, l7, l8, l9, l10, t0, t1, t2, t3, t4, t5, t6, t7⟩
        clear hG hLB cr
        have hlt0 : w.heap.size < W0.heap.size := by
          have := World.block_lt_of_cell? W0 ⟨w.heap.size, 0, none⟩ t0
          exact this
        have hB0 : Kept (Below w.heap.size w W0) := ⟨hB0⟩
        have hS : Kept (∀ w', Below W0.heap.size W0 w' → w'.cell? ⟨LB, 0, none⟩ = some (Value.int .u64 p) ∧ w'.cell? ⟨LB, 1, none⟩ = some (.int .i64 (B : Int)) ∧ w'.cell? ⟨LB, 2, none⟩ = some (.int .i64 q) ∧ w'.cell? ⟨LB, 3, none⟩ = some (.int .i64 K) ∧ w'.cell? ⟨LB, 4, none⟩ = some (.int .i64 NN) ∧ w'.cell? ⟨LB, 5, none⟩ = some (.int .i64 (S : Int)) ∧ w'.cell? ⟨LB, 6, none⟩ = some (.int .i64 (m : Int)) ∧ w'.cell? ⟨LB, 7, none⟩ = some (.int .i64 (P0 : Nat)) ∧ w'.cell? ⟨LB, 8, none⟩ = some (.int .i64 (P1 : Nat)) ∧ w'.cell? ⟨LB, 9, none⟩ = some (.int .i64 (P1 : Nat)) ∧ w'.cell? ⟨LB, 10, none⟩ = some (.int .i64 (P1 : Nat)) ∧ w'.cell? ⟨w.heap.size, 0, none⟩ = some (Value.int .u64 p) ∧ w'.cell? ⟨w.heap.size, 1, none⟩ = some (.int .i64 (pb : Int)) ∧ w'.cell? ⟨w.heap.size, 2, none⟩ = some (.int .i64 vs) ∧ w'.cell? ⟨w.heap.size, 3, none⟩ = some (.slice u m c) ∧ w'.cell? ⟨w.heap.size, 4, none⟩ = some (.int .i64 (B : Int)) ∧ w'.cell? ⟨w.heap.size, 5, none⟩ = some (.int .i64 bl) ∧ w'.cell? ⟨w.heap.size, 6, none⟩ = some (.int .i64 q) ∧ w'.cell? ⟨w.heap.size, 7, none⟩ = some (.slice (some ⟨bw, ow, none⟩) n cw)) := ⟨fun w' hw => by
          have hc : ∀ k v, W0.cell? ⟨LB, k, none⟩ = some v → w'.cell? ⟨LB, k, none⟩ = some v := fun k v h => by rw [hw.cell (p := ⟨LB, k, none⟩) hLt]; exact h
          have hd : ∀ k v, W0.cell? ⟨w.heap.size, k, none⟩ = some v → w'.cell? ⟨w.heap.size, k, none⟩ = some v := fun k v h => by rw [hw.cell (p := ⟨w.heap.size, k, none⟩) hlt0]; exact h
          exact ⟨hc _ _ l0, hc _ _ l1, hc _ _ l2, hc _ _ l3, hc _ _ l4, hc _ _ l5, hc _ _ l6, hc _ _ l7, hc _ _ l8, hc _ _ l9, hc _ _ l10, hd _ _ t0, hd _ _ t1, hd _ _ t2, hd _ _ t3, hd _ _ t4, hd _ _ t5, hd _ _ t6, hd _ _ t7⟩⟩
        have hsl : Kept (Ls w (some ⟨bw, ow + 1, none⟩) ps) := ⟨by rw [← kps.out]; exact (kL.out.drop 1).takeL pb⟩
        go_wp2_with (first | (at_builtin; refine wpList_append_ls (W := w) rfl _ _ rfl hB0.out G (by omega) rfl hGc _ ps pb _ kp.out rfl (hsl.out.below (Nat.le_refl _) hB0.out) (by intro e; cases e) (by omega) ?_; intro b' cap w' hBw hb hLs hkeep hsz; refine Stop.out ?_))
        refine ⟨?_⟩
        have hLX := (⟨hLs⟩ : Kept _)
        have hBX := (⟨hBw⟩ : Kept _)
        have hSX : Kept (∀ W', Below w'.heap.size w' W' → W'.cell? ⟨LB, 0, none⟩ = some (Value.int .u64 p) ∧ W'.cell? ⟨LB, 1, none⟩ = some (.int .i64 (B : Int)) ∧ W'.cell? ⟨LB, 2, none⟩ = some (.int .i64 q) ∧ W'.cell? ⟨LB, 3, none⟩ = some (.int .i64 K) ∧ W'.cell? ⟨LB, 4, none⟩ = some (.int .i64 NN) ∧ W'.cell? ⟨LB, 5, none⟩ = some (.int .i64 (S : Int)) ∧ W'.cell? ⟨LB, 6, none⟩ = some (.int .i64 (m : Int)) ∧ W'.cell? ⟨LB, 7, none⟩ = some (.int .i64 (P0 : Nat)) ∧ W'.cell? ⟨LB, 8, none⟩ = some (.int .i64 (P1 : Nat)) ∧ W'.cell? ⟨LB, 9, none⟩ = some (.int .i64 (P1 : Nat)) ∧ W'.cell? ⟨LB, 10, none⟩ = some (.int .i64 (P1 : Nat)) ∧ W'.cell? ⟨w.heap.size, 0, none⟩ = some (Value.int .u64 p) ∧ W'.cell? ⟨w.heap.size, 1, none⟩ = some (.int .i64 (pb : Int)) ∧ W'.cell? ⟨w.heap.size, 2, none⟩ = some (.int .i64 vs) ∧ W'.cell? ⟨w.heap.size, 3, none⟩ = some (.slice u m c) ∧ W'.cell? ⟨w.heap.size, 4, none⟩ = some (.int .i64 (B : Int)) ∧ W'.cell? ⟨w.heap.size, 5, none⟩ = some (.int .i64 bl) ∧ W'.cell? ⟨w.heap.size, 6, none⟩ = some (.int .i64 q) ∧ W'.cell? ⟨w.heap.size, 7, none⟩ = some (.slice (some ⟨bw, ow, none⟩) n cw)) := ⟨fun W' hw => by
          have hc : ∀ k v, W0.cell? ⟨LB, k, none⟩ = some v → W'.cell? ⟨LB, k, none⟩ = some v := fun k v h => by
            rw [hw.cell (p := ⟨LB, k, none⟩) (by show LB < w'.heap.size; omega), World.cell?_of_block (w := W0) (a := ⟨LB, k, none⟩) (hkeep LB hLt (by omega))]; exact h
          have hd : ∀ k v, W0.cell? ⟨w.heap.size, k, none⟩ = some v → W'.cell? ⟨w.heap.size, k, none⟩ = some v := fun k v h => by
            rw [hw.cell (p := ⟨w.heap.size, k, none⟩) (by show w.heap.size < w'.heap.size; omega), World.cell?_of_block (w := W0) (a := ⟨w.heap.size, k, none⟩) (hkeep w.heap.size hlt0 (by omega))]; exact h
          exact ⟨hc _ _ l0, hc _ _ l1, hc _ _ l2, hc _ _ l3, hc _ _ l4, hc _ _ l5, hc _ _ l6, hc _ _ l7, hc _ _ l8, hc _ _ l9, hc _ _ l10, hd _ _ t0, hd _ _ t1, hd _ _ t2, hd _ _ t3, hd _ _ t4, hd _ _ t5, hd _ _ t6, hd _ _ t7⟩⟩
        obtain ⟨l0, l1, l2, l3, l4, l5, l6, l7, l8, l9, l10, t0, t1, t2, t3, t4, t5, t6, t7⟩ := hSX.out w' (Below.refl _ _)
        have hLt' : LB < w'.heap.size := by omega
        have hlt0' : w.heap.size < w'.heap.size := by omega
        clear hkeep hsz hLs hBw hGc hS hB0 hsl hlt0 hLt
        go_wp2
        go_region_held3 (fun w' => w'.cell? ⟨LB, 0, none⟩ = some (Value.int .u64 p) ∧ w'.cell? ⟨LB, 1, none⟩ = some (.int .i64 (B : Int)) ∧ w'.cell? ⟨LB, 2, none⟩ = some (.int .i64 q) ∧ w'.cell? ⟨LB, 3, none⟩ = some (.int .i64 K) ∧ w'.cell? ⟨LB, 4, none⟩ = some (.int .i64 NN) ∧ w'.cell? ⟨LB, 5, none⟩ = some (.int .i64 (S : Int)) ∧ w'.cell? ⟨LB, 6, none⟩ = some (.int .i64 (m : Int)) ∧ w'.cell? ⟨LB, 7, none⟩ = some (.int .i64 (P0 : Nat)) ∧ w'.cell? ⟨LB, 8, none⟩ = some (.int .i64 (P1 : Nat)) ∧ w'.cell? ⟨LB, 9, none⟩ = some (.int .i64 (P1 : Nat)) ∧ w'.cell? ⟨LB, 10, none⟩ = some (.int .i64 (P1 : Nat)) ∧ w'.cell? ⟨w.heap.size, 0, none⟩ = some (Value.int .u64 p) ∧ w'.cell? ⟨w.heap.size, 1, none⟩ = some (.int .i64 (pb : Int)) ∧ w'.cell? ⟨w.heap.size, 2, none⟩ = some (.int .i64 vs) ∧ w'.cell? ⟨w.heap.size, 3, none⟩ = some (.slice u m c) ∧ w'.cell? ⟨w.heap.size, 4, none⟩ = some (.int .i64 (B : Int)) ∧ w'.cell? ⟨w.heap.size, 5, none⟩ = some (.int .i64 bl) ∧ w'.cell? ⟨w.heap.size, 6, none⟩ = some (.int .i64 q) ∧ w'.cell? ⟨w.heap.size, 7, none⟩ = some (.slice (some ⟨bw, ow, none⟩) n cw))
          (exact hSX.out _ (by repeat (first | with_reducible exact Below.refl _ _ | with_reducible refine Below.later ?_ _ | with_reducible refine Below.drew ?_)))
          (first
            | (go_at_call 14; refine use (co.out _ _ _) ?_; intro pw3)
            | (go_at_call 21; refine use (cc.out pb rfl _ _ _ (Below.next hBX.out (by repeat (first | exact Below.refl _ _ | refine Below.later ?_ _ | refine Below.box ?_ _ | refine Below.drew ?_ | refine Below.put ?_ (by dsimp only; omega) _))) (hLX.out.below (Nat.le_refl _) (by repeat (first | exact Below.refl _ _ | refine Below.later ?_ _ | refine Below.box ?_ _ | refine Below.drew ?_ | refine Below.put ?_ (by dsimp only; omega) _))) _ _) ?_; intro pw4)
            | (go_at_call 22; refine use (cd.out pb rfl _ _ _ (Below.next hBX.out (by repeat (first | exact Below.refl _ _ | refine Below.later ?_ _ | refine Below.box ?_ _ | refine Below.drew ?_ | refine Below.put ?_ (by dsimp only; omega) _))) (hLX.out.below (Nat.le_refl _) (by repeat (first | exact Below.refl _ _ | refine Below.later ?_ _ | refine Below.box ?_ _ | refine Below.drew ?_ | refine Below.put ?_ (by dsimp only; omega) _))) _ _) ?_; intro pw5))
        try with_reducible refine NoPanic.normal ?_
        go_split_ands
        go_wp2
        go_ret
        exact ⟨by simp, Below.next hBX.out (by repeat (first | exact Below.refl _ _ | refine Below.later ?_ _ | refine Below.box ?_ _ | refine Below.drew ?_ | refine Below.put ?_ (by dsimp only; omega) _))⟩
    · have hr2 : decide (rho ≥ p) = true := by simp; omega
      have hr3 : decide (p ≤ rho) = true := by simp; omega
      go_enter Try.func5, Try.ntmps5
      go_wp2_with (first | (go_at_call 17; (first | with_reducible refine use1 (cr.out _ (by repeat (first | exact Below.refl _ _ | refine Below.later ?_ _ | refine Below.box ?_ _ | refine Below.drew ?_ | refine Below.put ?_ (by dsimp only; omega) _))) ?_ | with_reducible refine use (cr.out _ (by repeat (first | exact Below.refl _ _ | refine Below.later ?_ _ | refine Below.box ?_ _ | refine Below.drew ?_ | refine Below.put ?_ (by dsimp only; omega) _))) ?_); intro pw) | (go_at_call 10; (first | with_reducible refine use1 (awake24_c _) ?_ | with_reducible refine use (awake24_c _) ?_); intro pw))
      go_ret
      exact ⟨rfl, (by repeat (first | exact Below.refl _ _ | refine Below.later ?_ _ | refine Below.box ?_ _ | refine Below.drew ?_ | refine Below.put ?_ (by dsimp only; omega) _))⟩

set_option maxRecDepth 100000 in
theorem lifted (os : Os) (started : os.Started) (H : Type) (enc : TypeId × Value → H) :
    ReturnsInHanded {} Try.checked os 5 .any (Rows.layoutTargetSpec.pre6 enc Try.prog Try.f5 Rows.layoutTargetRow.domain false) (Rows.layoutTargetSpec.post enc Try.prog Try.f5 false true false false) := by
  refine returnsInHanded_of_change (C := Try.checked) own started (by kernel_rfl) Try.func5
    (ChangeSpec.witness6 (enc := enc) (C := Try.checked) false ⟨#[], #[.agg #[.int .u64 0, .int .i64 0, .int .i64 0, .slice none 0 0, .int .i64 0, .int .i64 0, .int .i64 0, .slice none 0 0], .int .u64 0], []⟩ 8 (by kernel_rfl) (by kernel_rfl) (by kernel_rfl) (by kernel_rfl)) ?_
  intro W base args ds gs before hval0 hW hcnd _
  have hval : ∀ (j : Nat) t v, Try.f5.params[j]? = some t → args[j]? = some v → Value.okWide Try.prog W .any base t v := hval0
  have hW0 : DataW.Whole enc Try.prog Try.f5.params.toList Rows.layoutTargetSpec.vars false W args.toList ds gs before := hW
  obtain ⟨p, q, hA0, hV, rfl, _, _⟩ := hW
  have hA : DataW.TrodAll enc Try.prog W 0 (fun _ => true) true Try.f5.params.toList args.toList ds p := hA0
  rw [Try.params5] at hA hval
  obtain ⟨v0, vs0, d0, ds0, p0, q0, hargs, rfl, rfl, h0, r0⟩ := trodAll_cons hA
  obtain ⟨v1, vs1, d1, ds1, p1, q1, rfl, rfl, rfl, h1, r1⟩ := trodAll_cons r0
  obtain ⟨rfl, rfl, rfl⟩ := trodAll_nil r1
  obtain rfl : args = #[v0, v1] := by cases args; simp_all
  obtain ⟨rfl, rfl⟩ := trodVars_none hV
  obtain ⟨a0x, a0y, a0z, a0u, a0v, a0t, a0r, a0s, a0q, a0o, a0m, a0k, rfl, u0⟩ := open_case2 (hval 0 45 v0 rfl rfl) h0
  obtain ⟨a1, rfl, u1⟩ := open_u64 (hval 1 22 v1 rfl rfl)
  clear hA0 hval0
  refine (walk W a0x a0y a0z a0u a0v a0t a0r a0s a0q a0o a0m a0k u0 a1 u1).mono fun e W' ⟨he, hb⟩ => ⟨.bool true, he, ?_⟩
  exact law_post (fun t ht => by have ht' : t ∈ [45, 22] := ht; simp only [List.mem_cons, List.not_mem_nil, or_false] at ht'; rcases ht' with rfl | rfl <;> exact ⟨by kernel_rfl, of_decide_eq_true (by kernel_rfl)⟩) rfl rfl hW0 rfl hb

theorem over : Rows.layoutTargetRow.holds Try.pinned (OpenSpec.ofChange Rows.layoutTargetSpec) :=
  OpenClaim.holds_of_wide 5 Try.f5 rfl rfl rfl rfl rfl rfl rfl ⟨rfl, rfl, rfl, rfl, rfl⟩ rfl rfl rfl rfl rfl (by kernel_rfl) Try.func5 (by kernel_rfl)
    (of_decide_eq_true (by kernel_rfl)) (by unfold Func.isWrapper; first | (rw [if_pos (by decide +kernel)]; kernel_rfl) | (rw [if_neg (by decide +kernel)]; exact ⟨rfl, rfl⟩))
    (fun os started H enc _ => lifted os started H enc)

/-- The statement. -/
theorem proved : Rows.LayoutTargetSaid := over
#print axioms proved
end Go.Proofs.Ytpkjlnelkacbgaa.layoutTarget
