/- LayoutConsistent: for any case and any rho the call returns true: where the case is right (up to 100 rows) and rho is less than P, the sum of the products of coefficients and messages is the target; others are passed over. No condition. -/
import Derived.Test.YtpkjlnelkacbgaaHL24c
import Derived.Deep.RegionHeld3
import Derived.Test.YtpkjlnelkacbgaaHLms
namespace Go.Proofs.Ytpkjlnelkacbgaa.layoutConsistent
open Go.ChangeShapes Go.WideShapes Go.ChangeAt Go.RowKit Go.Sort

set_option maxRecDepth 100000
set_option maxHeartbeats 8000000 in
theorem walk (w : World) (p pub vs : Int) (u : Option Addr) (c : Nat) (rs : List Rw) (b bl q : Int) (uw : Option Addr) (l : List Int) (cw : Nat)
    (h : U p ∧ I pub ∧ I vs ∧ Rws w u rs ∧ I b ∧ I bl ∧ I q ∧ Ls w uw l ∧ (uw = none → cw = 0) ∧ l.length ≤ cw) (rho : Int) (hrho : U rho) :
    Calls Try.prog 7 #[.agg #[.int .u64 p, .int .i64 pub, .int .i64 vs, .slice u rs.length c, .int .i64 b, .int .i64 bl, .int .i64 q, .slice uw l.length cw], .int .u64 rho] w (Gives (.bool true) w) := by
  obtain ⟨hU, _, _, hR, _, _, _, hL, _, hcw⟩ := h
  have hs1 := hR.small
  have hs2 := hL.small
  rcases right24_c p pub vs b bl q 100 u c rs uw cw l w hR hL with h0 | ⟨pb, B, S, P0, P1, K, NN, rfl, rfl, y, h0⟩
  · have cr := (⟨h0⟩ : Kept _)
    clear h0 hR hL
    generalize rs.length = m at *
    generalize l.length = n at *
    go_enter Try.func7, Try.ntmps7
    go_wp2_with (first | (go_at_call 17; (first | with_reducible refine use1 (cr.out _ (by repeat (first | exact Below.refl _ _ | refine Below.later ?_ _ | refine Below.box ?_ _ | refine Below.drew ?_ | refine Below.put ?_ (by dsimp only; omega) _))) ?_ | with_reducible refine use (cr.out _ (by repeat (first | exact Below.refl _ _ | refine Below.later ?_ _ | refine Below.box ?_ _ | refine Below.drew ?_ | refine Below.put ?_ (by dsimp only; omega) _))) ?_); intro pw) | (go_at_call 10; (first | with_reducible refine use1 (awake24_c _) ?_ | with_reducible refine use (awake24_c _) ?_); intro pw))
    go_ret
    exact ⟨rfl, (by repeat (first | exact Below.refl _ _ | refine Below.later ?_ _ | refine Below.box ?_ _ | refine Below.drew ?_ | refine Below.put ?_ (by dsimp only; omega) _))⟩
  · have cr := (⟨h0⟩ : Kept _)
    have hls := y.hls
    have hpb : pb ≤ 65536 := by have := y.hl; have := y.hvs; omega
    obtain ⟨bw, ow, rfl⟩ : ∃ bw ow, uw = some ⟨bw, ow, none⟩ := by
      obtain ⟨bw, ow, e, _⟩ := hL.mem (fun e => by subst e; simp at hls; omega)
      exact ⟨bw, ow, e⟩
    have hgood := rCuts_good (p := p) (l := l) (rs := rs) (pb := pb) (B := B) (P0 := P0) (P1 := P1) (by have := vld_pos y.vld; omega) y.lt
    have cm : Kept (∀ w', Below w.heap.size w w' → ∀ K NN : Int, Calls Try.prog 23 #[.agg #[.int .u64 p, .int .i64 (B : Int), .int .i64 q, .int .i64 K, .int .i64 NN, .int .i64 (S : Int), .int .i64 rs.length, .int .i64 (P0 : Nat), .int .i64 (P1 : Nat), .int .i64 (P1 : Nat), .int .i64 (P1 : Nat)], .agg #[.int .u64 p, .int .i64 pb, .int .i64 vs, .slice u rs.length c], .slice (some ⟨bw, ow, none⟩) l.length cw] w' (GivesMat (rCuts p l rs pb B P0 P1) w')) := ⟨fun w' hw K NN => by
      have := lmessages_c B P0 P1 S p q K NN vs u c rs (some ⟨bw, ow, none⟩) cw l pb w' y.vld y.hB y.hm16 y.hS y.hvs y.hP0 y.hP1 (hR.below (Nat.le_refl _) hw) (hL.below (Nat.le_refl _) hw) y.hl hcw
      rw [lcuts_eq y.hls (upl_int y.hB.1 y.hP0) (upl_int y.hB.1 y.hP1)] at this
      exact this⟩
    have cf : Kept (∀ w', Below w.heap.size w w' → ∀ K NN : Int, Calls Try.prog 19 #[.agg #[.int .u64 p, .int .i64 (B : Int), .int .i64 q, .int .i64 K, .int .i64 NN, .int .i64 (S : Int), .int .i64 rs.length, .int .i64 (P0 : Nat), .int .i64 (P1 : Nat), .int .i64 (P1 : Nat), .int .i64 (P1 : Nat)], .agg #[.int .u64 p, .int .i64 pb, .int .i64 vs, .slice u rs.length c], .int .u64 rho] w' (GivesMat (cofM p pb rs B P0 P1 S rho) w')) := ⟨fun w' hw K NN => y.coefs (hR.below (Nat.le_refl _) hw) K NN c rho hrho⟩
    have hlin := y.lin rho
    have hps : ((l.drop 1).take pb).length = pb := by rw [List.length_take, List.length_drop]; omega
    have cc : Kept (∀ nb : Nat, nb = pb → ∀ w' u' cp, Below w.heap.size w w' → Ls w' u' ((l.drop 1).take pb) → (u' = none → cp = 0) → ∀ K NN : Int, Calls Try.prog 21 #[.agg #[.int .u64 p, .int .i64 (B : Int), .int .i64 q, .int .i64 K, .int .i64 NN, .int .i64 (S : Int), .int .i64 rs.length, .int .i64 (P0 : Nat), .int .i64 (P1 : Nat), .int .i64 (P1 : Nat), .int .i64 (P1 : Nat)], .agg #[.int .u64 p, .int .i64 pb, .int .i64 vs, .slice u rs.length c], .slice u' nb cp, .int .u64 rho] w' (Gives (.int .u64 (tgV p rho (1 :: (l.drop 1).take pb) rs rs.length)) w')) := ⟨fun nb hnb w' u' cp hw hLs hcp K NN => by
      rw [hnb]
      have := y.target (hR.below (Nat.le_refl _) hw) K NN c u' cp ((l.drop 1).take pb) hLs (by omega) hcp rho hrho
      rw [hps] at this; exact this⟩
    obtain ⟨N, hN⟩ : ∃ N, P0 + P1 + P1 + P1 = N := ⟨_, rfl⟩
    have hN6 : N ≤ 280000 := by have := y.p0; have := y.p1; omega
    have ct : Kept (∀ w', ∀ K NN : Int, Calls Try.prog 16 #[.agg #[.int .u64 p, .int .i64 (B : Int), .int .i64 q, .int .i64 K, .int .i64 NN, .int .i64 (S : Int), .int .i64 rs.length, .int .i64 (P0 : Nat), .int .i64 (P1 : Nat), .int .i64 (P1 : Nat), .int .i64 (P1 : Nat)]] w' (Gives (.int .i64 (N : Int)) w')) := ⟨fun w' K NN => by
      have h0 := y.p0
      have h1 := y.p1
      have := rtotal_c p B q K NN S rs.length P0 P1 P1 P1 w' (by omega) (by omega) (by omega) (by omega)
      rw [show (P0 : Int) + (P1 : Int) + (P1 : Int) + (P1 : Int) = (N : Int) by omega] at this
      exact this⟩
    have hdr : ∀ l' ∈ cofM p pb rs B P0 P1 S rho, l'.length = B := fun l' hl' => cuts_row 4 l' hl'
    have hdl : (cofM p pb rs B P0 P1 S rho).length = N := by rw [cofM_len, hN]
    have hcl : (rCuts p l rs pb B P0 P1).length = N := by rw [hgood.len, hN]
    have hcr := hgood.row
    rw [← msum_comm y.vld hcr hdr hcl hdl] at hlin
    clear hgood
    generalize rCuts p l rs pb B P0 P1 = C at *
    generalize cofM p pb rs B P0 P1 S rho = D at *
    generalize tgV p rho (1 :: (l.drop 1).take pb) rs rs.length = TV at *
    have hB6 := y.hB
    have kh : Kept (C.length = N ∧ D.length = N ∧ (∀ l' ∈ C, l'.length = B) ∧ (∀ l' ∈ D, l'.length = B)) := ⟨⟨hcl, hdl, hcr, hdr⟩⟩
    have csm : Kept (∀ w' u1 u2 c1 c2, Mt w' u1 C → Mt w' u2 D → Calls Try.prog 25 #[.int .u64 p, .slice u1 N c1, .slice u2 N c2] w' (Gives (.int .u64 TV) w')) := ⟨fun w' u1 u2 c1 c2 h1 h2 => by
      have := sum_c p u1 u2 c1 c2 N C D w' h1 h2 hcl hdl
      rw [hlin] at this; exact this⟩
    have co : Kept (∀ w' K NN, Calls Try.prog 14 #[.agg #[.int .u64 p, .int .i64 B, .int .i64 q, .int .i64 K, .int .i64 NN, .int .i64 S, .int .i64 rs.length, .int .i64 P0, .int .i64 P1, .int .i64 P1, .int .i64 P1]] w' (Gives (.agg #[.int .u64 p, .int .i64 B, .int .i64 q, .int .i64 K, .int .i64 NN, .int .i64 S, .int .i64 rs.length, .int .i64 P0, .int .i64 P1, .int .i64 P1, .int .i64 P1]) w')) := ⟨fun w' K NN => own24_c _ _ _ _ _ _ _ _ _ _ _ w'⟩
    have kL : Kept (Ls w (some ⟨bw, ow, none⟩) l) := ⟨hL⟩
    have hn1 : (1 : Int) + (pb : Int) ≤ (cw : Int) := by omega
    have hw1 : IntKind.i64.wrap (1 + (pb : Int)) = 1 + (pb : Int) := by rw [IntKind.wrap_i64]; omega
    have hw2 : (0 : Int) ≤ 1 + (pb : Int) := by omega
    have hw4 : (1 + (pb : Int)).toNat = 1 + pb := by omega
    have hw5 : (1 : Int) ≤ 1 + (pb : Int) := by omega
    have hl1 : 1 + pb ≤ l.length := by omega
    have hpbz : Kept (cw = 1 → pb = 0) := ⟨fun e => by omega⟩
    clear h0 hR hL y hls hps hlin hdr hdl hcl hcr hN hcw
    generalize rs.length = m at *
    generalize l.length = n at *
    by_cases hr : rho < p
    · have hr2 : decide (rho ≥ p) = false := by simp; omega
      have hr3 : decide (p ≤ rho) = false := by simp; omega
      by_cases hc1 : cw = 1
      · have hpb0 := (⟨hpbz.out hc1⟩ : Kept _)
        subst hc1
        have hn1' : (1 : Int) + (pb : Int) ≤ 1 := by omega
        have hn2' : 1 + pb ≤ 1 := by omega
        have hLs0 : Kept (∀ w', Ls w' (some ⟨bw, ow, none⟩) ((l.drop 1).take pb)) := ⟨fun w' => by rw [hpb0.out]; exact Ls.nil _ _⟩
        go_enter Try.func7, Try.ntmps7
        go_wp2_with (first | (go_at_call 17; (first | with_reducible refine use1 (cr.out _ (by repeat (first | exact Below.refl _ _ | refine Below.later ?_ _ | refine Below.box ?_ _ | refine Below.drew ?_ | refine Below.put ?_ (by dsimp only; omega) _))) ?_ | with_reducible refine use (cr.out _ (by repeat (first | exact Below.refl _ _ | refine Below.later ?_ _ | refine Below.box ?_ _ | refine Below.drew ?_ | refine Below.put ?_ (by dsimp only; omega) _))) ?_); intro pw1) | (go_at_call 10; (first | with_reducible refine use1 (awake24_c _) ?_ | with_reducible refine use (awake24_c _) ?_); intro pw))
        obtain ⟨LB, hLB⟩ : ∃ LB, LB = w.heap.size + 1 + pw1.os.size := ⟨_, rfl⟩
        rw [← hLB]
        refine wp_gen24 (fun w' => Below w.heap.size w w' ∧ LB < w'.heap.size ∧ w'.cell? ⟨LB, 0, none⟩ = some (Value.int .u64 p) ∧ w'.cell? ⟨LB, 1, none⟩ = some (.int .i64 (B : Int)) ∧ w'.cell? ⟨LB, 2, none⟩ = some (.int .i64 q) ∧ w'.cell? ⟨LB, 3, none⟩ = some (.int .i64 K) ∧ w'.cell? ⟨LB, 4, none⟩ = some (.int .i64 NN) ∧ w'.cell? ⟨LB, 5, none⟩ = some (.int .i64 (S : Int)) ∧ w'.cell? ⟨LB, 6, none⟩ = some (.int .i64 (m : Int)) ∧ w'.cell? ⟨LB, 7, none⟩ = some (.int .i64 (P0 : Nat)) ∧ w'.cell? ⟨LB, 8, none⟩ = some (.int .i64 (P1 : Nat)) ∧ w'.cell? ⟨LB, 9, none⟩ = some (.int .i64 (P1 : Nat)) ∧ w'.cell? ⟨LB, 10, none⟩ = some (.int .i64 (P1 : Nat)) ∧ w'.cell? ⟨w.heap.size, 0, none⟩ = some (Value.int .u64 p) ∧ w'.cell? ⟨w.heap.size, 1, none⟩ = some (.int .i64 (pb : Int)) ∧ w'.cell? ⟨w.heap.size, 2, none⟩ = some (.int .i64 vs) ∧ w'.cell? ⟨w.heap.size, 3, none⟩ = some (.slice u m c) ∧ w'.cell? ⟨w.heap.size, 4, none⟩ = some (.int .i64 (B : Int)) ∧ w'.cell? ⟨w.heap.size, 5, none⟩ = some (.int .i64 bl) ∧ w'.cell? ⟨w.heap.size, 6, none⟩ = some (.int .i64 q) ∧ w'.cell? ⟨w.heap.size, 7, none⟩ = some (.slice (some ⟨bw, ow, none⟩) n 1)) ?fx ?_
        case fx => subst hLB; exact ⟨(by repeat (first | exact Below.refl _ _ | refine Below.later ?_ _ | refine Below.box ?_ _ | refine Below.drew ?_ | refine Below.put ?_ (by dsimp only; omega) _)), by simp, by simp [go_sem], by simp [go_sem], by simp [go_sem], by simp [go_sem], by simp [go_sem], by simp [go_sem], by simp [go_sem], by simp [go_sem], by simp [go_sem], by simp [go_sem], by simp [go_sem], by simp [go_sem], by simp [go_sem], by simp [go_sem], by simp [go_sem], by simp [go_sem], by simp [go_sem], by simp [go_sem], by simp [go_sem]⟩
        rintro W0 ⟨hB0, hLt, l0, l1, l2, l3, l4, l5, l6, l7, l8, l9, l10, t0, t1, t2, t3, t4, t5, t6, t7⟩
        clear hLB cr
        have hlt0 : w.heap.size < W0.heap.size := by
          have := World.block_lt_of_cell? W0 ⟨w.heap.size, 0, none⟩ t0
          exact this
        have hB0 : Kept (Below w.heap.size w W0) := ⟨hB0⟩
        have hS : Kept (∀ w', Below W0.heap.size W0 w' → w'.cell? ⟨LB, 0, none⟩ = some (Value.int .u64 p) ∧ w'.cell? ⟨LB, 1, none⟩ = some (.int .i64 (B : Int)) ∧ w'.cell? ⟨LB, 2, none⟩ = some (.int .i64 q) ∧ w'.cell? ⟨LB, 3, none⟩ = some (.int .i64 K) ∧ w'.cell? ⟨LB, 4, none⟩ = some (.int .i64 NN) ∧ w'.cell? ⟨LB, 5, none⟩ = some (.int .i64 (S : Int)) ∧ w'.cell? ⟨LB, 6, none⟩ = some (.int .i64 (m : Int)) ∧ w'.cell? ⟨LB, 7, none⟩ = some (.int .i64 (P0 : Nat)) ∧ w'.cell? ⟨LB, 8, none⟩ = some (.int .i64 (P1 : Nat)) ∧ w'.cell? ⟨LB, 9, none⟩ = some (.int .i64 (P1 : Nat)) ∧ w'.cell? ⟨LB, 10, none⟩ = some (.int .i64 (P1 : Nat)) ∧ w'.cell? ⟨w.heap.size, 0, none⟩ = some (Value.int .u64 p) ∧ w'.cell? ⟨w.heap.size, 1, none⟩ = some (.int .i64 (pb : Int)) ∧ w'.cell? ⟨w.heap.size, 2, none⟩ = some (.int .i64 vs) ∧ w'.cell? ⟨w.heap.size, 3, none⟩ = some (.slice u m c) ∧ w'.cell? ⟨w.heap.size, 4, none⟩ = some (.int .i64 (B : Int)) ∧ w'.cell? ⟨w.heap.size, 5, none⟩ = some (.int .i64 bl) ∧ w'.cell? ⟨w.heap.size, 6, none⟩ = some (.int .i64 q) ∧ w'.cell? ⟨w.heap.size, 7, none⟩ = some (.slice (some ⟨bw, ow, none⟩) n 1)) := ⟨fun w' hw => by
          have hc : ∀ k v, W0.cell? ⟨LB, k, none⟩ = some v → w'.cell? ⟨LB, k, none⟩ = some v := fun k v h => by rw [hw.cell (p := ⟨LB, k, none⟩) hLt]; exact h
          have hd : ∀ k v, W0.cell? ⟨w.heap.size, k, none⟩ = some v → w'.cell? ⟨w.heap.size, k, none⟩ = some v := fun k v h => by rw [hw.cell (p := ⟨w.heap.size, k, none⟩) hlt0]; exact h
          exact ⟨hc _ _ l0, hc _ _ l1, hc _ _ l2, hc _ _ l3, hc _ _ l4, hc _ _ l5, hc _ _ l6, hc _ _ l7, hc _ _ l8, hc _ _ l9, hc _ _ l10, hd _ _ t0, hd _ _ t1, hd _ _ t2, hd _ _ t3, hd _ _ t4, hd _ _ t5, hd _ _ t6, hd _ _ t7⟩⟩
        go_region_held3 (fun w' => w'.cell? ⟨LB, 0, none⟩ = some (Value.int .u64 p) ∧ w'.cell? ⟨LB, 1, none⟩ = some (.int .i64 (B : Int)) ∧ w'.cell? ⟨LB, 2, none⟩ = some (.int .i64 q) ∧ w'.cell? ⟨LB, 3, none⟩ = some (.int .i64 K) ∧ w'.cell? ⟨LB, 4, none⟩ = some (.int .i64 NN) ∧ w'.cell? ⟨LB, 5, none⟩ = some (.int .i64 (S : Int)) ∧ w'.cell? ⟨LB, 6, none⟩ = some (.int .i64 (m : Int)) ∧ w'.cell? ⟨LB, 7, none⟩ = some (.int .i64 (P0 : Nat)) ∧ w'.cell? ⟨LB, 8, none⟩ = some (.int .i64 (P1 : Nat)) ∧ w'.cell? ⟨LB, 9, none⟩ = some (.int .i64 (P1 : Nat)) ∧ w'.cell? ⟨LB, 10, none⟩ = some (.int .i64 (P1 : Nat)) ∧ w'.cell? ⟨w.heap.size, 0, none⟩ = some (Value.int .u64 p) ∧ w'.cell? ⟨w.heap.size, 1, none⟩ = some (.int .i64 (pb : Int)) ∧ w'.cell? ⟨w.heap.size, 2, none⟩ = some (.int .i64 vs) ∧ w'.cell? ⟨w.heap.size, 3, none⟩ = some (.slice u m c) ∧ w'.cell? ⟨w.heap.size, 4, none⟩ = some (.int .i64 (B : Int)) ∧ w'.cell? ⟨w.heap.size, 5, none⟩ = some (.int .i64 bl) ∧ w'.cell? ⟨w.heap.size, 6, none⟩ = some (.int .i64 q) ∧ w'.cell? ⟨w.heap.size, 7, none⟩ = some (.slice (some ⟨bw, ow, none⟩) n 1))
          (first | with_reducible exact hS.out _ hMb | with_reducible exact hS.out _ hMc | with_reducible exact hS.out _ (Below.later hMb _) | exact hS.out _ (by repeat (first | with_reducible exact Below.refl _ _ | with_reducible refine Below.later ?_ _ | with_reducible refine Below.drew ?_)))
          (first
            | (go_at_call 14; refine use (co.out _ _ _) ?_; intro pw3)
            | (go_at_call 23; refine (cm.out _ (Below.next hB0.out (by repeat (first | exact Below.refl _ _ | refine Below.later ?_ _ | refine Below.box ?_ _ | refine Below.drew ?_ | refine Below.put ?_ (by dsimp only; omega) _))) _ _).mono ?_; rintro e w4 ⟨vm, bs, rfl, hM⟩; replace hM := hM.base (W := W0) (by repeat (first | exact Below.refl _ _ | refine Below.later ?_ _ | refine Below.box ?_ _ | refine Below.drew ?_ | refine Below.put ?_ (by dsimp only; omega) _)); obtain ⟨u2, c2, rfl, _⟩ := hM.grown.form; rw [kh.out.1] at hM; rw [kh.out.1]; have hMb := hM.grown.below)
            | (go_at_call 19; refine (cf.out _ (Below.next hB0.out (Below.later hMb _)) _ _).mono ?_; rintro e w5 ⟨vm, bs2, rfl, hM2⟩; obtain ⟨u3, c3, rfl, _⟩ := hM2.grown.form; rw [kh.out.2.1] at hM2; rw [kh.out.2.1]; replace hM := hM.later pw3; have hMc := Below.next (Below.later hMb pw3) hM2.grown.below))
        all_goals (
          try with_reducible refine NoPanic.normal ?_
          go_split_ands
          have hX : Kept (Below w.heap.size w w5) := ⟨Below.next hB0.out hMc⟩
          have hm1 := (⟨(hM.mt (by rw [kh.out.1]; omega) (fun l' hl' => by rw [kh.out.2.2.1 l' hl']; omega)).2.below (Nat.le_refl _) hM2.grown.below⟩ : Kept (Mt w5 u2 C))
          have hm2 := (⟨(hM2.mt (by rw [kh.out.2.1]; omega) (fun l' hl' => by rw [kh.out.2.2.2 l' hl']; omega)).2⟩ : Kept (Mt w5 u3 D))
          have k1 := (⟨hm1.out.get kh.out.1⟩ : Kept _)
          have k2 := (⟨hm2.out.get kh.out.2.1⟩ : Kept _)
          obtain ⟨l0, l1, l2, l3, l4, l5, l6, l7, l8, l9, l10, t0, t1, t2, t3, t4, t5, t6, t7⟩ := hS.out w5 hMc
          have hsz5 := hMc.size
          have hLt5 : LB < w5.heap.size := by omega
          have hlt5 : w.heap.size < w5.heap.size := by omega
          clear hM hM2 hMb hMc hS hsz5 hLt hlt0
          go_wp2_with (first | (go_at_call 16; (first | with_reducible refine use1 (ct.out _ _ _) ?_ | with_reducible refine use (ct.out _ _ _) ?_); intro pw))
          go_loopw [55] (fun v wr => ∃ (i : Nat) (q' : Regrown), v = .int .i64 (i : Int) ∧ wr = after w5 q' ∧ i ≤ N) (fun v _ => (N : Int).toNat - (intOf v).toNat)
          case atStart => exact ⟨0, _, rfl, rfl, by omega⟩
          case round =>
            obtain ⟨i, q', rfl, rfl, hi⟩ := hrel
            by_cases h : i < N
            · obtain ⟨b1, o1, x1, v1, d1, rfl, hx1, hb1, hc1', hL1⟩ := k1.out i h
              obtain ⟨b2, o2, x2, v2, d2, rfl, hx2, hb2, hc2', hL2⟩ := k2.out i h
              rw [kh.out.2.2.1 x1 (List.mem_of_getElem? hx1)] at hc1'
              rw [kh.out.2.2.2 x2 (List.mem_of_getElem? hx2)] at hc2'
              clear hx1 hx2 hL1 hL2 k1 k2 hm1 hm2
              go_wp2
              first | refine region_quiet1 (by kernel_rfl) ?_ | refine region_quiet (by kernel_rfl) ?_
              repeat (go_big_quiet_step (first | fail))
              refine wpQuiet_nil ?_
              intro _
              go_wp2
              go_roundw
              case rel => exact ⟨i + 1, _, by go_num, rfl, by omega⟩
              case measure => first | (simp [intOf]; omega) | (simp [intOf]; done)
            · clear k1 k2
              go_wp2
              first | refine region_quiet1 (by kernel_rfl) ?_ | refine region_quiet (by kernel_rfl) ?_
              repeat (go_big_quiet_step (first | (go_at_call 25; with_reducible exact quiet (csm.out _ u2 u3 c2 c3 (hm1.out.below (Nat.le_refl _) (by repeat (first | exact Below.refl _ _ | refine Below.later ?_ _ | refine Below.box ?_ _ | refine Below.drew ?_ | refine Below.put ?_ (by dsimp only; omega) _))) (hm2.out.below (Nat.le_refl _) (by repeat (first | exact Below.refl _ _ | refine Below.later ?_ _ | refine Below.box ?_ _ | refine Below.drew ?_ | refine Below.put ?_ (by dsimp only; omega) _))))) | (go_at_call 14; with_reducible exact quiet (co.out _ _ _)) | (go_at_call 21; with_reducible exact quiet (cc.out 0 hpb0.out.symm _ (some ⟨bw, ow, none⟩) 0 (Below.next hX.out (by repeat (first | exact Below.refl _ _ | refine Below.later ?_ _ | refine Below.box ?_ _ | refine Below.drew ?_ | refine Below.put ?_ (by dsimp only; omega) _))) (hLs0.out _) (by intro e; cases e) _ _))))
              refine wpQuiet_nil ?_
              intro _
              go_wp2
              go_ret
              exact ⟨by simp, Below.next hX.out (by repeat (first | exact Below.refl _ _ | refine Below.later ?_ _ | refine Below.box ?_ _ | refine Below.drew ?_ | refine Below.put ?_ (by dsimp only; omega) _))⟩)
      · have hc0 : ¬ cw - 1 = 0 := by omega
        have hc2 : (cw - 1 == 0) = false := by simp; omega
        go_enter Try.func7, Try.ntmps7
        go_wp2_with (first | (go_at_call 17; (first | with_reducible refine use1 (cr.out _ (by repeat (first | exact Below.refl _ _ | refine Below.later ?_ _ | refine Below.box ?_ _ | refine Below.drew ?_ | refine Below.put ?_ (by dsimp only; omega) _))) ?_ | with_reducible refine use (cr.out _ (by repeat (first | exact Below.refl _ _ | refine Below.later ?_ _ | refine Below.box ?_ _ | refine Below.drew ?_ | refine Below.put ?_ (by dsimp only; omega) _))) ?_); intro pw1) | (go_at_call 10; (first | with_reducible refine use1 (awake24_c _) ?_ | with_reducible refine use (awake24_c _) ?_); intro pw))
        obtain ⟨LB, hLB⟩ : ∃ LB, LB = w.heap.size + 1 + pw1.os.size := ⟨_, rfl⟩
        rw [← hLB]
        refine wp_gen24 (fun w' => Below w.heap.size w w' ∧ LB < w'.heap.size ∧ w'.cell? ⟨LB, 0, none⟩ = some (Value.int .u64 p) ∧ w'.cell? ⟨LB, 1, none⟩ = some (.int .i64 (B : Int)) ∧ w'.cell? ⟨LB, 2, none⟩ = some (.int .i64 q) ∧ w'.cell? ⟨LB, 3, none⟩ = some (.int .i64 K) ∧ w'.cell? ⟨LB, 4, none⟩ = some (.int .i64 NN) ∧ w'.cell? ⟨LB, 5, none⟩ = some (.int .i64 (S : Int)) ∧ w'.cell? ⟨LB, 6, none⟩ = some (.int .i64 (m : Int)) ∧ w'.cell? ⟨LB, 7, none⟩ = some (.int .i64 (P0 : Nat)) ∧ w'.cell? ⟨LB, 8, none⟩ = some (.int .i64 (P1 : Nat)) ∧ w'.cell? ⟨LB, 9, none⟩ = some (.int .i64 (P1 : Nat)) ∧ w'.cell? ⟨LB, 10, none⟩ = some (.int .i64 (P1 : Nat)) ∧ w'.cell? ⟨w.heap.size, 0, none⟩ = some (Value.int .u64 p) ∧ w'.cell? ⟨w.heap.size, 1, none⟩ = some (.int .i64 (pb : Int)) ∧ w'.cell? ⟨w.heap.size, 2, none⟩ = some (.int .i64 vs) ∧ w'.cell? ⟨w.heap.size, 3, none⟩ = some (.slice u m c) ∧ w'.cell? ⟨w.heap.size, 4, none⟩ = some (.int .i64 (B : Int)) ∧ w'.cell? ⟨w.heap.size, 5, none⟩ = some (.int .i64 bl) ∧ w'.cell? ⟨w.heap.size, 6, none⟩ = some (.int .i64 q) ∧ w'.cell? ⟨w.heap.size, 7, none⟩ = some (.slice (some ⟨bw, ow, none⟩) n cw)) ?fx ?_
        case fx => subst hLB; exact ⟨(by repeat (first | exact Below.refl _ _ | refine Below.later ?_ _ | refine Below.box ?_ _ | refine Below.drew ?_ | refine Below.put ?_ (by dsimp only; omega) _)), by simp, by simp [go_sem], by simp [go_sem], by simp [go_sem], by simp [go_sem], by simp [go_sem], by simp [go_sem], by simp [go_sem], by simp [go_sem], by simp [go_sem], by simp [go_sem], by simp [go_sem], by simp [go_sem], by simp [go_sem], by simp [go_sem], by simp [go_sem], by simp [go_sem], by simp [go_sem], by simp [go_sem], by simp [go_sem]⟩
        rintro W0 ⟨hB0, hLt, l0, l1, l2, l3, l4, l5, l6, l7, l8, l9, l10, t0, t1, t2, t3, t4, t5, t6, t7⟩
        clear hLB cr
        have hlt0 : w.heap.size < W0.heap.size := by
          have := World.block_lt_of_cell? W0 ⟨w.heap.size, 0, none⟩ t0
          exact this
        have hB0 : Kept (Below w.heap.size w W0) := ⟨hB0⟩
        have hS : Kept (∀ w', Below W0.heap.size W0 w' → w'.cell? ⟨LB, 0, none⟩ = some (Value.int .u64 p) ∧ w'.cell? ⟨LB, 1, none⟩ = some (.int .i64 (B : Int)) ∧ w'.cell? ⟨LB, 2, none⟩ = some (.int .i64 q) ∧ w'.cell? ⟨LB, 3, none⟩ = some (.int .i64 K) ∧ w'.cell? ⟨LB, 4, none⟩ = some (.int .i64 NN) ∧ w'.cell? ⟨LB, 5, none⟩ = some (.int .i64 (S : Int)) ∧ w'.cell? ⟨LB, 6, none⟩ = some (.int .i64 (m : Int)) ∧ w'.cell? ⟨LB, 7, none⟩ = some (.int .i64 (P0 : Nat)) ∧ w'.cell? ⟨LB, 8, none⟩ = some (.int .i64 (P1 : Nat)) ∧ w'.cell? ⟨LB, 9, none⟩ = some (.int .i64 (P1 : Nat)) ∧ w'.cell? ⟨LB, 10, none⟩ = some (.int .i64 (P1 : Nat)) ∧ w'.cell? ⟨w.heap.size, 0, none⟩ = some (Value.int .u64 p) ∧ w'.cell? ⟨w.heap.size, 1, none⟩ = some (.int .i64 (pb : Int)) ∧ w'.cell? ⟨w.heap.size, 2, none⟩ = some (.int .i64 vs) ∧ w'.cell? ⟨w.heap.size, 3, none⟩ = some (.slice u m c) ∧ w'.cell? ⟨w.heap.size, 4, none⟩ = some (.int .i64 (B : Int)) ∧ w'.cell? ⟨w.heap.size, 5, none⟩ = some (.int .i64 bl) ∧ w'.cell? ⟨w.heap.size, 6, none⟩ = some (.int .i64 q) ∧ w'.cell? ⟨w.heap.size, 7, none⟩ = some (.slice (some ⟨bw, ow, none⟩) n cw)) := ⟨fun w' hw => by
          have hc : ∀ k v, W0.cell? ⟨LB, k, none⟩ = some v → w'.cell? ⟨LB, k, none⟩ = some v := fun k v h => by rw [hw.cell (p := ⟨LB, k, none⟩) hLt]; exact h
          have hd : ∀ k v, W0.cell? ⟨w.heap.size, k, none⟩ = some v → w'.cell? ⟨w.heap.size, k, none⟩ = some v := fun k v h => by rw [hw.cell (p := ⟨w.heap.size, k, none⟩) hlt0]; exact h
          exact ⟨hc _ _ l0, hc _ _ l1, hc _ _ l2, hc _ _ l3, hc _ _ l4, hc _ _ l5, hc _ _ l6, hc _ _ l7, hc _ _ l8, hc _ _ l9, hc _ _ l10, hd _ _ t0, hd _ _ t1, hd _ _ t2, hd _ _ t3, hd _ _ t4, hd _ _ t5, hd _ _ t6, hd _ _ t7⟩⟩
        go_region_held3 (fun w' => w'.cell? ⟨LB, 0, none⟩ = some (Value.int .u64 p) ∧ w'.cell? ⟨LB, 1, none⟩ = some (.int .i64 (B : Int)) ∧ w'.cell? ⟨LB, 2, none⟩ = some (.int .i64 q) ∧ w'.cell? ⟨LB, 3, none⟩ = some (.int .i64 K) ∧ w'.cell? ⟨LB, 4, none⟩ = some (.int .i64 NN) ∧ w'.cell? ⟨LB, 5, none⟩ = some (.int .i64 (S : Int)) ∧ w'.cell? ⟨LB, 6, none⟩ = some (.int .i64 (m : Int)) ∧ w'.cell? ⟨LB, 7, none⟩ = some (.int .i64 (P0 : Nat)) ∧ w'.cell? ⟨LB, 8, none⟩ = some (.int .i64 (P1 : Nat)) ∧ w'.cell? ⟨LB, 9, none⟩ = some (.int .i64 (P1 : Nat)) ∧ w'.cell? ⟨LB, 10, none⟩ = some (.int .i64 (P1 : Nat)) ∧ w'.cell? ⟨w.heap.size, 0, none⟩ = some (Value.int .u64 p) ∧ w'.cell? ⟨w.heap.size, 1, none⟩ = some (.int .i64 (pb : Int)) ∧ w'.cell? ⟨w.heap.size, 2, none⟩ = some (.int .i64 vs) ∧ w'.cell? ⟨w.heap.size, 3, none⟩ = some (.slice u m c) ∧ w'.cell? ⟨w.heap.size, 4, none⟩ = some (.int .i64 (B : Int)) ∧ w'.cell? ⟨w.heap.size, 5, none⟩ = some (.int .i64 bl) ∧ w'.cell? ⟨w.heap.size, 6, none⟩ = some (.int .i64 q) ∧ w'.cell? ⟨w.heap.size, 7, none⟩ = some (.slice (some ⟨bw, ow, none⟩) n cw))
          (first | with_reducible exact hS.out _ hMb | with_reducible exact hS.out _ hMc | with_reducible exact hS.out _ (Below.later hMb _) | exact hS.out _ (by repeat (first | with_reducible exact Below.refl _ _ | with_reducible refine Below.later ?_ _ | with_reducible refine Below.drew ?_)))
          (first
            | (go_at_call 14; refine use (co.out _ _ _) ?_; intro pw3)
            | (go_at_call 23; refine (cm.out _ (Below.next hB0.out (by repeat (first | exact Below.refl _ _ | refine Below.later ?_ _ | refine Below.box ?_ _ | refine Below.drew ?_ | refine Below.put ?_ (by dsimp only; omega) _))) _ _).mono ?_; rintro e w4 ⟨vm, bs, rfl, hM⟩; replace hM := hM.base (W := W0) (by repeat (first | exact Below.refl _ _ | refine Below.later ?_ _ | refine Below.box ?_ _ | refine Below.drew ?_ | refine Below.put ?_ (by dsimp only; omega) _)); obtain ⟨u2, c2, rfl, _⟩ := hM.grown.form; rw [kh.out.1] at hM; rw [kh.out.1]; have hMb := hM.grown.below)
            | (go_at_call 19; refine (cf.out _ (Below.next hB0.out (Below.later hMb _)) _ _).mono ?_; rintro e w5 ⟨vm, bs2, rfl, hM2⟩; obtain ⟨u3, c3, rfl, _⟩ := hM2.grown.form; rw [kh.out.2.1] at hM2; rw [kh.out.2.1]; replace hM := hM.later pw3; have hMc := Below.next (Below.later hMb pw3) hM2.grown.below))
        all_goals (
          try with_reducible refine NoPanic.normal ?_
          go_split_ands
          have hX : Kept (Below w.heap.size w w5) := ⟨Below.next hB0.out hMc⟩
          have hm1 := (⟨(hM.mt (by rw [kh.out.1]; omega) (fun l' hl' => by rw [kh.out.2.2.1 l' hl']; omega)).2.below (Nat.le_refl _) hM2.grown.below⟩ : Kept (Mt w5 u2 C))
          have hm2 := (⟨(hM2.mt (by rw [kh.out.2.1]; omega) (fun l' hl' => by rw [kh.out.2.2.2 l' hl']; omega)).2⟩ : Kept (Mt w5 u3 D))
          have k1 := (⟨hm1.out.get kh.out.1⟩ : Kept _)
          have k2 := (⟨hm2.out.get kh.out.2.1⟩ : Kept _)
          obtain ⟨l0, l1, l2, l3, l4, l5, l6, l7, l8, l9, l10, t0, t1, t2, t3, t4, t5, t6, t7⟩ := hS.out w5 hMc
          have hsz5 := hMc.size
          have hLt5 : LB < w5.heap.size := by omega
          have hlt5 : w.heap.size < w5.heap.size := by omega
          clear hM hM2 hMb hMc hS hsz5 hLt hlt0
          go_wp2_with (first | (go_at_call 16; (first | with_reducible refine use1 (ct.out _ _ _) ?_ | with_reducible refine use (ct.out _ _ _) ?_); intro pw))
          go_loopw [55] (fun v wr => ∃ (i : Nat) (q' : Regrown), v = .int .i64 (i : Int) ∧ wr = after w5 q' ∧ i ≤ N) (fun v _ => (N : Int).toNat - (intOf v).toNat)
          case atStart => exact ⟨0, _, rfl, rfl, by omega⟩
          case round =>
            obtain ⟨i, q', rfl, rfl, hi⟩ := hrel
            by_cases h : i < N
            · obtain ⟨b1, o1, x1, v1, d1, rfl, hx1, hb1, hc1', hL1⟩ := k1.out i h
              obtain ⟨b2, o2, x2, v2, d2, rfl, hx2, hb2, hc2', hL2⟩ := k2.out i h
              rw [kh.out.2.2.1 x1 (List.mem_of_getElem? hx1)] at hc1'
              rw [kh.out.2.2.2 x2 (List.mem_of_getElem? hx2)] at hc2'
              clear hx1 hx2 hL1 hL2 k1 k2 hm1 hm2
              go_wp2
              first | refine region_quiet1 (by kernel_rfl) ?_ | refine region_quiet (by kernel_rfl) ?_
              repeat (go_big_quiet_step (first | fail))
              refine wpQuiet_nil ?_
              intro _
              go_wp2
              go_roundw
              case rel => exact ⟨i + 1, _, by go_num, rfl, by omega⟩
              case measure => first | (simp [intOf]; omega) | (simp [intOf]; done)
            · clear k1 k2
              go_wp2
              first | refine region_quiet1 (by kernel_rfl) ?_ | refine region_quiet (by kernel_rfl) ?_
              repeat (go_big_quiet_step (first | (go_at_call 25; with_reducible exact quiet (csm.out _ u2 u3 c2 c3 (hm1.out.below (Nat.le_refl _) (by repeat (first | exact Below.refl _ _ | refine Below.later ?_ _ | refine Below.box ?_ _ | refine Below.drew ?_ | refine Below.put ?_ (by dsimp only; omega) _))) (hm2.out.below (Nat.le_refl _) (by repeat (first | exact Below.refl _ _ | refine Below.later ?_ _ | refine Below.box ?_ _ | refine Below.drew ?_ | refine Below.put ?_ (by dsimp only; omega) _))))) | (go_at_call 14; with_reducible exact quiet (co.out _ _ _)) | (go_at_call 21; with_reducible exact quiet (cc.out pb rfl _ (some ⟨bw, ow + 1, none⟩) (cw - 1) (Below.next hX.out (by repeat (first | exact Below.refl _ _ | refine Below.later ?_ _ | refine Below.box ?_ _ | refine Below.drew ?_ | refine Below.put ?_ (by dsimp only; omega) _))) (((kL.out.drop 1).takeL pb).below (Nat.le_refl _) (Below.next hX.out (by repeat (first | exact Below.refl _ _ | refine Below.later ?_ _ | refine Below.box ?_ _ | refine Below.drew ?_ | refine Below.put ?_ (by dsimp only; omega) _)))) (by intro e; cases e) _ _))))
              refine wpQuiet_nil ?_
              intro _
              go_wp2
              go_ret
              exact ⟨by simp, Below.next hX.out (by repeat (first | exact Below.refl _ _ | refine Below.later ?_ _ | refine Below.box ?_ _ | refine Below.drew ?_ | refine Below.put ?_ (by dsimp only; omega) _))⟩)
    · have hr2 : decide (rho ≥ p) = true := by simp; omega
      have hr3 : decide (p ≤ rho) = true := by simp; omega
      go_enter Try.func7, Try.ntmps7
      go_wp2_with (first | (go_at_call 17; (first | with_reducible refine use1 (cr.out _ (by repeat (first | exact Below.refl _ _ | refine Below.later ?_ _ | refine Below.box ?_ _ | refine Below.drew ?_ | refine Below.put ?_ (by dsimp only; omega) _))) ?_ | with_reducible refine use (cr.out _ (by repeat (first | exact Below.refl _ _ | refine Below.later ?_ _ | refine Below.box ?_ _ | refine Below.drew ?_ | refine Below.put ?_ (by dsimp only; omega) _))) ?_); intro pw) | (go_at_call 10; (first | with_reducible refine use1 (awake24_c _) ?_ | with_reducible refine use (awake24_c _) ?_); intro pw))
      go_ret
      exact ⟨rfl, (by repeat (first | exact Below.refl _ _ | refine Below.later ?_ _ | refine Below.box ?_ _ | refine Below.drew ?_ | refine Below.put ?_ (by dsimp only; omega) _))⟩

set_option maxRecDepth 100000 in
theorem lifted (os : Os) (started : os.Started) (H : Type) (enc : TypeId × Value → H) :
    ReturnsInHanded {} Try.checked os 7 .any (Rows.layoutConsistentSpec.pre6 enc Try.prog Try.f7 Rows.layoutConsistentRow.domain false) (Rows.layoutConsistentSpec.post enc Try.prog Try.f7 false true false false) := by
  refine returnsInHanded_of_change (C := Try.checked) own started (by kernel_rfl) Try.func7
    (ChangeSpec.witness6 (enc := enc) (C := Try.checked) false ⟨#[], #[.agg #[.int .u64 0, .int .i64 0, .int .i64 0, .slice none 0 0, .int .i64 0, .int .i64 0, .int .i64 0, .slice none 0 0], .int .u64 0], []⟩ 8 (by kernel_rfl) (by kernel_rfl) (by kernel_rfl) (by kernel_rfl)) ?_
  intro W base args ds gs before hval0 hW hcnd _
  have hval : ∀ (j : Nat) t v, Try.f7.params[j]? = some t → args[j]? = some v → Value.okWide Try.prog W .any base t v := hval0
  have hW0 : DataW.Whole enc Try.prog Try.f7.params.toList Rows.layoutConsistentSpec.vars false W args.toList ds gs before := hW
  obtain ⟨p, q, hA0, hV, rfl, _, _⟩ := hW
  have hA : DataW.TrodAll enc Try.prog W 0 (fun _ => true) true Try.f7.params.toList args.toList ds p := hA0
  rw [Try.params7] at hA hval
  obtain ⟨v0, vs0, d0, ds0, p0, q0, hargs, rfl, rfl, h0, r0⟩ := trodAll_cons hA
  obtain ⟨v1, vs1, d1, ds1, p1, q1, rfl, rfl, rfl, h1, r1⟩ := trodAll_cons r0
  obtain ⟨rfl, rfl, rfl⟩ := trodAll_nil r1
  obtain rfl : args = #[v0, v1] := by cases args; simp_all
  obtain ⟨rfl, rfl⟩ := trodVars_none hV
  obtain ⟨a0x, a0y, a0z, a0u, a0v, a0t, a0r, a0s, a0q, a0o, a0m, a0k, rfl, u0⟩ := open_case2 (hval 0 45 v0 rfl rfl) h0
  obtain ⟨a1, rfl, u1⟩ := open_u64 (hval 1 22 v1 rfl rfl)
  clear hA0 hval0
  refine (walk W a0x a0y a0z a0u a0v a0t a0r a0s a0q a0o a0m a0k u0 a1 u1).mono fun e W' ⟨he, hb⟩ => ⟨.bool true, he, ?_⟩
  exact law_post (fun t ht => by have ht' : t ∈ [45, 22] := ht; simp only [List.mem_cons, List.not_mem_nil, or_false] at ht'; rcases ht' with rfl | rfl <;> exact ⟨by kernel_rfl, of_decide_eq_true (by kernel_rfl)⟩) rfl rfl hW0 rfl hb

theorem over : Rows.layoutConsistentRow.holds Try.pinned (OpenSpec.ofChange Rows.layoutConsistentSpec) :=
  OpenClaim.holds_of_wide 7 Try.f7 rfl rfl rfl rfl rfl rfl rfl ⟨rfl, rfl, rfl, rfl, rfl⟩ rfl rfl rfl rfl rfl (by kernel_rfl) Try.func7 (by kernel_rfl)
    (of_decide_eq_true (by kernel_rfl)) (by unfold Func.isWrapper; first | (rw [if_pos (by decide +kernel)]; kernel_rfl) | (rw [if_neg (by decide +kernel)]; exact ⟨rfl, rfl⟩))
    (fun os started H enc _ => lifted os started H enc)

/-- The statement. -/
theorem proved : Rows.LayoutConsistentSaid := over
#print axioms proved
end Go.Proofs.Ytpkjlnelkacbgaa.layoutConsistent
