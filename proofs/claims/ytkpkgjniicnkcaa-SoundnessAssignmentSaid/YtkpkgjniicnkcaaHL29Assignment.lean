/- SoundnessAssignment: for any case the call returns true: where the case is right (up to 40 rows), the messages of its assignment are linearly consistent, and quadratically consistent exactly if it satisfies the table; other cases are passed over. No condition. -/
import Derived.Test.YtkpkgjniicnkcaaHRij
import Derived.Test.YtkpkgjniicnkcaaHL29b
import Derived.Test.YtkpkgjniicnkcaaHAsg
import Derived.Deep.RegionHeld3
namespace Go.Proofs.Ytkpkgjniicnkcaa.soundnessAssignment
open Go.ChangeShapes Go.WideShapes Go.ChangeAt Go.RowKit Go.Sort

set_option maxRecDepth 100000
theorem wp_gen {P : Program} {cd : Code} {Q : Exit → Act → World → Prop} {a : Act} {W : World} (F : World → Prop) (hF : F W) (h : ∀ W', F W' → cd.wp P Q a W') : cd.wp P Q a W := h W hF
set_option maxHeartbeats 8000000 in
theorem walk (w : World) (p pub vs : Int) (u : Option Addr) (c : Nat) (rs : List Rw) (b bl q : Int) (uw : Option Addr) (l : List Int) (cw : Nat)
    (h : U p ∧ I pub ∧ I vs ∧ Rws w u rs ∧ I b ∧ I bl ∧ I q ∧ Ls w uw l ∧ (uw = none → cw = 0) ∧ l.length ≤ cw) :
    Calls Try.prog 8 #[.agg #[.int .u64 p, .int .i64 pub, .int .i64 vs, .slice u rs.length c, .int .i64 b, .int .i64 bl, .int .i64 q, .slice uw l.length cw]] w (Gives (.bool true) w) := by
  obtain ⟨hU, _, _, hR, _, _, _, hL, _, hcw⟩ := h
  have cr : Kept (∀ w', Below w.heap.size w w' → Calls Try.prog 16 #[.agg #[.int .u64 p, .int .i64 pub, .int .i64 vs, .slice u rs.length c, .int .i64 b, .int .i64 bl, .int .i64 q, .slice uw l.length cw], .int .i64 40] w' (Gives (.tuple #[rightV p pub vs b bl q rs l 40, .bool (rightB p pub vs b bl q rs l 40)]) w')) := ⟨fun w' hw =>
    right_c p pub vs b bl q 40 u c rs uw cw l w' (hR.below (Nat.le_refl _) hw) (hL.below (Nat.le_refl _) hw)⟩
  have hs1 := hR.small
  have hs2 := hL.small
  cases hr : rightB p pub vs b bl q rs l 40
  · have hV : rightV p pub vs b bl q rs l 40 = lay0 := by rw [rightV, hr]; rfl
    rw [hV, hr] at cr
    unfold lay0 at cr
    clear hr hV hR hL
    generalize rs.length = m at *
    generalize l.length = n at *
    go_enter Try.func8, Try.ntmps8
    go_wp2_with (first | (go_at_call 16; (first | with_reducible refine use1 (cr.out _ (by repeat (first | exact Below.refl _ _ | refine Below.later ?_ _ | refine Below.box ?_ _ | refine Below.drew ?_ | refine Below.put ?_ (by dsimp only; omega) _))) ?_ | with_reducible refine use (cr.out _ (by repeat (first | exact Below.refl _ _ | refine Below.later ?_ _ | refine Below.box ?_ _ | refine Below.drew ?_ | refine Below.put ?_ (by dsimp only; omega) _))) ?_); intro pw) | (go_at_call 12; (first | with_reducible refine use1 (awake29_c _) ?_ | with_reducible refine use (awake29_c _) ?_); intro pw))
    go_ret
    exact ⟨rfl, (by repeat (first | exact Below.refl _ _ | refine Below.later ?_ _ | refine Below.box ?_ _ | refine Below.drew ?_ | refine Below.put ?_ (by dsimp only; omega) _))⟩
  · have hV : rightV p pub vs b bl q rs l 40 = layV p b q (newN b bl q) (vs - 1 - pub) rs.length := by rw [rightV, hr]; rfl
    rw [hV, hr] at cr
    have hlt := right_lt hr hL.all
    obtain ⟨f1, f2, f3, f4, f5, f6, f7, f8, f9, f10, f11, f12, f13, _⟩ := right_facts hr
    have hv := vld_pos f11
    simp only [rightB, Bool.and_eq_true] at hr
    obtain ⟨⟨⟨⟨⟨_, _⟩, htab⟩, hasg⟩, _⟩, _⟩ := hr
    have hhead : l.head? = some 1 := by simp only [asgB, Bool.and_eq_true, beq_iff_eq] at hasg; exact hasg.1.2
    clear hV
    unfold layV at cr
    obtain ⟨B, rfl⟩ : ∃ B : Nat, b = B := ⟨b.toNat, by omega⟩
    obtain ⟨pb, rfl⟩ : ∃ B : Nat, pub = B := ⟨pub.toNat, by omega⟩
    obtain ⟨S, hS⟩ : ∃ S : Nat, vs - 1 - (pb : Int) = S := ⟨(vs - 1 - (pb : Int)).toNat, by omega⟩
    rw [hS] at cr
    have hq0 : 0 ≤ ((S : Int) + (B : Int) - 1) / (B : Int) ∧ ((S : Int) + (B : Int) - 1) / (B : Int) ≤ 70000 := ⟨Int.ediv_nonneg (by omega) (by omega), Int.le_trans (Int.ediv_le_self _ (by omega)) (by omega)⟩
    have hq1 : 0 ≤ ((rs.length : Int) + (B : Int) - 1) / (B : Int) ∧ ((rs.length : Int) + (B : Int) - 1) / (B : Int) ≤ 70000 := ⟨Int.ediv_nonneg (by omega) (by omega), Int.le_trans (Int.ediv_le_self _ (by omega)) (by omega)⟩
    obtain ⟨P0, hP0⟩ : ∃ P : Nat, ((S : Int) + (B : Int) - 1) / (B : Int) = P := ⟨_, (Int.toNat_of_nonneg hq0.1).symm⟩
    obtain ⟨P1, hP1⟩ : ∃ P : Nat, ((rs.length : Int) + (B : Int) - 1) / (B : Int) = P := ⟨_, (Int.toNat_of_nonneg hq1.1).symm⟩
    have hz0 := up_sizes (M := 70000) (by omega) (by omega) hP0
    have hz1 := up_sizes (M := 70000) (by omega) (by omega) hP1
    rw [hP0, hP1] at cr
    rw [hP0] at hq0
    rw [hP1] at hq1
    have hgood := rCuts_good (p := p) (l := l) (rs := rs) (pb := pb) (B := B) (P0 := P0) (P1 := P1) (by omega) hlt
    have hlin := asg_lin (p := p) (l := l) (rs := rs) (pb := pb) (B := B) (P0 := P0) (P1 := P1) (S := S) (by omega) hz0.1 hz1.1 hhead (by omega)
    have hqd := quad_eq (P0 := P0) (P := P1) f11 (by omega) hgood
    rw [asg_quad f11 (by omega) hz1.1] at hqd
    have hsat : satB p (pb : Int) vs l rs = rs.all (holdB p l) := by rw [satB, htab, hasg]; rfl
    have cm : Kept (∀ w', Below w.heap.size w w' → ∀ K0 NN S0 : Int, Calls Try.prog 26 #[.agg #[.int .u64 p, .int .i64 (B : Int), .int .i64 q, .int .i64 K0, .int .i64 NN, .int .i64 S0, .int .i64 rs.length, .int .i64 (P0 : Nat), .int .i64 (P1 : Nat), .int .i64 (P1 : Nat), .int .i64 (P1 : Nat)],
        .agg #[.int .u64 p, .int .i64 (pb : Int), .int .i64 vs, .slice u rs.length c], .slice uw l.length cw] w' (GivesMat (rCuts p l rs pb B P0 P1) w')) := ⟨fun w' hw K0 NN S0 =>
      messages_c B (fun j => if j = 0 then P0 else P1) p q K0 NN S0 rs.length pb vs u c rs uw cw l pb w' (by omega) (fun j => by split <;> omega) (hR.below (Nat.le_refl _) hw) (hL.below (Nat.le_refl _) hw) rfl (by omega) (by omega) (by omega) hcw⟩
    obtain ⟨qb, hqb⟩ : ∃ qb, rs.all (holdB p l) = qb := ⟨_, rfl⟩
    rw [hqb] at hqd hsat
    obtain ⟨bw, ow, rfl⟩ : ∃ bw ow, uw = some ⟨bw, ow, none⟩ := by
      obtain ⟨bw, ow, e, _⟩ := hL.mem (fun e => by subst e; simp at f12; omega)
      exact ⟨bw, ow, e⟩
    have cs : Kept (∀ w', Below w.heap.size w w' → Calls Try.prog 27 #[.agg #[.int .u64 p, .int .i64 (pb : Int), .int .i64 vs, .slice u rs.length c], .slice (some ⟨bw, ow, none⟩) l.length cw] w' (Gives (.bool qb) w')) := ⟨fun w' hw => by
      have := satisfied_c p pb vs u c rs (some ⟨bw, ow, none⟩) cw l w' (hR.below (Nat.le_refl _) hw) (hL.below (Nat.le_refl _) hw)
      rw [hsat] at this; exact this⟩
    have cc : Kept (∀ nb : Nat, nb = pb → ∀ w' u2 c2 bs W0 u' c', Below w.heap.size w w' → Below w.heap.size w W0 → Mat W0 w' (.slice u2 (P0 + P1 + P1 + P1) c2) bs (rCuts p l rs pb B P0 P1) → Ls w u' ((l.drop 1).take pb) → (u' = none → c' = 0) → ∀ K0 NN : Int, Calls Try.prog 24 #[.agg #[.int .u64 p, .int .i64 (B : Int), .int .i64 q, .int .i64 K0, .int .i64 NN, .int .i64 (S : Int), .int .i64 rs.length, .int .i64 (P0 : Nat), .int .i64 (P1 : Nat), .int .i64 (P1 : Nat), .int .i64 (P1 : Nat)], .agg #[.int .u64 p, .int .i64 (pb : Int), .int .i64 vs, .slice u rs.length c], .slice u' nb c', .slice u2 (P0 + P1 + P1 + P1) c2] w' (Gives (.tuple #[.bool true, .bool qb]) w')) := ⟨fun nb hnb w' u2 c2 bs W0 u' c' hw hw0 hM hps hup K0 NN => by
      rw [hnb]
      have hcap : (rCuts p l rs pb B P0 P1).length ≤ c2 := by
        rcases Nat.eq_zero_or_pos (P0 + P1 + P1 + P1) with h | h
        · rw [hgood.len]; omega
        · obtain ⟨G, c3, e, hc, _⟩ := hM.form (by rw [hgood.len]; omega)
          injection e with _ _ e
          omega
      have hpl : ((l.drop 1).take pb).length = pb := by rw [List.length_take, List.length_drop]; omega
      have := consistent_c B P0 P1 S p q K0 NN pb vs u2 c2 (rCuts p l rs pb B P0 P1) u' c' ((l.drop 1).take pb) u c rs w' (by omega) (by omega) (by omega) hz0.2 hz1.2 hz0.1 hz1.1 (hM.mt2 hgood (by omega) (by omega)) hgood.len hcap hM.form2 hgood.row (hgood.U (by omega)) (hps.below (Nat.le_refl _) hw) hup (by omega) (hR.below (Nat.le_refl _) hw)
      rw [hlin, hqd, hgood.len, hpl] at this
      exact this⟩
    have hgl : Kept ((rCuts p l rs pb B P0 P1).length = P0 + P1 + P1 + P1) := ⟨hgood.len⟩
    have kL : Kept (Ls w (some ⟨bw, ow, none⟩) l) := ⟨hL⟩
    obtain ⟨LS, hLS⟩ : ∃ LS, rCuts p l rs pb B P0 P1 = LS := ⟨_, rfl⟩
    rw [hLS] at cm cc hgl
    have hn1 : (1 : Int) + (pb : Int) ≤ (cw : Int) := by omega
    have hw1 : IntKind.i64.wrap (1 + (pb : Int)) = 1 + (pb : Int) := by rw [IntKind.wrap_i64]; omega
    have hw2 : (0 : Int) ≤ 1 + (pb : Int) := by omega
    have hw4 : (1 + (pb : Int)).toNat = 1 + pb := by omega
    have hw5 : (1 : Int) ≤ 1 + (pb : Int) := by omega
    obtain ⟨NN, hNN⟩ : ∃ NN, newN (B : Int) bl q = NN := ⟨_, rfl⟩
    obtain ⟨K0, hK0⟩ : ∃ K, (B : Int) + q = K := ⟨_, rfl⟩
    rw [hNN, hK0] at cr
    have co : Kept (∀ w', Calls Try.prog 18 #[.agg #[.int .u64 p, .int .i64 B, .int .i64 q, .int .i64 K0, .int .i64 NN, .int .i64 S, .int .i64 rs.length, .int .i64 P0, .int .i64 P1, .int .i64 P1, .int .i64 P1]] w' (Gives (.agg #[.int .u64 p, .int .i64 B, .int .i64 q, .int .i64 K0, .int .i64 NN, .int .i64 S, .int .i64 rs.length, .int .i64 P0, .int .i64 P1, .int .i64 P1, .int .i64 P1]) w')) := ⟨fun w' => own29_c _ _ _ _ _ _ _ _ _ _ _ w'⟩
    have hln : l.length ≤ cw := hcw
    have hl1 : 1 + pb ≤ l.length := by omega
    have hpbz : Kept (cw = 1 → pb = 0) := ⟨fun e => by omega⟩
    clear hR hL hlt htab hasg hhead hgood hlin hqd hsat hqb hLS hcw f1 f2 f3 f4 f5 f6 f7 f9 f10 f11 f12 f13 hz0 hz1 hP0 hP1 hq0 hq1 hNN hK0 hS hv hU f8
    generalize rs.length = m at *
    generalize l.length = n at *
    go_enter Try.func8, Try.ntmps8
    go_wp2_with (first | (go_at_call 16; (first | with_reducible refine use1 (cr.out _ (by repeat (first | exact Below.refl _ _ | refine Below.later ?_ _ | refine Below.box ?_ _ | refine Below.drew ?_ | refine Below.put ?_ (by dsimp only; omega) _))) ?_ | with_reducible refine use (cr.out _ (by repeat (first | exact Below.refl _ _ | refine Below.later ?_ _ | refine Below.box ?_ _ | refine Below.drew ?_ | refine Below.put ?_ (by dsimp only; omega) _))) ?_); intro pw1) | (go_at_call 12; (first | with_reducible refine use1 (awake29_c _) ?_ | with_reducible refine use (awake29_c _) ?_); intro pw))
    obtain ⟨LB, hLB⟩ : ∃ LB, LB = w.heap.size + 1 + pw1.os.size := ⟨_, rfl⟩
    rw [← hLB]
    refine wp_gen (fun w' => Below w.heap.size w w' ∧ LB < w'.heap.size ∧ w'.cell? ⟨LB, 0, none⟩ = some (Value.int .u64 p) ∧ w'.cell? ⟨LB, 1, none⟩ = some (.int .i64 (B : Int)) ∧ w'.cell? ⟨LB, 2, none⟩ = some (.int .i64 q) ∧ w'.cell? ⟨LB, 3, none⟩ = some (.int .i64 K0) ∧ w'.cell? ⟨LB, 4, none⟩ = some (.int .i64 NN) ∧ w'.cell? ⟨LB, 5, none⟩ = some (.int .i64 (S : Int)) ∧ w'.cell? ⟨LB, 6, none⟩ = some (.int .i64 (m : Int)) ∧ w'.cell? ⟨LB, 7, none⟩ = some (.int .i64 (P0 : Nat)) ∧ w'.cell? ⟨LB, 8, none⟩ = some (.int .i64 (P1 : Nat)) ∧ w'.cell? ⟨LB, 9, none⟩ = some (.int .i64 (P1 : Nat)) ∧ w'.cell? ⟨LB, 10, none⟩ = some (.int .i64 (P1 : Nat)) ∧ w'.cell? ⟨w.heap.size, 0, none⟩ = some (.int .u64 p) ∧ w'.cell? ⟨w.heap.size, 1, none⟩ = some (.int .i64 (pb : Int)) ∧ w'.cell? ⟨w.heap.size, 2, none⟩ = some (.int .i64 vs) ∧ w'.cell? ⟨w.heap.size, 3, none⟩ = some (.slice u m c) ∧ w'.cell? ⟨w.heap.size, 7, none⟩ = some (.slice (some ⟨bw, ow, none⟩) n cw)) ?fx ?_
    case fx => subst hLB; exact ⟨(by repeat (first | exact Below.refl _ _ | refine Below.later ?_ _ | refine Below.box ?_ _ | refine Below.drew ?_ | refine Below.put ?_ (by dsimp only; omega) _)), by simp, by simp [go_sem], by simp [go_sem], by simp [go_sem], by simp [go_sem], by simp [go_sem], by simp [go_sem], by simp [go_sem], by simp [go_sem], by simp [go_sem], by simp [go_sem], by simp [go_sem], by simp [go_sem], by simp [go_sem], by simp [go_sem], by simp [go_sem], by simp [go_sem]⟩
    rintro W0 ⟨hB0, hLt, l0, l1, l2, l3, l4, l5, l6, l7, l8, l9, l10, t0, t1, t2, t3, t7⟩
    clear hLB cr
    have hlt0 : w.heap.size < W0.heap.size := by
      have := World.block_lt_of_cell? W0 ⟨w.heap.size, 0, none⟩ t0
      exact this
    have hB0 : Kept (Below w.heap.size w W0) := ⟨hB0⟩
    have hS : Kept (∀ w', Below W0.heap.size W0 w' → w'.cell? ⟨LB, 0, none⟩ = some (Value.int .u64 p) ∧ w'.cell? ⟨LB, 1, none⟩ = some (.int .i64 (B : Int)) ∧ w'.cell? ⟨LB, 2, none⟩ = some (.int .i64 q) ∧ w'.cell? ⟨LB, 3, none⟩ = some (.int .i64 K0) ∧ w'.cell? ⟨LB, 4, none⟩ = some (.int .i64 NN) ∧ w'.cell? ⟨LB, 5, none⟩ = some (.int .i64 (S : Int)) ∧ w'.cell? ⟨LB, 6, none⟩ = some (.int .i64 (m : Int)) ∧ w'.cell? ⟨LB, 7, none⟩ = some (.int .i64 (P0 : Nat)) ∧ w'.cell? ⟨LB, 8, none⟩ = some (.int .i64 (P1 : Nat)) ∧ w'.cell? ⟨LB, 9, none⟩ = some (.int .i64 (P1 : Nat)) ∧ w'.cell? ⟨LB, 10, none⟩ = some (.int .i64 (P1 : Nat)) ∧ w'.cell? ⟨w.heap.size, 0, none⟩ = some (.int .u64 p) ∧ w'.cell? ⟨w.heap.size, 1, none⟩ = some (.int .i64 (pb : Int)) ∧ w'.cell? ⟨w.heap.size, 2, none⟩ = some (.int .i64 vs) ∧ w'.cell? ⟨w.heap.size, 3, none⟩ = some (.slice u m c) ∧ w'.cell? ⟨w.heap.size, 7, none⟩ = some (.slice (some ⟨bw, ow, none⟩) n cw)) := ⟨fun w' hw' => ⟨by rw [hw'.cell (p := ⟨LB, 0, none⟩) hLt]; exact l0, by rw [hw'.cell (p := ⟨LB, 1, none⟩) hLt]; exact l1, by rw [hw'.cell (p := ⟨LB, 2, none⟩) hLt]; exact l2, by rw [hw'.cell (p := ⟨LB, 3, none⟩) hLt]; exact l3, by rw [hw'.cell (p := ⟨LB, 4, none⟩) hLt]; exact l4, by rw [hw'.cell (p := ⟨LB, 5, none⟩) hLt]; exact l5, by rw [hw'.cell (p := ⟨LB, 6, none⟩) hLt]; exact l6, by rw [hw'.cell (p := ⟨LB, 7, none⟩) hLt]; exact l7, by rw [hw'.cell (p := ⟨LB, 8, none⟩) hLt]; exact l8, by rw [hw'.cell (p := ⟨LB, 9, none⟩) hLt]; exact l9, by rw [hw'.cell (p := ⟨LB, 10, none⟩) hLt]; exact l10, by rw [hw'.cell (p := ⟨w.heap.size, 0, none⟩) hlt0]; exact t0, by rw [hw'.cell (p := ⟨w.heap.size, 1, none⟩) hlt0]; exact t1, by rw [hw'.cell (p := ⟨w.heap.size, 2, none⟩) hlt0]; exact t2, by rw [hw'.cell (p := ⟨w.heap.size, 3, none⟩) hlt0]; exact t3, by rw [hw'.cell (p := ⟨w.heap.size, 7, none⟩) hlt0]; exact t7⟩⟩
    by_cases hc1 : cw = 1
    · have hpb0 : Kept (pb = 0) := ⟨hpbz.out hc1⟩
      subst hc1
      have hn1' : (1 : Int) + (pb : Int) ≤ 1 := by omega
      have hn2' : 1 + pb ≤ 1 := by omega
      clear hpbz
      go_wp2
      go_region_held3 (fun w' => w'.cell? ⟨LB, 0, none⟩ = some (Value.int .u64 p) ∧ w'.cell? ⟨LB, 1, none⟩ = some (.int .i64 (B : Int)) ∧ w'.cell? ⟨LB, 2, none⟩ = some (.int .i64 q) ∧ w'.cell? ⟨LB, 3, none⟩ = some (.int .i64 K0) ∧ w'.cell? ⟨LB, 4, none⟩ = some (.int .i64 NN) ∧ w'.cell? ⟨LB, 5, none⟩ = some (.int .i64 (S : Int)) ∧ w'.cell? ⟨LB, 6, none⟩ = some (.int .i64 (m : Int)) ∧ w'.cell? ⟨LB, 7, none⟩ = some (.int .i64 (P0 : Nat)) ∧ w'.cell? ⟨LB, 8, none⟩ = some (.int .i64 (P1 : Nat)) ∧ w'.cell? ⟨LB, 9, none⟩ = some (.int .i64 (P1 : Nat)) ∧ w'.cell? ⟨LB, 10, none⟩ = some (.int .i64 (P1 : Nat)) ∧ w'.cell? ⟨w.heap.size, 0, none⟩ = some (.int .u64 p) ∧ w'.cell? ⟨w.heap.size, 1, none⟩ = some (.int .i64 (pb : Int)) ∧ w'.cell? ⟨w.heap.size, 2, none⟩ = some (.int .i64 vs) ∧ w'.cell? ⟨w.heap.size, 3, none⟩ = some (.slice u m c) ∧ w'.cell? ⟨w.heap.size, 7, none⟩ = some (.slice (some ⟨bw, ow, none⟩) n 1))
        (first | with_reducible exact hS.out _ hMb | with_reducible exact hS.out _ (Below.later hMb _) | exact hS.out _ (by repeat (first | with_reducible exact Below.refl _ _ | with_reducible refine Below.later ?_ _ | with_reducible refine Below.drew ?_)))
        (first
          | (go_at_call 18; refine use (co.out _) ?_; intro pw3)
          | (go_at_call 26; refine (cm.out _ (Below.next hB0.out (by repeat (first | exact Below.refl _ _ | refine Below.later ?_ _ | refine Below.box ?_ _ | refine Below.drew ?_ | refine Below.put ?_ (by dsimp only; omega) _))) _ _ _).mono ?_; rintro e w4 ⟨vm, bs, rfl, hM⟩; replace hM := hM.base (W := W0) (by repeat (first | exact Below.refl _ _ | refine Below.later ?_ _ | refine Below.box ?_ _ | refine Below.drew ?_ | refine Below.put ?_ (by dsimp only; omega) _)); obtain ⟨u2, c2, rfl, _⟩ := hM.grown.form; rw [hgl.out] at hM; rw [hgl.out]; have hMb := hM.grown.below)
          | (go_at_call 24; refine use (cc.out 0 hpb0.out.symm _ u2 c2 bs _ (some ⟨bw, ow, none⟩) 0 (Below.next hB0.out hMb) hB0.out hM (by rw [hpb0.out]; exact Ls.nil _ _) (fun e => (by cases e)) K0 NN) ?_; intro pw5))
      try with_reducible refine NoPanic.normal ?_
      go_split_ands
      go_wp2_with (first | (go_at_call 27; refine use (cs.out _ (Below.next hB0.out (Below.later hMb _))) ?_; intro pw6))
      go_ret
      exact ⟨by simp, Below.next hB0.out (Below.later (Below.later hMb _) _)⟩
    · have hc0 : ¬ cw - 1 = 0 := by omega
      have hc2 : (cw - 1 == 0) = false := by simp; omega
      clear hc1
      go_wp2
      go_region_held3 (fun w' => w'.cell? ⟨LB, 0, none⟩ = some (Value.int .u64 p) ∧ w'.cell? ⟨LB, 1, none⟩ = some (.int .i64 (B : Int)) ∧ w'.cell? ⟨LB, 2, none⟩ = some (.int .i64 q) ∧ w'.cell? ⟨LB, 3, none⟩ = some (.int .i64 K0) ∧ w'.cell? ⟨LB, 4, none⟩ = some (.int .i64 NN) ∧ w'.cell? ⟨LB, 5, none⟩ = some (.int .i64 (S : Int)) ∧ w'.cell? ⟨LB, 6, none⟩ = some (.int .i64 (m : Int)) ∧ w'.cell? ⟨LB, 7, none⟩ = some (.int .i64 (P0 : Nat)) ∧ w'.cell? ⟨LB, 8, none⟩ = some (.int .i64 (P1 : Nat)) ∧ w'.cell? ⟨LB, 9, none⟩ = some (.int .i64 (P1 : Nat)) ∧ w'.cell? ⟨LB, 10, none⟩ = some (.int .i64 (P1 : Nat)) ∧ w'.cell? ⟨w.heap.size, 0, none⟩ = some (.int .u64 p) ∧ w'.cell? ⟨w.heap.size, 1, none⟩ = some (.int .i64 (pb : Int)) ∧ w'.cell? ⟨w.heap.size, 2, none⟩ = some (.int .i64 vs) ∧ w'.cell? ⟨w.heap.size, 3, none⟩ = some (.slice u m c) ∧ w'.cell? ⟨w.heap.size, 7, none⟩ = some (.slice (some ⟨bw, ow, none⟩) n cw))
        (first | with_reducible exact hS.out _ hMb | with_reducible exact hS.out _ (Below.later hMb _) | exact hS.out _ (by repeat (first | with_reducible exact Below.refl _ _ | with_reducible refine Below.later ?_ _ | with_reducible refine Below.drew ?_)))
        (first
          | (go_at_call 18; refine use (co.out _) ?_; intro pw3)
          | (go_at_call 26; refine (cm.out _ (Below.next hB0.out (by repeat (first | exact Below.refl _ _ | refine Below.later ?_ _ | refine Below.box ?_ _ | refine Below.drew ?_ | refine Below.put ?_ (by dsimp only; omega) _))) _ _ _).mono ?_; rintro e w4 ⟨vm, bs, rfl, hM⟩; replace hM := hM.base (W := W0) (by repeat (first | exact Below.refl _ _ | refine Below.later ?_ _ | refine Below.box ?_ _ | refine Below.drew ?_ | refine Below.put ?_ (by dsimp only; omega) _)); obtain ⟨u2, c2, rfl, _⟩ := hM.grown.form; rw [hgl.out] at hM; rw [hgl.out]; have hMb := hM.grown.below)
          | (go_at_call 24; refine use (cc.out pb rfl _ u2 c2 bs _ (some ⟨bw, ow + 1, none⟩) (cw - 1) (Below.next hB0.out hMb) hB0.out hM ((kL.out.drop 1).takeL pb) (fun e => (by cases e)) K0 NN) ?_; intro pw5))
      try with_reducible refine NoPanic.normal ?_
      go_split_ands
      go_wp2_with (first | (go_at_call 27; refine use (cs.out _ (Below.next hB0.out (Below.later hMb _))) ?_; intro pw6))
      go_ret
      exact ⟨by simp, Below.next hB0.out (Below.later (Below.later hMb _) _)⟩

set_option maxRecDepth 100000 in
theorem lifted (os : Os) (started : os.Started) (H : Type) (enc : TypeId × Value → H) :
    ReturnsInHanded {} Try.checked os 8 .any (Rows.soundnessAssignmentSpec.pre6 enc Try.prog Try.f8 Rows.soundnessAssignmentRow.domain false) (Rows.soundnessAssignmentSpec.post enc Try.prog Try.f8 false true false false) := by
  refine returnsInHanded_of_change (C := Try.checked) own started (by kernel_rfl) Try.func8
    (ChangeSpec.witness6 (enc := enc) (C := Try.checked) false ⟨#[], #[.agg #[.int .u64 0, .int .i64 0, .int .i64 0, .slice none 0 0, .int .i64 0, .int .i64 0, .int .i64 0, .slice none 0 0]], []⟩ 8 (by kernel_rfl) (by kernel_rfl) (by kernel_rfl) (by kernel_rfl)) ?_
  intro W base args ds gs before hval0 hW hcnd _
  have hval : ∀ (j : Nat) t v, Try.f8.params[j]? = some t → args[j]? = some v → Value.okWide Try.prog W .any base t v := hval0
  have hW0 : DataW.Whole enc Try.prog Try.f8.params.toList Rows.soundnessAssignmentSpec.vars false W args.toList ds gs before := hW
  obtain ⟨p, q, hA0, hV, rfl, _, _⟩ := hW
  have hA : DataW.TrodAll enc Try.prog W 0 (fun _ => true) true Try.f8.params.toList args.toList ds p := hA0
  rw [Try.params8] at hA hval
  obtain ⟨v0, vs0, d0, ds0, p0, q0, hargs, rfl, rfl, h0, r0⟩ := trodAll_cons hA
  obtain ⟨rfl, rfl, rfl⟩ := trodAll_nil r0
  obtain rfl : args = #[v0] := by cases args; simp_all
  obtain ⟨rfl, rfl⟩ := trodVars_none hV
  obtain ⟨a0x, a0y, a0z, a0u, a0v, a0t, a0r, a0s, a0q, a0o, a0m, a0k, rfl, u0⟩ := open_case2 (hval 0 38 v0 rfl rfl) h0
  clear hA0 hval0
  refine (walk W a0x a0y a0z a0u a0v a0t a0r a0s a0q a0o a0m a0k u0).mono fun e W' ⟨he, hb⟩ => ⟨.bool true, he, ?_⟩
  exact law_post (fun t ht => by have ht' : t ∈ [38] := ht; simp only [List.mem_cons, List.not_mem_nil, or_false] at ht'; rcases ht' with rfl <;> exact ⟨by kernel_rfl, of_decide_eq_true (by kernel_rfl)⟩) rfl rfl hW0 rfl hb

theorem over : Rows.soundnessAssignmentRow.holds Try.pinned (OpenSpec.ofChange Rows.soundnessAssignmentSpec) :=
  OpenClaim.holds_of_wide 8 Try.f8 rfl rfl rfl rfl rfl rfl rfl ⟨rfl, rfl, rfl, rfl, rfl⟩ rfl rfl rfl rfl rfl (by kernel_rfl) Try.func8 (by kernel_rfl)
    (of_decide_eq_true (by kernel_rfl)) (by unfold Func.isWrapper; first | (rw [if_pos (by decide +kernel)]; kernel_rfl) | (rw [if_neg (by decide +kernel)]; exact ⟨rfl, rfl⟩))
    (fun os started H enc _ => lifted os started H enc)

/-- The statement. -/
theorem proved : Rows.SoundnessAssignmentSaid := over
#print axioms proved
end Go.Proofs.Ytkpkgjniicnkcaa.soundnessAssignment
