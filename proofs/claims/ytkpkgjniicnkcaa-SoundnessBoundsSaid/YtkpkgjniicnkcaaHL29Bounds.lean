/- SoundnessBounds: for any problem the call returns true: where the case is right (up to 20 rows, a prime up to 257, up to 20 changes), messages that are not consistent pass a test for at most as many challenges as its limit says, others for all; other problems are passed over. No condition. -/
import Derived.Test.YtkpkgjniicnkcaaHRij
import Derived.Test.YtkpkgjniicnkcaaQF
import Derived.Test.YtkpkgjniicnkcaaQE
import Derived.Test.YtkpkgjniicnkcaaHTvr
namespace Go.Proofs.Ytkpkgjniicnkcaa.soundnessBounds
open Go.ChangeShapes Go.WideShapes Go.ChangeAt Go.RowKit Go.Sort

set_option maxRecDepth 100000
set_option maxHeartbeats 8000000 in
theorem walk (w : World) (p pub vs : Int) (u : Option Addr) (c : Nat) (rs : List Rw) (b bl q : Int) (uw : Option Addr) (l : List Int) (cw : Nat) (up : Option Addr) (pl : List Int) (cp : Nat) (ub : Option Addr) (by' : List Int) (cb : Nat)
    (h : (U p ∧ I pub ∧ I vs ∧ Rws w u rs ∧ I b ∧ I bl ∧ I q ∧ Ls w uw l ∧ (uw = none → cw = 0) ∧ l.length ≤ cw) ∧ L16 w up pl ∧ Ls w ub by') :
    Calls Try.prog 11 #[.agg #[.int .u64 p, .int .i64 pub, .int .i64 vs, .slice u rs.length c, .int .i64 b, .int .i64 bl, .int .i64 q, .slice uw l.length cw, .slice up pl.length cp, .slice ub by'.length cb]] w (Gives (.bool true) w) := by
  obtain ⟨⟨_, _, _, hR, _, _, _, hL, _, hcw⟩, hP, hY⟩ := h
  rcases right29_all p pub vs u c rs b bl q uw l cw up pl cp ub by' cb w hR hL hP hY hcw with ⟨a0, a1, a2, a3, a4, a5, a6, a7, a8, a9, a10, h0⟩ | ⟨pn, pb, B, P0, P1, NN, ls, hy, h0⟩
  · have cr := (⟨h0⟩ : Kept _)
    clear h0 hR hL hP hY hcw
    generalize rs.length = m at *
    generalize l.length = n at *
    generalize pl.length = n' at *
    generalize by'.length = ny at *
    go_enter Try.func11, Try.ntmps11
    go_wp2_with (first | (go_at_call 21; (first | with_reducible refine use1 (cr.out _ (by repeat (first | exact Below.refl _ _ | refine Below.later ?_ _ | refine Below.box ?_ _ | refine Below.drew ?_ | refine Below.put ?_ (by dsimp only; omega) _))) ?_ | with_reducible refine use (cr.out _ (by repeat (first | exact Below.refl _ _ | refine Below.later ?_ _ | refine Below.box ?_ _ | refine Below.drew ?_ | refine Below.put ?_ (by dsimp only; omega) _))) ?_); intro pw) | (go_at_call 12; (first | with_reducible refine use1 (awake29_c _) ?_ | with_reducible refine use (awake29_c _) ?_); intro pw))
    go_ret
    exact ⟨rfl, (by repeat (first | exact Below.refl _ _ | refine Below.later ?_ _ | refine Below.box ?_ _ | refine Below.drew ?_ | refine Below.put ?_ (by dsimp only; omega) _))⟩
  · obtain ⟨S, hS⟩ : ∃ S : Nat, vs - 1 - (pb : Int) = S := ⟨(vs - 1 - (pb : Int)).toNat, by have := hy.vars; have := hy.len; omega⟩
    obtain ⟨hSB, hmB, hSB7, hmB7⟩ := right_sizes hy hS
    have ksz : Kept (S ≤ P0 * B ∧ rs.length ≤ P1 * B ∧ P0 * B ≤ 70000 ∧ P1 * B ≤ 70000) := ⟨hSB, hmB, hSB7, hmB7⟩
    have hps7 : Kept (((l.drop 1).take pb).length ≤ 65536) := ⟨by rw [List.length_take]; have := hy.vars; have := hy.len; have := hy.vs6; omega⟩
    have cr := (⟨h0⟩ : Kept _)
    have ky := (⟨hy⟩ : Kept _)
    have kR : Kept (Rws w u rs) := ⟨hR⟩
    have kpl : Kept ((((l.drop 1).take pb).length : Int) = (pb : Int)) := ⟨by rw [List.length_take, List.length_drop]; have := hy.vars; omega⟩
    have kS : Kept ((S : Int) = vs - 1 - (pb : Int)) := ⟨hS.symm⟩
    have ep : p = (pn : Int) := hy.hp
    have epb : pub = (pb : Int) := hy.hpub
    subst ep epb
    clear h0 hR hL hP hY hcw hy hSB hmB hSB7 hmB7
    rw [hS] at cr
    clear hS
    generalize (B : Int) + q = K0 at *
    generalize (l.drop 1).take pb = ps at *
    obtain ⟨m, hm⟩ : ∃ m, rs.length = m := ⟨_, rfl⟩
    have em : Kept (rs.length = m) := ⟨hm⟩
    rw [hm] at cr ⊢
    clear hm
    generalize l.length = n at *
    generalize pl.length = n' at *
    generalize by'.length = ny at *
    go_enter Try.func11, Try.ntmps11
    go_wp2_with (first | (go_at_call 21; refine (cr.out _ (by repeat (first | exact Below.refl _ _ | refine Below.later ?_ _ | refine Below.box ?_ _ | refine Below.drew ?_ | refine Below.put ?_ (by dsimp only; omega) _))).mono ?_; rintro e w4 ⟨u', c', u2, c2, bs, rfl, hM, hLs, hc2, hc3⟩; refine Stop.out ?_))
    refine ⟨?_⟩
    have hMb := hM.grown.below
    have hB4 : Kept (Below w.heap.size w w4) := ⟨Below.next (by repeat (first | exact Below.refl _ _ | refine Below.later ?_ _ | refine Below.box ?_ _ | refine Below.drew ?_ | refine Below.put ?_ (by dsimp only; omega) _)) hMb⟩
    have t0 : w4.cell? ⟨w.heap.size, 0, none⟩ = some (.int .u64 (pn : Int)) := by rw [hMb.cell (p := ⟨w.heap.size, 0, none⟩) (by simp)]; simp [go_sem]
    have t1 : w4.cell? ⟨w.heap.size, 1, none⟩ = some (.int .i64 (pb : Int)) := by rw [hMb.cell (p := ⟨w.heap.size, 1, none⟩) (by simp)]; simp [go_sem]
    have t2 : w4.cell? ⟨w.heap.size, 2, none⟩ = some (.int .i64 vs) := by rw [hMb.cell (p := ⟨w.heap.size, 2, none⟩) (by simp)]; simp [go_sem]
    have t3 : w4.cell? ⟨w.heap.size, 3, none⟩ = some (.slice u m c) := by rw [hMb.cell (p := ⟨w.heap.size, 3, none⟩) (by simp)]; simp [go_sem]
    have lt4 : w.heap.size < w4.heap.size := by have := hMb.size; simp at this; omega
    have hy := ky.out
    have hMt := hM.mt2 hy.good (by have := hy.p07; have := hy.p17; omega) (by have := hy.b256; omega)
    have hform := hM.form2
    have hRw : ∀ w', Below w4.heap.size w4 w' → Rws w' u rs := fun w' hw => kR.out.below (Nat.le_refl _) (Below.next hB4.out hw)
    obtain ⟨N, hN⟩ : ∃ N, linN (pn : Int) ls (cofM (pn : Int) (pb : Int) rs B P0 P1 S) (fun rho => tgV (pn : Int) rho (1 :: ps) rs rs.length) pn = N := ⟨_, rfl⟩
    have hNle : N ≤ 257 := by have := linN_le (pn : Int) ls (cofM (pn : Int) (pb : Int) rs B P0 P1 S) (fun rho => tgV (pn : Int) rho (1 :: ps) rs rs.length) pn; have := hy.p257; omega
    have hvar := right_vars hy.right
    have cq : Kept (∀ w', Below w4.heap.size w4 w' → Calls Try.prog 28 #[.agg #[.int .u64 (pn : Int), .int .i64 (B : Int), .int .i64 q, .int .i64 K0, .int .i64 NN, .int .i64 (S : Int), .int .i64 (m : Int), .int .i64 (P0 : Nat), .int .i64 (P1 : Nat), .int .i64 (P1 : Nat), .int .i64 (P1 : Nat)], .agg #[.int .u64 (pn : Int), .int .i64 (pb : Int), .int .i64 vs, .slice u m c], .slice u' ps.length c', .slice u2 ls.length c2] w' (Gives (.tuple #[.int .i64 (N : Int), .int .i64 0]) w')) := ⟨fun w' hw => by
      have := linPasses_c B P0 P1 S pn q K0 NN pb vs u2 c2 ls u' c' ps u c rs w' hy.vld hy.p257 ⟨by have := hy.b2; omega, hy.b256⟩ hy.p07 hy.p17 (by have := hy.rows; omega) (by omega) kS.out hy.vs6 (by have := hy.q0; rw [← kS.out] at this; exact this) hy.q1 (hMt.below (Nat.le_refl _) hw) hy.good.len (hLs.below (Nat.le_refl _) hw) kpl.out hc3 (hRw w' hw) hvar
      rw [hN, em.out] at this
      exact this⟩
    obtain ⟨lb, hlb⟩ : ∃ lb, linC (pn : Int) (wsC ls B P0 P1 S ps) rs (eleV ls B P0 P1 P1) rs.length = lb := ⟨_, rfl⟩
    obtain ⟨qb, hqb⟩ : ∃ qb, quadC (gaps (pn : Int) ls P0 P1 B) = qb := ⟨_, rfl⟩
    obtain ⟨Nq, hNq⟩ : ∃ N, quadN (pn : Int) (gaps (pn : Int) ls P0 P1 B) B pn = N := ⟨_, rfl⟩
    have hNqle : Nq ≤ 257 := by have := quadN_le (pn : Int) (gaps (pn : Int) ls P0 P1 B) B pn; have := hy.p257; omega
    have cc : Kept (∀ w', Below w4.heap.size w4 w' → Calls Try.prog 24 #[.agg #[.int .u64 (pn : Int), .int .i64 (B : Int), .int .i64 q, .int .i64 K0, .int .i64 NN, .int .i64 (S : Int), .int .i64 (m : Int), .int .i64 (P0 : Nat), .int .i64 (P1 : Nat), .int .i64 (P1 : Nat), .int .i64 (P1 : Nat)], .agg #[.int .u64 (pn : Int), .int .i64 (pb : Int), .int .i64 vs, .slice u m c], .slice u' ps.length c', .slice u2 ls.length c2] w' (Gives (.tuple #[.bool lb, .bool qb]) w')) := ⟨fun w' hw => by
      have := consistent_c B P0 P1 S (pn : Int) q K0 NN pb vs u2 c2 ls u' c' ps u c rs w' ⟨by have := hy.b2; omega, hy.b256⟩ hy.p07 hy.p17 ksz.out.2.2.1 ksz.out.2.2.2 ksz.out.1 ksz.out.2.1 (hMt.below (Nat.le_refl _) hw) hy.good.len hc2 hform hy.good.row (hy.good.U (by have := hy.p257; omega)) (hLs.below (Nat.le_refl _) hw) hc3 hps7.out (hRw w' hw)
      rw [hlb, hqb, em.out] at this
      exact this⟩
    have cqd : Kept (∀ w', Below w4.heap.size w4 w' → Calls Try.prog 22 #[.agg #[.int .u64 (pn : Int), .int .i64 (B : Int), .int .i64 q, .int .i64 K0, .int .i64 NN, .int .i64 (S : Int), .int .i64 (m : Int), .int .i64 (P0 : Nat), .int .i64 (P1 : Nat), .int .i64 (P1 : Nat), .int .i64 (P1 : Nat)], .slice u2 ls.length c2] w' (Gives (.tuple #[.int .i64 (Nq : Int), .int .i64 0]) w')) := ⟨fun w' hw => by
      rw [← hNq]
      exact quadPasses_c B P0 P1 pn q K0 NN S m u2 c2 ls w' hy.p257 ⟨by have := hy.b2; omega, hy.b256⟩ hy.p07 hy.p17 hform (hMt.below (Nat.le_refl _) hw) hy.good.len hc2 hy.good.row⟩
    have hlin := lin_bounds hy.vld (P0 := P0) (P1 := P1) (S := S) (pub := (pb : Int)) (R := rs) (ps := ps) (by have := hy.b2; omega) hy.good ksz.out.1 ksz.out.2.1 kpl.out (fun r hr k hk t ht => by have := hvar r hr k hk t ht; have := kS.out; omega)
    rw [hlb, hN] at hlin
    have hquad : (qb = true → Nq = pn) ∧ (qb = false → Nq ≤ P1) := ⟨fun e => by rw [← hNq]; exact quad_all hy.vld (by rw [hqb]; exact e), fun e => by
      have := quad_few (b := B) hy.vld (gaps_rows (pn : Int) ls P0 P1 B) (fun l hl x hx => by
        simp only [gaps, List.mem_map] at hl
        obtain ⟨j, _, rfl⟩ := hl
        simp only [gapL, List.mem_map] at hx
        obtain ⟨k, _, rfl⟩ := hx
        unfold gapV fsub
        rw [if_pos hy.vld]
        have := vld_pos hy.vld
        exact ⟨Int.emod_nonneg _ (by omega), Int.emod_lt_of_pos _ (by omega)⟩) (by rw [hqb]; exact e)
      rw [gaps_len, hNq] at this; exact this⟩
    have cl1 : Kept (∀ w', Calls Try.prog 19 #[.agg #[.int .u64 (pn : Int), .int .i64 (B : Int), .int .i64 q, .int .i64 K0, .int .i64 NN, .int .i64 (S : Int), .int .i64 (m : Int), .int .i64 (P0 : Nat), .int .i64 (P1 : Nat), .int .i64 (P1 : Nat), .int .i64 (P1 : Nat)]] w' (Gives (.int .i64 (max 0 (3 * (m : Int) - 1))) w')) := ⟨fun w' => linearLimit_c _ _ _ _ _ _ _ _ _ _ _ w' (by omega) (by have := hy.rows; have := em.out; omega)⟩
    have cl2 : Kept (∀ w', Calls Try.prog 20 #[.agg #[.int .u64 (pn : Int), .int .i64 (B : Int), .int .i64 q, .int .i64 K0, .int .i64 NN, .int .i64 (S : Int), .int .i64 (m : Int), .int .i64 (P0 : Nat), .int .i64 (P1 : Nat), .int .i64 (P1 : Nat), .int .i64 (P1 : Nat)]] w' (Gives (.int .i64 (P1 : Nat)) w')) := ⟨fun w' => quadLimit_c _ _ _ _ _ _ _ _ _ _ _ w'⟩
    have hpn7 : pn ≤ 257 := hy.p257
    rw [em.out] at hlin
    obtain ⟨LM, hLM⟩ : ∃ LM, max 0 (3 * (m : Int) - 1) = LM := ⟨_, rfl⟩
    rw [hLM] at cl1
    have hlinI : (lb = true → (N : Int) = (pn : Int)) ∧ (lb = false → (N : Int) ≤ LM) := ⟨fun e => by rw [hlin.1 e], fun e => by have := hlin.2 e; omega⟩
    have hquadI : (qb = true → (Nq : Int) = (pn : Int)) ∧ (qb = false → (Nq : Int) ≤ (P1 : Int)) := ⟨fun e => by rw [hquad.1 e], fun e => by have := hquad.2 e; omega⟩
    have hLM0 : Kept (0 ≤ LM) := ⟨by rw [← hLM]; omega⟩
    have co : Kept (∀ w', Calls Try.prog 18 #[.agg #[.int .u64 (pn : Int), .int .i64 (B : Int), .int .i64 q, .int .i64 K0, .int .i64 NN, .int .i64 (S : Int), .int .i64 (m : Int), .int .i64 (P0 : Nat), .int .i64 (P1 : Nat), .int .i64 (P1 : Nat), .int .i64 (P1 : Nat)]] w' (Gives (.agg #[.int .u64 (pn : Int), .int .i64 (B : Int), .int .i64 q, .int .i64 K0, .int .i64 NN, .int .i64 (S : Int), .int .i64 (m : Int), .int .i64 (P0 : Nat), .int .i64 (P1 : Nat), .int .i64 (P1 : Nat), .int .i64 (P1 : Nat)]) w')) := ⟨fun w' => own29_c _ _ _ _ _ _ _ _ _ _ _ w'⟩
    clear hM hMt hform hy ky hLs hc2 cr hRw hMb hc3 kR em kpl kS hN hvar hlb hqb hNq hlin hquad hLM ksz hps7
    generalize ls.length = M at *
    generalize ps.length = np at *
    cases lb
    · cases qb
      · have hL := hlinI.2 rfl
        have hQ := hquadI.2 rfl
        have hLd : decide ((N : Int) ≤ LM) = true := by simp [hL]
        have hQd : decide ((Nq : Int) ≤ (P1 : Int)) = true := by simp [hQ]
        clear hlinI hquadI
        go_wp2_with (first | (go_at_call 12; (first | with_reducible refine use1 (awake29_c _) ?_ | with_reducible refine use (awake29_c _) ?_); intro pw) | (go_at_call 18; (first | with_reducible refine use1 (co.out _) ?_ | with_reducible refine use (co.out _) ?_); intro pw) | (go_at_call 24; (first | with_reducible refine use1 (cc.out _ (by repeat (first | exact Below.refl _ _ | refine Below.later ?_ _ | refine Below.box ?_ _ | refine Below.drew ?_ | refine Below.put ?_ (by dsimp only; omega) _))) ?_ | with_reducible refine use (cc.out _ (by repeat (first | exact Below.refl _ _ | refine Below.later ?_ _ | refine Below.box ?_ _ | refine Below.drew ?_ | refine Below.put ?_ (by dsimp only; omega) _))) ?_); intro pw) | (go_at_call 28; (first | with_reducible refine use1 (cq.out _ (by repeat (first | exact Below.refl _ _ | refine Below.later ?_ _ | refine Below.box ?_ _ | refine Below.drew ?_ | refine Below.put ?_ (by dsimp only; omega) _))) ?_ | with_reducible refine use (cq.out _ (by repeat (first | exact Below.refl _ _ | refine Below.later ?_ _ | refine Below.box ?_ _ | refine Below.drew ?_ | refine Below.put ?_ (by dsimp only; omega) _))) ?_); intro pw) | (go_at_call 22; (first | with_reducible refine use1 (cqd.out _ (by repeat (first | exact Below.refl _ _ | refine Below.later ?_ _ | refine Below.box ?_ _ | refine Below.drew ?_ | refine Below.put ?_ (by dsimp only; omega) _))) ?_ | with_reducible refine use (cqd.out _ (by repeat (first | exact Below.refl _ _ | refine Below.later ?_ _ | refine Below.box ?_ _ | refine Below.drew ?_ | refine Below.put ?_ (by dsimp only; omega) _))) ?_); intro pw) | (go_at_call 19; (first | with_reducible refine use1 (cl1.out _) ?_ | with_reducible refine use (cl1.out _) ?_); intro pw) | (go_at_call 20; (first | with_reducible refine use1 (cl2.out _) ?_ | with_reducible refine use (cl2.out _) ?_); intro pw))
        repeat (
          (first | refine region_quiet1 (by kernel_rfl) ?_ | refine region_quiet (by kernel_rfl) ?_)
          repeat (go_big_quiet_step (first | (go_at_call 12; with_reducible exact quiet (awake29_c _)) | (go_at_call 18; with_reducible exact quiet (co.out _)) | (go_at_call 24; with_reducible exact quiet (cc.out _ (by repeat (first | exact Below.refl _ _ | refine Below.later ?_ _ | refine Below.box ?_ _ | refine Below.drew ?_ | refine Below.put ?_ (by dsimp only; omega) _)))) | (go_at_call 28; with_reducible exact quiet (cq.out _ (by repeat (first | exact Below.refl _ _ | refine Below.later ?_ _ | refine Below.box ?_ _ | refine Below.drew ?_ | refine Below.put ?_ (by dsimp only; omega) _)))) | (go_at_call 22; with_reducible exact quiet (cqd.out _ (by repeat (first | exact Below.refl _ _ | refine Below.later ?_ _ | refine Below.box ?_ _ | refine Below.drew ?_ | refine Below.put ?_ (by dsimp only; omega) _)))) | (go_at_call 19; with_reducible exact quiet (cl1.out _)) | (go_at_call 20; with_reducible exact quiet (cl2.out _))))
          refine wpQuiet_nil ?_
          intro _
          go_wp2_with (first | (go_at_call 12; (first | with_reducible refine use1 (awake29_c _) ?_ | with_reducible refine use (awake29_c _) ?_); intro pw) | (go_at_call 18; (first | with_reducible refine use1 (co.out _) ?_ | with_reducible refine use (co.out _) ?_); intro pw) | (go_at_call 24; (first | with_reducible refine use1 (cc.out _ (by repeat (first | exact Below.refl _ _ | refine Below.later ?_ _ | refine Below.box ?_ _ | refine Below.drew ?_ | refine Below.put ?_ (by dsimp only; omega) _))) ?_ | with_reducible refine use (cc.out _ (by repeat (first | exact Below.refl _ _ | refine Below.later ?_ _ | refine Below.box ?_ _ | refine Below.drew ?_ | refine Below.put ?_ (by dsimp only; omega) _))) ?_); intro pw) | (go_at_call 28; (first | with_reducible refine use1 (cq.out _ (by repeat (first | exact Below.refl _ _ | refine Below.later ?_ _ | refine Below.box ?_ _ | refine Below.drew ?_ | refine Below.put ?_ (by dsimp only; omega) _))) ?_ | with_reducible refine use (cq.out _ (by repeat (first | exact Below.refl _ _ | refine Below.later ?_ _ | refine Below.box ?_ _ | refine Below.drew ?_ | refine Below.put ?_ (by dsimp only; omega) _))) ?_); intro pw) | (go_at_call 22; (first | with_reducible refine use1 (cqd.out _ (by repeat (first | exact Below.refl _ _ | refine Below.later ?_ _ | refine Below.box ?_ _ | refine Below.drew ?_ | refine Below.put ?_ (by dsimp only; omega) _))) ?_ | with_reducible refine use (cqd.out _ (by repeat (first | exact Below.refl _ _ | refine Below.later ?_ _ | refine Below.box ?_ _ | refine Below.drew ?_ | refine Below.put ?_ (by dsimp only; omega) _))) ?_); intro pw) | (go_at_call 19; (first | with_reducible refine use1 (cl1.out _) ?_ | with_reducible refine use (cl1.out _) ?_); intro pw) | (go_at_call 20; (first | with_reducible refine use1 (cl2.out _) ?_ | with_reducible refine use (cl2.out _) ?_); intro pw)))
        go_ret
        exact ⟨by simp, Below.next hB4.out (by repeat (first | exact Below.refl _ _ | refine Below.later ?_ _ | refine Below.box ?_ _ | refine Below.drew ?_ | refine Below.put ?_ (by dsimp only; omega) _))⟩
      · have hL := hlinI.2 rfl
        have hQ := hquadI.1 rfl
        have hLd : decide ((N : Int) ≤ LM) = true := by simp [hL]
        have hQd : ((Nq : Int) != (pn : Int)) = false := by simp [hQ]
        obtain rfl : Nq = pn := by omega
        clear hlinI hquadI
        go_wp2_with (first | (go_at_call 12; (first | with_reducible refine use1 (awake29_c _) ?_ | with_reducible refine use (awake29_c _) ?_); intro pw) | (go_at_call 18; (first | with_reducible refine use1 (co.out _) ?_ | with_reducible refine use (co.out _) ?_); intro pw) | (go_at_call 24; (first | with_reducible refine use1 (cc.out _ (by repeat (first | exact Below.refl _ _ | refine Below.later ?_ _ | refine Below.box ?_ _ | refine Below.drew ?_ | refine Below.put ?_ (by dsimp only; omega) _))) ?_ | with_reducible refine use (cc.out _ (by repeat (first | exact Below.refl _ _ | refine Below.later ?_ _ | refine Below.box ?_ _ | refine Below.drew ?_ | refine Below.put ?_ (by dsimp only; omega) _))) ?_); intro pw) | (go_at_call 28; (first | with_reducible refine use1 (cq.out _ (by repeat (first | exact Below.refl _ _ | refine Below.later ?_ _ | refine Below.box ?_ _ | refine Below.drew ?_ | refine Below.put ?_ (by dsimp only; omega) _))) ?_ | with_reducible refine use (cq.out _ (by repeat (first | exact Below.refl _ _ | refine Below.later ?_ _ | refine Below.box ?_ _ | refine Below.drew ?_ | refine Below.put ?_ (by dsimp only; omega) _))) ?_); intro pw) | (go_at_call 22; (first | with_reducible refine use1 (cqd.out _ (by repeat (first | exact Below.refl _ _ | refine Below.later ?_ _ | refine Below.box ?_ _ | refine Below.drew ?_ | refine Below.put ?_ (by dsimp only; omega) _))) ?_ | with_reducible refine use (cqd.out _ (by repeat (first | exact Below.refl _ _ | refine Below.later ?_ _ | refine Below.box ?_ _ | refine Below.drew ?_ | refine Below.put ?_ (by dsimp only; omega) _))) ?_); intro pw) | (go_at_call 19; (first | with_reducible refine use1 (cl1.out _) ?_ | with_reducible refine use (cl1.out _) ?_); intro pw) | (go_at_call 20; (first | with_reducible refine use1 (cl2.out _) ?_ | with_reducible refine use (cl2.out _) ?_); intro pw))
        repeat (
          (first | refine region_quiet1 (by kernel_rfl) ?_ | refine region_quiet (by kernel_rfl) ?_)
          repeat (go_big_quiet_step (first | (go_at_call 12; with_reducible exact quiet (awake29_c _)) | (go_at_call 18; with_reducible exact quiet (co.out _)) | (go_at_call 24; with_reducible exact quiet (cc.out _ (by repeat (first | exact Below.refl _ _ | refine Below.later ?_ _ | refine Below.box ?_ _ | refine Below.drew ?_ | refine Below.put ?_ (by dsimp only; omega) _)))) | (go_at_call 28; with_reducible exact quiet (cq.out _ (by repeat (first | exact Below.refl _ _ | refine Below.later ?_ _ | refine Below.box ?_ _ | refine Below.drew ?_ | refine Below.put ?_ (by dsimp only; omega) _)))) | (go_at_call 22; with_reducible exact quiet (cqd.out _ (by repeat (first | exact Below.refl _ _ | refine Below.later ?_ _ | refine Below.box ?_ _ | refine Below.drew ?_ | refine Below.put ?_ (by dsimp only; omega) _)))) | (go_at_call 19; with_reducible exact quiet (cl1.out _)) | (go_at_call 20; with_reducible exact quiet (cl2.out _))))
          refine wpQuiet_nil ?_
          intro _
          go_wp2_with (first | (go_at_call 12; (first | with_reducible refine use1 (awake29_c _) ?_ | with_reducible refine use (awake29_c _) ?_); intro pw) | (go_at_call 18; (first | with_reducible refine use1 (co.out _) ?_ | with_reducible refine use (co.out _) ?_); intro pw) | (go_at_call 24; (first | with_reducible refine use1 (cc.out _ (by repeat (first | exact Below.refl _ _ | refine Below.later ?_ _ | refine Below.box ?_ _ | refine Below.drew ?_ | refine Below.put ?_ (by dsimp only; omega) _))) ?_ | with_reducible refine use (cc.out _ (by repeat (first | exact Below.refl _ _ | refine Below.later ?_ _ | refine Below.box ?_ _ | refine Below.drew ?_ | refine Below.put ?_ (by dsimp only; omega) _))) ?_); intro pw) | (go_at_call 28; (first | with_reducible refine use1 (cq.out _ (by repeat (first | exact Below.refl _ _ | refine Below.later ?_ _ | refine Below.box ?_ _ | refine Below.drew ?_ | refine Below.put ?_ (by dsimp only; omega) _))) ?_ | with_reducible refine use (cq.out _ (by repeat (first | exact Below.refl _ _ | refine Below.later ?_ _ | refine Below.box ?_ _ | refine Below.drew ?_ | refine Below.put ?_ (by dsimp only; omega) _))) ?_); intro pw) | (go_at_call 22; (first | with_reducible refine use1 (cqd.out _ (by repeat (first | exact Below.refl _ _ | refine Below.later ?_ _ | refine Below.box ?_ _ | refine Below.drew ?_ | refine Below.put ?_ (by dsimp only; omega) _))) ?_ | with_reducible refine use (cqd.out _ (by repeat (first | exact Below.refl _ _ | refine Below.later ?_ _ | refine Below.box ?_ _ | refine Below.drew ?_ | refine Below.put ?_ (by dsimp only; omega) _))) ?_); intro pw) | (go_at_call 19; (first | with_reducible refine use1 (cl1.out _) ?_ | with_reducible refine use (cl1.out _) ?_); intro pw) | (go_at_call 20; (first | with_reducible refine use1 (cl2.out _) ?_ | with_reducible refine use (cl2.out _) ?_); intro pw)))
        go_ret
        exact ⟨by simp, Below.next hB4.out (by repeat (first | exact Below.refl _ _ | refine Below.later ?_ _ | refine Below.box ?_ _ | refine Below.drew ?_ | refine Below.put ?_ (by dsimp only; omega) _))⟩
    · cases qb
      · have hL := hlinI.1 rfl
        have hQ := hquadI.2 rfl
        have hLd : ((N : Int) != (pn : Int)) = false := by simp [hL]
        have hQd : decide ((Nq : Int) ≤ (P1 : Int)) = true := by simp [hQ]
        obtain rfl : N = pn := by omega
        clear hlinI hquadI
        go_wp2_with (first | (go_at_call 12; (first | with_reducible refine use1 (awake29_c _) ?_ | with_reducible refine use (awake29_c _) ?_); intro pw) | (go_at_call 18; (first | with_reducible refine use1 (co.out _) ?_ | with_reducible refine use (co.out _) ?_); intro pw) | (go_at_call 24; (first | with_reducible refine use1 (cc.out _ (by repeat (first | exact Below.refl _ _ | refine Below.later ?_ _ | refine Below.box ?_ _ | refine Below.drew ?_ | refine Below.put ?_ (by dsimp only; omega) _))) ?_ | with_reducible refine use (cc.out _ (by repeat (first | exact Below.refl _ _ | refine Below.later ?_ _ | refine Below.box ?_ _ | refine Below.drew ?_ | refine Below.put ?_ (by dsimp only; omega) _))) ?_); intro pw) | (go_at_call 28; (first | with_reducible refine use1 (cq.out _ (by repeat (first | exact Below.refl _ _ | refine Below.later ?_ _ | refine Below.box ?_ _ | refine Below.drew ?_ | refine Below.put ?_ (by dsimp only; omega) _))) ?_ | with_reducible refine use (cq.out _ (by repeat (first | exact Below.refl _ _ | refine Below.later ?_ _ | refine Below.box ?_ _ | refine Below.drew ?_ | refine Below.put ?_ (by dsimp only; omega) _))) ?_); intro pw) | (go_at_call 22; (first | with_reducible refine use1 (cqd.out _ (by repeat (first | exact Below.refl _ _ | refine Below.later ?_ _ | refine Below.box ?_ _ | refine Below.drew ?_ | refine Below.put ?_ (by dsimp only; omega) _))) ?_ | with_reducible refine use (cqd.out _ (by repeat (first | exact Below.refl _ _ | refine Below.later ?_ _ | refine Below.box ?_ _ | refine Below.drew ?_ | refine Below.put ?_ (by dsimp only; omega) _))) ?_); intro pw) | (go_at_call 19; (first | with_reducible refine use1 (cl1.out _) ?_ | with_reducible refine use (cl1.out _) ?_); intro pw) | (go_at_call 20; (first | with_reducible refine use1 (cl2.out _) ?_ | with_reducible refine use (cl2.out _) ?_); intro pw))
        repeat (
          (first | refine region_quiet1 (by kernel_rfl) ?_ | refine region_quiet (by kernel_rfl) ?_)
          repeat (go_big_quiet_step (first | (go_at_call 12; with_reducible exact quiet (awake29_c _)) | (go_at_call 18; with_reducible exact quiet (co.out _)) | (go_at_call 24; with_reducible exact quiet (cc.out _ (by repeat (first | exact Below.refl _ _ | refine Below.later ?_ _ | refine Below.box ?_ _ | refine Below.drew ?_ | refine Below.put ?_ (by dsimp only; omega) _)))) | (go_at_call 28; with_reducible exact quiet (cq.out _ (by repeat (first | exact Below.refl _ _ | refine Below.later ?_ _ | refine Below.box ?_ _ | refine Below.drew ?_ | refine Below.put ?_ (by dsimp only; omega) _)))) | (go_at_call 22; with_reducible exact quiet (cqd.out _ (by repeat (first | exact Below.refl _ _ | refine Below.later ?_ _ | refine Below.box ?_ _ | refine Below.drew ?_ | refine Below.put ?_ (by dsimp only; omega) _)))) | (go_at_call 19; with_reducible exact quiet (cl1.out _)) | (go_at_call 20; with_reducible exact quiet (cl2.out _))))
          refine wpQuiet_nil ?_
          intro _
          go_wp2_with (first | (go_at_call 12; (first | with_reducible refine use1 (awake29_c _) ?_ | with_reducible refine use (awake29_c _) ?_); intro pw) | (go_at_call 18; (first | with_reducible refine use1 (co.out _) ?_ | with_reducible refine use (co.out _) ?_); intro pw) | (go_at_call 24; (first | with_reducible refine use1 (cc.out _ (by repeat (first | exact Below.refl _ _ | refine Below.later ?_ _ | refine Below.box ?_ _ | refine Below.drew ?_ | refine Below.put ?_ (by dsimp only; omega) _))) ?_ | with_reducible refine use (cc.out _ (by repeat (first | exact Below.refl _ _ | refine Below.later ?_ _ | refine Below.box ?_ _ | refine Below.drew ?_ | refine Below.put ?_ (by dsimp only; omega) _))) ?_); intro pw) | (go_at_call 28; (first | with_reducible refine use1 (cq.out _ (by repeat (first | exact Below.refl _ _ | refine Below.later ?_ _ | refine Below.box ?_ _ | refine Below.drew ?_ | refine Below.put ?_ (by dsimp only; omega) _))) ?_ | with_reducible refine use (cq.out _ (by repeat (first | exact Below.refl _ _ | refine Below.later ?_ _ | refine Below.box ?_ _ | refine Below.drew ?_ | refine Below.put ?_ (by dsimp only; omega) _))) ?_); intro pw) | (go_at_call 22; (first | with_reducible refine use1 (cqd.out _ (by repeat (first | exact Below.refl _ _ | refine Below.later ?_ _ | refine Below.box ?_ _ | refine Below.drew ?_ | refine Below.put ?_ (by dsimp only; omega) _))) ?_ | with_reducible refine use (cqd.out _ (by repeat (first | exact Below.refl _ _ | refine Below.later ?_ _ | refine Below.box ?_ _ | refine Below.drew ?_ | refine Below.put ?_ (by dsimp only; omega) _))) ?_); intro pw) | (go_at_call 19; (first | with_reducible refine use1 (cl1.out _) ?_ | with_reducible refine use (cl1.out _) ?_); intro pw) | (go_at_call 20; (first | with_reducible refine use1 (cl2.out _) ?_ | with_reducible refine use (cl2.out _) ?_); intro pw)))
        go_ret
        exact ⟨by simp, Below.next hB4.out (by repeat (first | exact Below.refl _ _ | refine Below.later ?_ _ | refine Below.box ?_ _ | refine Below.drew ?_ | refine Below.put ?_ (by dsimp only; omega) _))⟩
      · have hL := hlinI.1 rfl
        have hQ := hquadI.1 rfl
        have hLd : ((N : Int) != (pn : Int)) = false := by simp [hL]
        have hQd : ((Nq : Int) != (pn : Int)) = false := by simp [hQ]
        obtain rfl : N = pn := by omega
        obtain rfl : Nq = N := by omega
        clear hlinI hquadI
        go_wp2_with (first | (go_at_call 12; (first | with_reducible refine use1 (awake29_c _) ?_ | with_reducible refine use (awake29_c _) ?_); intro pw) | (go_at_call 18; (first | with_reducible refine use1 (co.out _) ?_ | with_reducible refine use (co.out _) ?_); intro pw) | (go_at_call 24; (first | with_reducible refine use1 (cc.out _ (by repeat (first | exact Below.refl _ _ | refine Below.later ?_ _ | refine Below.box ?_ _ | refine Below.drew ?_ | refine Below.put ?_ (by dsimp only; omega) _))) ?_ | with_reducible refine use (cc.out _ (by repeat (first | exact Below.refl _ _ | refine Below.later ?_ _ | refine Below.box ?_ _ | refine Below.drew ?_ | refine Below.put ?_ (by dsimp only; omega) _))) ?_); intro pw) | (go_at_call 28; (first | with_reducible refine use1 (cq.out _ (by repeat (first | exact Below.refl _ _ | refine Below.later ?_ _ | refine Below.box ?_ _ | refine Below.drew ?_ | refine Below.put ?_ (by dsimp only; omega) _))) ?_ | with_reducible refine use (cq.out _ (by repeat (first | exact Below.refl _ _ | refine Below.later ?_ _ | refine Below.box ?_ _ | refine Below.drew ?_ | refine Below.put ?_ (by dsimp only; omega) _))) ?_); intro pw) | (go_at_call 22; (first | with_reducible refine use1 (cqd.out _ (by repeat (first | exact Below.refl _ _ | refine Below.later ?_ _ | refine Below.box ?_ _ | refine Below.drew ?_ | refine Below.put ?_ (by dsimp only; omega) _))) ?_ | with_reducible refine use (cqd.out _ (by repeat (first | exact Below.refl _ _ | refine Below.later ?_ _ | refine Below.box ?_ _ | refine Below.drew ?_ | refine Below.put ?_ (by dsimp only; omega) _))) ?_); intro pw) | (go_at_call 19; (first | with_reducible refine use1 (cl1.out _) ?_ | with_reducible refine use (cl1.out _) ?_); intro pw) | (go_at_call 20; (first | with_reducible refine use1 (cl2.out _) ?_ | with_reducible refine use (cl2.out _) ?_); intro pw))
        repeat (
          (first | refine region_quiet1 (by kernel_rfl) ?_ | refine region_quiet (by kernel_rfl) ?_)
          repeat (go_big_quiet_step (first | (go_at_call 12; with_reducible exact quiet (awake29_c _)) | (go_at_call 18; with_reducible exact quiet (co.out _)) | (go_at_call 24; with_reducible exact quiet (cc.out _ (by repeat (first | exact Below.refl _ _ | refine Below.later ?_ _ | refine Below.box ?_ _ | refine Below.drew ?_ | refine Below.put ?_ (by dsimp only; omega) _)))) | (go_at_call 28; with_reducible exact quiet (cq.out _ (by repeat (first | exact Below.refl _ _ | refine Below.later ?_ _ | refine Below.box ?_ _ | refine Below.drew ?_ | refine Below.put ?_ (by dsimp only; omega) _)))) | (go_at_call 22; with_reducible exact quiet (cqd.out _ (by repeat (first | exact Below.refl _ _ | refine Below.later ?_ _ | refine Below.box ?_ _ | refine Below.drew ?_ | refine Below.put ?_ (by dsimp only; omega) _)))) | (go_at_call 19; with_reducible exact quiet (cl1.out _)) | (go_at_call 20; with_reducible exact quiet (cl2.out _))))
          refine wpQuiet_nil ?_
          intro _
          go_wp2_with (first | (go_at_call 12; (first | with_reducible refine use1 (awake29_c _) ?_ | with_reducible refine use (awake29_c _) ?_); intro pw) | (go_at_call 18; (first | with_reducible refine use1 (co.out _) ?_ | with_reducible refine use (co.out _) ?_); intro pw) | (go_at_call 24; (first | with_reducible refine use1 (cc.out _ (by repeat (first | exact Below.refl _ _ | refine Below.later ?_ _ | refine Below.box ?_ _ | refine Below.drew ?_ | refine Below.put ?_ (by dsimp only; omega) _))) ?_ | with_reducible refine use (cc.out _ (by repeat (first | exact Below.refl _ _ | refine Below.later ?_ _ | refine Below.box ?_ _ | refine Below.drew ?_ | refine Below.put ?_ (by dsimp only; omega) _))) ?_); intro pw) | (go_at_call 28; (first | with_reducible refine use1 (cq.out _ (by repeat (first | exact Below.refl _ _ | refine Below.later ?_ _ | refine Below.box ?_ _ | refine Below.drew ?_ | refine Below.put ?_ (by dsimp only; omega) _))) ?_ | with_reducible refine use (cq.out _ (by repeat (first | exact Below.refl _ _ | refine Below.later ?_ _ | refine Below.box ?_ _ | refine Below.drew ?_ | refine Below.put ?_ (by dsimp only; omega) _))) ?_); intro pw) | (go_at_call 22; (first | with_reducible refine use1 (cqd.out _ (by repeat (first | exact Below.refl _ _ | refine Below.later ?_ _ | refine Below.box ?_ _ | refine Below.drew ?_ | refine Below.put ?_ (by dsimp only; omega) _))) ?_ | with_reducible refine use (cqd.out _ (by repeat (first | exact Below.refl _ _ | refine Below.later ?_ _ | refine Below.box ?_ _ | refine Below.drew ?_ | refine Below.put ?_ (by dsimp only; omega) _))) ?_); intro pw) | (go_at_call 19; (first | with_reducible refine use1 (cl1.out _) ?_ | with_reducible refine use (cl1.out _) ?_); intro pw) | (go_at_call 20; (first | with_reducible refine use1 (cl2.out _) ?_ | with_reducible refine use (cl2.out _) ?_); intro pw)))
        go_ret
        exact ⟨by simp, Below.next hB4.out (by repeat (first | exact Below.refl _ _ | refine Below.later ?_ _ | refine Below.box ?_ _ | refine Below.drew ?_ | refine Below.put ?_ (by dsimp only; omega) _))⟩

set_option maxRecDepth 100000 in
theorem lifted (os : Os) (started : os.Started) (H : Type) (enc : TypeId × Value → H) :
    ReturnsInHanded {} Try.checked os 11 .any (Rows.soundnessBoundsSpec.pre6 enc Try.prog Try.f11 Rows.soundnessBoundsRow.domain false) (Rows.soundnessBoundsSpec.post enc Try.prog Try.f11 false true false false) := by
  refine returnsInHanded_of_change (C := Try.checked) own started (by kernel_rfl) Try.func11
    (ChangeSpec.witness6 (enc := enc) (C := Try.checked) false ⟨#[], #[.agg #[.int .u64 0, .int .i64 0, .int .i64 0, .slice none 0 0, .int .i64 0, .int .i64 0, .int .i64 0, .slice none 0 0, .slice none 0 0, .slice none 0 0]], []⟩ 8 (by kernel_rfl) (by kernel_rfl) (by kernel_rfl) (by kernel_rfl)) ?_
  intro W base args ds gs before hval0 hW hcnd _
  have hval : ∀ (j : Nat) t v, Try.f11.params[j]? = some t → args[j]? = some v → Value.okWide Try.prog W .any base t v := hval0
  have hW0 : DataW.Whole enc Try.prog Try.f11.params.toList Rows.soundnessBoundsSpec.vars false W args.toList ds gs before := hW
  obtain ⟨p, q, hA0, hV, rfl, _, _⟩ := hW
  have hA : DataW.TrodAll enc Try.prog W 0 (fun _ => true) true Try.f11.params.toList args.toList ds p := hA0
  rw [Try.params11] at hA hval
  obtain ⟨v0, vs0, d0, ds0, p0, q0, hargs, rfl, rfl, h0, r0⟩ := trodAll_cons hA
  obtain ⟨rfl, rfl, rfl⟩ := trodAll_nil r0
  obtain rfl : args = #[v0] := by cases args; simp_all
  obtain ⟨rfl, rfl⟩ := trodVars_none hV
  obtain ⟨a0x, a0y, a0z, a0u, a0v, a0t, a0r, a0s, a0q, a0o, a0m, a0k, a0a, a0b, a0c, a0d, a0e, a0f, rfl, u0⟩ := open_problem (hval 0 52 v0 rfl rfl) h0
  clear hA0 hval0
  refine (walk W a0x a0y a0z a0u a0v a0t a0r a0s a0q a0o a0m a0k a0a a0b a0c a0d a0e a0f u0).mono fun e W' ⟨he, hb⟩ => ⟨.bool true, he, ?_⟩
  exact law_post (fun t ht => by have ht' : t ∈ [52] := ht; simp only [List.mem_cons, List.not_mem_nil, or_false] at ht'; rcases ht' with rfl <;> exact ⟨by kernel_rfl, of_decide_eq_true (by kernel_rfl)⟩) rfl rfl hW0 rfl hb

theorem over : Rows.soundnessBoundsRow.holds Try.pinned (OpenSpec.ofChange Rows.soundnessBoundsSpec) :=
  OpenClaim.holds_of_wide 11 Try.f11 rfl rfl rfl rfl rfl rfl rfl ⟨rfl, rfl, rfl, rfl, rfl⟩ rfl rfl rfl rfl rfl (by kernel_rfl) Try.func11 (by kernel_rfl)
    (of_decide_eq_true (by kernel_rfl)) (by unfold Func.isWrapper; first | (rw [if_pos (by decide +kernel)]; kernel_rfl) | (rw [if_neg (by decide +kernel)]; exact ⟨rfl, rfl⟩))
    (fun os started H enc _ => lifted os started H enc)

/-- The statement. -/
theorem proved : Rows.SoundnessBoundsSaid := over
#print axioms proved
end Go.Proofs.Ytkpkgjniicnkcaa.soundnessBounds
