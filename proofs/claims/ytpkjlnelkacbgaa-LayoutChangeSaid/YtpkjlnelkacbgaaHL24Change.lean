/- LayoutChange: for any case, any place and any change the call returns true: where the case is right (up to 20 rows, a prime up to 257 that is not less than three times the rows) and the change is not 0, the combination yields the target for all rho exactly if the changed element's coefficient is 0 for all rho; others are passed over. No condition. -/
import Derived.Test.YtpkjlnelkacbgaaHL24c
import Derived.Deep.RegionHeld3
import Derived.Test.YtpkjlnelkacbgaaHLms
import Derived.Test.YtpkjlnelkacbgaaHLch
namespace Go.Proofs.Ytpkjlnelkacbgaa.layoutChange
open Go.ChangeShapes Go.WideShapes Go.ChangeAt Go.RowKit Go.Sort

set_option maxRecDepth 100000
set_option maxHeartbeats 16000000 in
theorem walk (w : World) (p pub vs : Int) (u : Option Addr) (c : Nat) (rs : List Rw) (b bl q : Int) (uw : Option Addr) (l : List Int) (cw : Nat)
    (h : U p ∧ I pub ∧ I vs ∧ Rws w u rs ∧ I b ∧ I bl ∧ I q ∧ Ls w uw l ∧ (uw = none → cw = 0) ∧ l.length ≤ cw) (at' : Int) (hat : 0 ≤ at' ∧ at' ≤ 65535) (by' : Int) (hby : U by') :
    Calls Try.prog 8 #[.agg #[.int .u64 p, .int .i64 pub, .int .i64 vs, .slice u rs.length c, .int .i64 b, .int .i64 bl, .int .i64 q, .slice uw l.length cw], .int .u16 at', .int .u64 by'] w (Gives (.bool true) w) := by
  obtain ⟨hU, _, _, hR, _, _, _, hL, _, hcw⟩ := h
  have hs1 := hR.small
  have hs2 := hL.small
  rcases right24_c p pub vs b bl q 20 u c rs uw cw l w hR hL with h0 | ⟨pb, B, S, P0, P1, K, NN, rfl, rfl, y, h0⟩
  · have cr := (⟨h0⟩ : Kept _)
    clear h0 hR hL
    generalize rs.length = m at *
    generalize l.length = n at *
    go_enter Try.func8, Try.ntmps8
    go_wp2_with (first | (go_at_call 17; (first | with_reducible refine use1 (cr.out _ (by repeat (first | exact Below.refl _ _ | refine Below.later ?_ _ | refine Below.box ?_ _ | refine Below.drew ?_ | refine Below.put ?_ (by dsimp only; omega) _))) ?_ | with_reducible refine use (cr.out _ (by repeat (first | exact Below.refl _ _ | refine Below.later ?_ _ | refine Below.box ?_ _ | refine Below.drew ?_ | refine Below.put ?_ (by dsimp only; omega) _))) ?_); intro pw) | (go_at_call 10; (first | with_reducible refine use1 (awake24_c _) ?_ | with_reducible refine use (awake24_c _) ?_); intro pw))
    go_ret
    exact ⟨rfl, (by repeat (first | exact Below.refl _ _ | refine Below.later ?_ _ | refine Below.box ?_ _ | refine Below.drew ?_ | refine Below.put ?_ (by dsimp only; omega) _))⟩
  have cr := (⟨h0⟩ : Kept _)
  have hls := y.hls
  have hp17 := (vld_pos y.vld).1
  have hp0 : p ≠ 0 := by omega
  have hp1 : (p == 0) = false := by simp; omega
  have hm20 : (rs.length : Int) ≤ 20 := y.hm
  have hw3 : IntKind.i64.wrap (3 * (rs.length : Int)) = 3 * (rs.length : Int) := by rw [IntKind.wrap_i64]; omega
  have hw3u : IntKind.u64.wrap (3 * (rs.length : Int)) = 3 * (rs.length : Int) := by rw [IntKind.wrap_u64]; omega
  have hw3v : (3 * (rs.length : Int)) % 18446744073709551616 = 3 * (rs.length : Int) := by omega
  obtain ⟨bm, hbm⟩ : ∃ bm, by' % p = bm := ⟨_, rfl⟩
  have hbt : by'.tmod p = bm := by rw [Int.tmod_eq_emod_of_nonneg hby.1]; exact hbm
  obtain ⟨N, hN⟩ : ∃ N, P0 + P1 + P1 + P1 = N := ⟨_, rfl⟩
  have hN6 : N ≤ 280000 := by have := y.p0; have := y.p1; omega
  have ct : Kept (∀ w', ∀ K NN : Int, Calls Try.prog 16 #[.agg #[.int .u64 p, .int .i64 (B : Int), .int .i64 q, .int .i64 K, .int .i64 NN, .int .i64 (S : Int), .int .i64 rs.length, .int .i64 (P0 : Nat), .int .i64 (P1 : Nat), .int .i64 (P1 : Nat), .int .i64 (P1 : Nat)]] w' (Gives (.int .i64 (N : Int)) w')) := ⟨fun w' K NN => by
    have h0 := y.p0
    have h1 := y.p1
    have := rtotal_c p B q K NN S rs.length P0 P1 P1 P1 w' (by omega) (by omega) (by omega) (by omega)
    rw [show (P0 : Int) + (P1 : Int) + (P1 : Int) + (P1 : Int) = (N : Int) by omega] at this
    exact this⟩
  by_cases g1 : p ≤ 257
  case neg =>
    have g1a : decide (p > 257) = true := by simp; omega
    have g1b : decide (257 < p) = true := by simp; omega
    clear h0 hR hL y hls hN
    generalize rs.length = m at *
    generalize l.length = n at *
    go_enter Try.func8, Try.ntmps8
    go_wp2_with (first | (go_at_call 17; (first | with_reducible refine use1 (cr.out _ (by repeat (first | exact Below.refl _ _ | refine Below.later ?_ _ | refine Below.box ?_ _ | refine Below.drew ?_ | refine Below.put ?_ (by dsimp only; omega) _))) ?_ | with_reducible refine use (cr.out _ (by repeat (first | exact Below.refl _ _ | refine Below.later ?_ _ | refine Below.box ?_ _ | refine Below.drew ?_ | refine Below.put ?_ (by dsimp only; omega) _))) ?_); intro pw) | (go_at_call 10; (first | with_reducible refine use1 (awake24_c _) ?_ | with_reducible refine use (awake24_c _) ?_); intro pw) | (go_at_call 16; (first | with_reducible refine use1 (ct.out _ _ _) ?_ | with_reducible refine use (ct.out _ _ _) ?_); intro pw))
    go_ret
    exact ⟨rfl, (by repeat (first | exact Below.refl _ _ | refine Below.later ?_ _ | refine Below.box ?_ _ | refine Below.drew ?_ | refine Below.put ?_ (by dsimp only; omega) _))⟩
  have g1a : decide (p > 257) = false := by simp; omega
  have g1b : decide (257 < p) = false := by simp; omega
  by_cases g2 : 3 * (rs.length : Int) ≤ p
  case neg =>
    have g2a : decide (3 * (rs.length : Int) > p) = true := by simp; omega
    have g2b : decide (p < 3 * (rs.length : Int)) = true := by simp; omega
    clear h0 hR hL y hls hN
    generalize rs.length = m at *
    generalize l.length = n at *
    go_enter Try.func8, Try.ntmps8
    go_wp2_with (first | (go_at_call 17; (first | with_reducible refine use1 (cr.out _ (by repeat (first | exact Below.refl _ _ | refine Below.later ?_ _ | refine Below.box ?_ _ | refine Below.drew ?_ | refine Below.put ?_ (by dsimp only; omega) _))) ?_ | with_reducible refine use (cr.out _ (by repeat (first | exact Below.refl _ _ | refine Below.later ?_ _ | refine Below.box ?_ _ | refine Below.drew ?_ | refine Below.put ?_ (by dsimp only; omega) _))) ?_); intro pw) | (go_at_call 10; (first | with_reducible refine use1 (awake24_c _) ?_ | with_reducible refine use (awake24_c _) ?_); intro pw) | (go_at_call 16; (first | with_reducible refine use1 (ct.out _ _ _) ?_ | with_reducible refine use (ct.out _ _ _) ?_); intro pw))
    go_ret
    exact ⟨rfl, (by repeat (first | exact Below.refl _ _ | refine Below.later ?_ _ | refine Below.box ?_ _ | refine Below.drew ?_ | refine Below.put ?_ (by dsimp only; omega) _))⟩
  have g2a : decide (3 * (rs.length : Int) > p) = false := by simp; omega
  have g2b : decide (p < 3 * (rs.length : Int)) = false := by simp; omega
  by_cases g3 : bm = 0
  case pos =>
    have g3a : (bm == 0) = true := by simp [g3]
    clear h0 hR hL y hls hN hbm
    generalize rs.length = m at *
    generalize l.length = n at *
    go_enter Try.func8, Try.ntmps8
    go_wp2_with (first | (go_at_call 17; (first | with_reducible refine use1 (cr.out _ (by repeat (first | exact Below.refl _ _ | refine Below.later ?_ _ | refine Below.box ?_ _ | refine Below.drew ?_ | refine Below.put ?_ (by dsimp only; omega) _))) ?_ | with_reducible refine use (cr.out _ (by repeat (first | exact Below.refl _ _ | refine Below.later ?_ _ | refine Below.box ?_ _ | refine Below.drew ?_ | refine Below.put ?_ (by dsimp only; omega) _))) ?_); intro pw) | (go_at_call 10; (first | with_reducible refine use1 (awake24_c _) ?_ | with_reducible refine use (awake24_c _) ?_); intro pw) | (go_at_call 16; (first | with_reducible refine use1 (ct.out _ _ _) ?_ | with_reducible refine use (ct.out _ _ _) ?_); intro pw))
    go_ret
    exact ⟨rfl, (by repeat (first | exact Below.refl _ _ | refine Below.later ?_ _ | refine Below.box ?_ _ | refine Below.drew ?_ | refine Below.put ?_ (by dsimp only; omega) _))⟩
  have g3a : (bm == 0) = false := by simp [g3]
  by_cases g4 : N = 0
  case pos =>
    clear h0 hR hL y hls hN
    subst g4
    generalize rs.length = m at *
    generalize l.length = n at *
    go_enter Try.func8, Try.ntmps8
    go_wp2_with (first | (go_at_call 17; (first | with_reducible refine use1 (cr.out _ (by repeat (first | exact Below.refl _ _ | refine Below.later ?_ _ | refine Below.box ?_ _ | refine Below.drew ?_ | refine Below.put ?_ (by dsimp only; omega) _))) ?_ | with_reducible refine use (cr.out _ (by repeat (first | exact Below.refl _ _ | refine Below.later ?_ _ | refine Below.box ?_ _ | refine Below.drew ?_ | refine Below.put ?_ (by dsimp only; omega) _))) ?_); intro pw) | (go_at_call 10; (first | with_reducible refine use1 (awake24_c _) ?_ | with_reducible refine use (awake24_c _) ?_); intro pw) | (go_at_call 16; (first | with_reducible refine use1 (ct.out _ _ _) ?_ | with_reducible refine use (ct.out _ _ _) ?_); intro pw))
    go_ret
    exact ⟨rfl, (by repeat (first | exact Below.refl _ _ | refine Below.later ?_ _ | refine Below.box ?_ _ | refine Below.drew ?_ | refine Below.put ?_ (by dsimp only; omega) _))⟩
  have g4a : ((N : Int) == 0) = false := by simp; omega
  have g4b : ¬ (N : Int) = 0 := by omega
  have hpb : pb ≤ 65536 := by have := y.hl; have := y.hvs; omega
  obtain ⟨bw, ow, rfl⟩ : ∃ bw ow, uw = some ⟨bw, ow, none⟩ := by
    obtain ⟨bw, ow, e, _⟩ := hL.mem (fun e => by subst e; simp at hls; omega)
    exact ⟨bw, ow, e⟩
  have hgood := rCuts_good (p := p) (l := l) (rs := rs) (pb := pb) (B := B) (P0 := P0) (P1 := P1) (by omega) y.lt
  have cm : Kept (∀ w', Below w.heap.size w w' → ∀ K NN : Int, Calls Try.prog 23 #[.agg #[.int .u64 p, .int .i64 (B : Int), .int .i64 q, .int .i64 K, .int .i64 NN, .int .i64 (S : Int), .int .i64 rs.length, .int .i64 (P0 : Nat), .int .i64 (P1 : Nat), .int .i64 (P1 : Nat), .int .i64 (P1 : Nat)], .agg #[.int .u64 p, .int .i64 pb, .int .i64 vs, .slice u rs.length c], .slice (some ⟨bw, ow, none⟩) l.length cw] w' (GivesMat (rCuts p l rs pb B P0 P1) w')) := ⟨fun w' hw K NN => by
    have := lmessages_c B P0 P1 S p q K NN vs u c rs (some ⟨bw, ow, none⟩) cw l pb w' y.vld y.hB y.hm16 y.hS y.hvs y.hP0 y.hP1 (hR.below (Nat.le_refl _) hw) (hL.below (Nat.le_refl _) hw) y.hl hcw
    rw [lcuts_eq y.hls (upl_int y.hB.1 y.hP0) (upl_int y.hB.1 y.hP1)] at this
    exact this⟩
  have hUr : ∀ r : Nat, (r : Int) < p → U (r : Int) := fun r hr => ⟨by omega, by omega⟩
  have cf : Kept (∀ (r : Nat) w', (r : Int) < p → Below w.heap.size w w' → ∀ K NN : Int, Calls Try.prog 19 #[.agg #[.int .u64 p, .int .i64 (B : Int), .int .i64 q, .int .i64 K, .int .i64 NN, .int .i64 (S : Int), .int .i64 rs.length, .int .i64 (P0 : Nat), .int .i64 (P1 : Nat), .int .i64 (P1 : Nat), .int .i64 (P1 : Nat)], .agg #[.int .u64 p, .int .i64 pb, .int .i64 vs, .slice u rs.length c], .int .u64 (r : Int)] w' (GivesMat (cofM p pb rs B P0 P1 S (r : Int)) w')) := ⟨fun r w' hr hw K NN => y.coefs (hR.below (Nat.le_refl _) hw) K NN c r (hUr r hr)⟩
  have cg : Kept (∀ (r : Nat) w', (r : Int) < p → Below w.heap.size w w' → ∀ K NN : Int, Calls Try.prog 20 #[.agg #[.int .u64 p, .int .i64 (B : Int), .int .i64 q, .int .i64 K, .int .i64 NN, .int .i64 (S : Int), .int .i64 rs.length, .int .i64 (P0 : Nat), .int .i64 (P1 : Nat), .int .i64 (P1 : Nat), .int .i64 (P1 : Nat)], .agg #[.int .u64 p, .int .i64 pb, .int .i64 vs, .slice u rs.length c], .int .u64 (r : Int)] w' (GivesMat (cofM p pb rs B P0 P1 S (r : Int)) w')) := ⟨fun r w' hr hw K NN => y.rcoefs (hR.below (Nat.le_refl _) hw) K NN c r (hUr r hr)⟩
  have hps : ((l.drop 1).take pb).length = pb := by rw [List.length_take, List.length_drop]; omega
  have cc : Kept (∀ (r : Nat), (r : Int) < p → ∀ nb : Nat, nb = pb → ∀ w' u' cp, Below w.heap.size w w' → Ls w' u' ((l.drop 1).take pb) → (u' = none → cp = 0) → ∀ K NN : Int, Calls Try.prog 21 #[.agg #[.int .u64 p, .int .i64 (B : Int), .int .i64 q, .int .i64 K, .int .i64 NN, .int .i64 (S : Int), .int .i64 rs.length, .int .i64 (P0 : Nat), .int .i64 (P1 : Nat), .int .i64 (P1 : Nat), .int .i64 (P1 : Nat)], .agg #[.int .u64 p, .int .i64 pb, .int .i64 vs, .slice u rs.length c], .slice u' nb cp, .int .u64 (r : Int)] w' (Gives (.int .u64 (tgV p r (1 :: (l.drop 1).take pb) rs rs.length)) w')) := ⟨fun r hr nb hnb w' u' cp hw hLs hcp K NN => by
    rw [hnb]
    have := y.target (hR.below (Nat.le_refl _) hw) K NN c u' cp ((l.drop 1).take pb) hLs (by omega) hcp r (hUr r hr)
    rw [hps] at this; exact this⟩
  have hB6 := y.hB
  obtain ⟨DD, hDD⟩ : ∃ DD : Nat → List (List Int), ∀ r : Nat, cofM p pb rs B P0 P1 S (r : Int) = DD r := ⟨_, fun _ => rfl⟩
  obtain ⟨TT, hTT⟩ : ∃ TT : Nat → Int, ∀ r : Nat, tgV p r (1 :: (l.drop 1).take pb) rs rs.length = TT r := ⟨_, fun _ => rfl⟩
  obtain ⟨C, hC⟩ : ∃ C, rCuts p l rs pb B P0 P1 = C := ⟨_, rfl⟩
  simp only [hDD, hTT] at cf cg cc
  have kD : Kept (∀ r, (DD r).length = N ∧ (∀ l' ∈ DD r, l'.length = B) ∧ ∀ l' ∈ DD r, ∀ x ∈ l', 0 ≤ x ∧ x < p) := ⟨fun r => by rw [← hDD]; exact ⟨by rw [cofM_len, hN], fun l' hl' => cuts_row 4 l' hl', cofM_lt (by omega)⟩⟩
  rw [hC] at hgood cm
  have kC : Kept (C.length = N ∧ (∀ l' ∈ C, l'.length = B) ∧ ∀ l' ∈ C, ∀ x ∈ l', 0 ≤ x ∧ x < p) := ⟨⟨by rw [hgood.len, hN], hgood.row, hgood.lt⟩⟩
  have kT : Kept (∀ r : Nat, msum p C (DD r) = TT r ∧ 0 ≤ TT r ∧ TT r < p) := ⟨fun r => by
    have := y.lin (r : Int)
    rw [hC, hDD, hTT] at this
    rw [msum_comm y.vld kC.out.2.1 (kD.out r).2.1 kC.out.1 (kD.out r).1]
    refine ⟨this, ?_⟩
    rw [← hTT, tgV]
    exact ⟨Int.emod_nonneg _ (by omega), Int.emod_lt_of_pos _ (by omega)⟩⟩
  -- the place
  obtain ⟨i, hi⟩ : ∃ i : Nat, at' % (N : Int) = i := ⟨(at' % (N : Int)).toNat, by have := Int.emod_nonneg at' (show (N : Int) ≠ 0 by omega); omega⟩
  obtain ⟨e, he⟩ : ∃ e : Nat, at' / (N : Int) = e := ⟨(at' / (N : Int)).toNat, by have := Int.ediv_nonneg hat.1 (show (0 : Int) ≤ N by omega); omega⟩
  obtain ⟨k, hk⟩ : ∃ k : Nat, (e : Int) % (B : Int) = k := ⟨((e : Int) % (B : Int)).toNat, by have := Int.emod_nonneg (e : Int) (show (B : Int) ≠ 0 by omega); omega⟩
  have hiN : i < N := by have := Int.emod_lt_of_pos at' (show (0 : Int) < N by omega); omega
  have hkB : k < B := by have := Int.emod_lt_of_pos (e : Int) (show (0 : Int) < B by omega); omega
  have he6 : (e : Int) ≤ 65535 := by rw [← he]; exact Int.le_trans (Int.ediv_le_self _ hat.1) hat.2
  have hi2 : at'.tmod (N : Int) = i := by rw [Int.tmod_eq_emod_of_nonneg hat.1]; exact hi
  have he2 : at'.tdiv (N : Int) = e := by rw [Int.tdiv_eq_ediv_of_nonneg hat.1]; exact he
  have hk2 : (e : Int).tmod (B : Int) = k := by rw [Int.tmod_eq_emod_of_nonneg (by omega)]; exact hk
  have hB0 : ((B : Int) == 0) = false := by simp; omega
  have hB0' : ¬ (B : Int) = 0 := by omega
  obtain ⟨L, hLi⟩ : ∃ L, C[i]? = some L := ⟨_, List.getElem?_eq_getElem (by rw [kC.out.1]; exact hiN)⟩
  have hLB : L.length = B := kC.out.2.1 L (List.mem_of_getElem? hLi)
  obtain ⟨Y, hY⟩ : ∃ Y, L[k]? = some Y := ⟨_, List.getElem?_eq_getElem (by omega)⟩
  have hYp := kC.out.2.2 L (List.mem_of_getElem? hLi) Y (List.mem_of_getElem? hY)
  obtain ⟨s64, hs64⟩ : ∃ s, (Y + by') % 18446744073709551616 = s := ⟨_, rfl⟩
  have hsw : IntKind.u64.wrap (Y + by') = s64 := by rw [IntKind.wrap_u64]; exact hs64
  have hs0 : 0 ≤ s64 := by omega
  obtain ⟨X, hX⟩ : ∃ X, s64 % p = X := ⟨_, rfl⟩
  have hXt : s64.tmod p = X := by rw [Int.tmod_eq_emod_of_nonneg hs0]; exact hX
  have hXp : 0 ≤ X ∧ X < p := by rw [← hX]; exact ⟨Int.emod_nonneg _ hp0, Int.emod_lt_of_pos _ (by omega)⟩
  have hXY : X ≠ Y := by
    have := change_ne ⟨hp17, g1⟩ hYp hby (by rw [hbm]; exact g3)
    rw [hs64, hX] at this; exact this
  have kI : Kept (∀ r : Nat, ∃ d z, (DD r)[i]? = some d ∧ d.length = B ∧ d[k]? = some z ∧ 0 ≤ z ∧ z < p ∧ (msum p (C.set i (L.set k X)) (DD r) = TT r ↔ z = 0)) := ⟨fun r => by
    obtain ⟨h1, h2, h3⟩ := kD.out r
    have hd : (DD r)[i]? = some (DD r)[i] := List.getElem?_eq_getElem (by omega)
    have hdB := h2 _ (List.mem_of_getElem? hd)
    have hz : (DD r)[i][k]? = some (DD r)[i][k] := List.getElem?_eq_getElem (by omega)
    have hzp := h3 _ (List.mem_of_getElem? hd) _ (List.mem_of_getElem? hz)
    exact ⟨_, _, hd, hdB, hz, hzp.1, hzp.2, change_iff y.vld kC.out.2.1 h2 kC.out.1 h1 hiN hkB hLi hd hY ⟨hXp.1, hXp.2, hYp.1, hYp.2, hXY⟩ (kT.out r).1 (kT.out r).2 hz hzp⟩⟩
  have kLi := (⟨hLi⟩ : Kept _)
  have kLB := (⟨hLB⟩ : Kept _)
  have kY := (⟨hY⟩ : Kept _)
  have hXU : U X := ⟨hXp.1, by omega⟩
  have hlset : Kept ((C.set i (L.set k X)).length = N ∧ ∀ l' ∈ C.set i (L.set k X), l'.length = B) := ⟨⟨by rw [List.length_set, kC.out.1], fun l' hl' => by
    rcases List.mem_or_eq_of_mem_set hl' with h | h
    · exact kC.out.2.1 l' h
    · rw [h, List.length_set, hLB]⟩⟩
  have csm : Kept (∀ (r : Nat) w' u1 u2 c1 c2, Mt w' u1 (C.set i (L.set k X)) → Mt w' u2 (DD r) → Calls Try.prog 25 #[.int .u64 p, .slice u1 N c1, .slice u2 N c2] w' (Gives (.int .u64 (msum p (C.set i (L.set k X)) (DD r))) w')) := ⟨fun r w' u1 u2 c1 c2 h1 h2 => sum_c p u1 u2 c1 c2 N _ _ w' h1 h2 hlset.out.1 (kD.out r).1⟩
  have co : Kept (∀ w' K NN, Calls Try.prog 14 #[.agg #[.int .u64 p, .int .i64 B, .int .i64 q, .int .i64 K, .int .i64 NN, .int .i64 S, .int .i64 rs.length, .int .i64 P0, .int .i64 P1, .int .i64 P1, .int .i64 P1]] w' (Gives (.agg #[.int .u64 p, .int .i64 B, .int .i64 q, .int .i64 K, .int .i64 NN, .int .i64 S, .int .i64 rs.length, .int .i64 P0, .int .i64 P1, .int .i64 P1, .int .i64 P1]) w')) := ⟨fun w' K NN => own24_c _ _ _ _ _ _ _ _ _ _ _ w'⟩
  have kL : Kept (Ls w (some ⟨bw, ow, none⟩) l) := ⟨hL⟩
  have hn1 : (1 : Int) + (pb : Int) ≤ (cw : Int) := by omega
  have hw1 : IntKind.i64.wrap (1 + (pb : Int)) = 1 + (pb : Int) := by rw [IntKind.wrap_i64]; omega
  have hw2 : (0 : Int) ≤ 1 + (pb : Int) := by omega
  have hw4 : (1 + (pb : Int)).toNat = 1 + pb := by omega
  have hw5 : (1 : Int) ≤ 1 + (pb : Int) := by omega
  have hl1 : 1 + pb ≤ l.length := by omega
  have hpbz : Kept (cw = 1 → pb = 0) := ⟨fun e => by omega⟩
  clear h0 hR hL y hls hps hN hcw hgood hDD hTT hC hUr hLi hLB hY hby hU hs64 hX hXp hXY
  generalize rs.length = m at *
  generalize l.length = n at *
  by_cases hc1 : cw = 1
  case' pos =>
    have hpb0 := (⟨hpbz.out hc1⟩ : Kept _)
    have hLs0 : Kept (∀ w', Ls w' (some ⟨bw, ow, none⟩) ((l.drop 1).take pb)) := ⟨fun w' => by rw [hpb0.out]; exact Ls.nil _ _⟩
    subst hc1
    have hn1' : (1 : Int) + (pb : Int) ≤ 1 := by omega
    have hn2' : 1 + pb ≤ 1 := by omega
    have cT : Kept (∀ (r : Nat) w', (r : Int) < p → Below w.heap.size w w' → ∀ K NN : Int, Calls Try.prog 21 #[.agg #[.int .u64 p, .int .i64 (B : Int), .int .i64 q, .int .i64 K, .int .i64 NN, .int .i64 (S : Int), .int .i64 (m : Int), .int .i64 (P0 : Nat), .int .i64 (P1 : Nat), .int .i64 (P1 : Nat), .int .i64 (P1 : Nat)], .agg #[.int .u64 p, .int .i64 pb, .int .i64 vs, .slice u m c], .slice (some ⟨bw, ow, none⟩) 0 0, .int .u64 (r : Int)] w' (Gives (.int .u64 (TT r)) w')) := ⟨fun r w' hr hw K NN => cc.out r hr 0 hpb0.out.symm w' _ 0 hw (hLs0.out _) (by intro e; cases e) K NN⟩
  case' neg =>
    have hc0 : ¬ cw - 1 = 0 := by omega
    have hc2 : (cw - 1 == 0) = false := by simp; omega
    have cT : Kept (∀ (r : Nat) w', (r : Int) < p → Below w.heap.size w w' → ∀ K NN : Int, Calls Try.prog 21 #[.agg #[.int .u64 p, .int .i64 (B : Int), .int .i64 q, .int .i64 K, .int .i64 NN, .int .i64 (S : Int), .int .i64 (m : Int), .int .i64 (P0 : Nat), .int .i64 (P1 : Nat), .int .i64 (P1 : Nat), .int .i64 (P1 : Nat)], .agg #[.int .u64 p, .int .i64 pb, .int .i64 vs, .slice u m c], .slice (some ⟨bw, ow + 1, none⟩) pb (cw - 1), .int .u64 (r : Int)] w' (Gives (.int .u64 (TT r)) w')) := ⟨fun r w' hr hw K NN => cc.out r hr pb rfl w' _ (cw - 1) hw (((kL.out.drop 1).takeL pb).below (Nat.le_refl _) hw) (by intro e; cases e) K NN⟩
  · clear cc hpbz kL
    go_enter Try.func8, Try.ntmps8
    go_wp2_with (first | (go_at_call 17; (first | with_reducible refine use1 (cr.out _ (by repeat (first | exact Below.refl _ _ | refine Below.later ?_ _ | refine Below.box ?_ _ | refine Below.drew ?_ | refine Below.put ?_ (by dsimp only; omega) _))) ?_ | with_reducible refine use (cr.out _ (by repeat (first | exact Below.refl _ _ | refine Below.later ?_ _ | refine Below.box ?_ _ | refine Below.drew ?_ | refine Below.put ?_ (by dsimp only; omega) _))) ?_); intro pw1) | (go_at_call 10; (first | with_reducible refine use1 (awake24_c _) ?_ | with_reducible refine use (awake24_c _) ?_); intro pw) | (go_at_call 16; (first | with_reducible refine use1 (ct.out _ _ _) ?_ | with_reducible refine use (ct.out _ _ _) ?_); intro pw))
    obtain ⟨LB, hLB⟩ : ∃ LB, LB = w.heap.size + 1 + pw1.os.size := ⟨_, rfl⟩
    rw [← hLB]
    refine wp_gen24 (fun w' => Below w.heap.size w w' ∧ LB < w'.heap.size ∧ w'.cell? ⟨LB, 0, none⟩ = some (Value.int .u64 p) ∧ w'.cell? ⟨LB, 1, none⟩ = some (.int .i64 (B : Int)) ∧ w'.cell? ⟨LB, 2, none⟩ = some (.int .i64 q) ∧ w'.cell? ⟨LB, 3, none⟩ = some (.int .i64 K) ∧ w'.cell? ⟨LB, 4, none⟩ = some (.int .i64 NN) ∧ w'.cell? ⟨LB, 5, none⟩ = some (.int .i64 (S : Int)) ∧ w'.cell? ⟨LB, 6, none⟩ = some (.int .i64 (m : Int)) ∧ w'.cell? ⟨LB, 7, none⟩ = some (.int .i64 (P0 : Nat)) ∧ w'.cell? ⟨LB, 8, none⟩ = some (.int .i64 (P1 : Nat)) ∧ w'.cell? ⟨LB, 9, none⟩ = some (.int .i64 (P1 : Nat)) ∧ w'.cell? ⟨LB, 10, none⟩ = some (.int .i64 (P1 : Nat)) ∧ w'.cell? ⟨w.heap.size, 0, none⟩ = some (Value.int .u64 p) ∧ w'.cell? ⟨w.heap.size, 1, none⟩ = some (.int .i64 (pb : Int)) ∧ w'.cell? ⟨w.heap.size, 2, none⟩ = some (.int .i64 vs) ∧ w'.cell? ⟨w.heap.size, 3, none⟩ = some (.slice u m c) ∧ w'.cell? ⟨w.heap.size, 4, none⟩ = some (.int .i64 (B : Int)) ∧ w'.cell? ⟨w.heap.size, 5, none⟩ = some (.int .i64 bl) ∧ w'.cell? ⟨w.heap.size, 6, none⟩ = some (.int .i64 q) ∧ w'.cell? ⟨w.heap.size, 7, none⟩ = some (.slice (some ⟨bw, ow, none⟩) n cw)) ?fx ?_
    case fx => subst hLB; exact ⟨(by repeat (first | exact Below.refl _ _ | refine Below.later ?_ _ | refine Below.box ?_ _ | refine Below.drew ?_ | refine Below.put ?_ (by dsimp only; omega) _)), by simp, by simp [go_sem], by simp [go_sem], by simp [go_sem], by simp [go_sem], by simp [go_sem], by simp [go_sem], by simp [go_sem], by simp [go_sem], by simp [go_sem], by simp [go_sem], by simp [go_sem], by simp [go_sem], by simp [go_sem], by simp [go_sem], by simp [go_sem], by simp [go_sem], by simp [go_sem], by simp [go_sem], by simp [go_sem]⟩
    rintro W0 ⟨hB0, hLt, l0, l1, l2, l3, l4, l5, l6, l7, l8, l9, l10, t0, t1, t2, t3, t4, t5, t6, t7⟩
    clear hLB cr
    have hlt0 : w.heap.size < W0.heap.size := by
      have := World.block_lt_of_cell? W0 ⟨w.heap.size, 0, none⟩ t0
      exact this
    have hB0 : Kept (Below w.heap.size w W0) := ⟨hB0⟩
    have hS : Kept (∀ w', Below W0.heap.size W0 w' → w'.cell? ⟨LB, 0, none⟩ = some (Value.int .u64 p) ∧ w'.cell? ⟨LB, 1, none⟩ = some (.int .i64 (B : Int)) ∧ w'.cell? ⟨LB, 2, none⟩ = some (.int .i64 q) ∧ w'.cell? ⟨LB, 3, none⟩ = some (.int .i64 K) ∧ w'.cell? ⟨LB, 4, none⟩ = some (.int .i64 NN) ∧ w'.cell? ⟨LB, 5, none⟩ = some (.int .i64 (S : Int)) ∧ w'.cell? ⟨LB, 6, none⟩ = some (.int .i64 (m : Int)) ∧ w'.cell? ⟨LB, 7, none⟩ = some (.int .i64 (P0 : Nat)) ∧ w'.cell? ⟨LB, 8, none⟩ = some (.int .i64 (P1 : Nat)) ∧ w'.cell? ⟨LB, 9, none⟩ = some (.int .i64 (P1 : Nat)) ∧ w'.cell? ⟨LB, 10, none⟩ = some (.int .i64 (P1 : Nat)) ∧ w'.cell? ⟨w.heap.size, 0, none⟩ = some (Value.int .u64 p) ∧ w'.cell? ⟨w.heap.size, 1, none⟩ = some (.int .i64 (pb : Int)) ∧ w'.cell? ⟨w.heap.size, 2, none⟩ = some (.int .i64 vs) ∧ w'.cell? ⟨w.heap.size, 3, none⟩ = some (.slice u m c) ∧ w'.cell? ⟨w.heap.size, 4, none⟩ = some (.int .i64 (B : Int)) ∧ w'.cell? ⟨w.heap.size, 5, none⟩ = some (.int .i64 bl) ∧ w'.cell? ⟨w.heap.size, 6, none⟩ = some (.int .i64 q) ∧ w'.cell? ⟨w.heap.size, 7, none⟩ = some (.slice (some ⟨bw, ow, none⟩) n cw)) := ⟨fun w' hw => by
      have hc : ∀ k v, W0.cell? ⟨LB, k, none⟩ = some v → w'.cell? ⟨LB, k, none⟩ = some v := fun k v h => by rw [hw.cell (p := ⟨LB, k, none⟩) hLt]; exact h
      have hd : ∀ k v, W0.cell? ⟨w.heap.size, k, none⟩ = some v → w'.cell? ⟨w.heap.size, k, none⟩ = some v := fun k v h => by rw [hw.cell (p := ⟨w.heap.size, k, none⟩) hlt0]; exact h
      exact ⟨hc _ _ l0, hc _ _ l1, hc _ _ l2, hc _ _ l3, hc _ _ l4, hc _ _ l5, hc _ _ l6, hc _ _ l7, hc _ _ l8, hc _ _ l9, hc _ _ l10, hd _ _ t0, hd _ _ t1, hd _ _ t2, hd _ _ t3, hd _ _ t4, hd _ _ t5, hd _ _ t6, hd _ _ t7⟩⟩
    go_region_held3 (fun w' => w'.cell? ⟨LB, 0, none⟩ = some (Value.int .u64 p) ∧ w'.cell? ⟨LB, 1, none⟩ = some (.int .i64 (B : Int)) ∧ w'.cell? ⟨LB, 2, none⟩ = some (.int .i64 q) ∧ w'.cell? ⟨LB, 3, none⟩ = some (.int .i64 K) ∧ w'.cell? ⟨LB, 4, none⟩ = some (.int .i64 NN) ∧ w'.cell? ⟨LB, 5, none⟩ = some (.int .i64 (S : Int)) ∧ w'.cell? ⟨LB, 6, none⟩ = some (.int .i64 (m : Int)) ∧ w'.cell? ⟨LB, 7, none⟩ = some (.int .i64 (P0 : Nat)) ∧ w'.cell? ⟨LB, 8, none⟩ = some (.int .i64 (P1 : Nat)) ∧ w'.cell? ⟨LB, 9, none⟩ = some (.int .i64 (P1 : Nat)) ∧ w'.cell? ⟨LB, 10, none⟩ = some (.int .i64 (P1 : Nat)) ∧ w'.cell? ⟨w.heap.size, 0, none⟩ = some (Value.int .u64 p) ∧ w'.cell? ⟨w.heap.size, 1, none⟩ = some (.int .i64 (pb : Int)) ∧ w'.cell? ⟨w.heap.size, 2, none⟩ = some (.int .i64 vs) ∧ w'.cell? ⟨w.heap.size, 3, none⟩ = some (.slice u m c) ∧ w'.cell? ⟨w.heap.size, 4, none⟩ = some (.int .i64 (B : Int)) ∧ w'.cell? ⟨w.heap.size, 5, none⟩ = some (.int .i64 bl) ∧ w'.cell? ⟨w.heap.size, 6, none⟩ = some (.int .i64 q) ∧ w'.cell? ⟨w.heap.size, 7, none⟩ = some (.slice (some ⟨bw, ow, none⟩) n cw))
      (first | with_reducible exact hS.out _ hMb | exact hS.out _ (by repeat (first | with_reducible exact Below.refl _ _ | with_reducible refine Below.later ?_ _ | with_reducible refine Below.drew ?_)))
      (first
        | (go_at_call 14; refine use (co.out _ _ _) ?_; intro pw3)
        | (go_at_call 23; refine (cm.out _ (Below.next hB0.out (by repeat (first | exact Below.refl _ _ | refine Below.later ?_ _ | refine Below.box ?_ _ | refine Below.drew ?_ | refine Below.put ?_ (by dsimp only; omega) _))) _ _).mono ?_; rintro e' w4 ⟨vm, bs, rfl, hM⟩; replace hM := hM.base (W := W0) (by repeat (first | exact Below.refl _ _ | refine Below.later ?_ _ | refine Below.box ?_ _ | refine Below.drew ?_ | refine Below.put ?_ (by dsimp only; omega) _)); obtain ⟨G, c2, rfl, hcN, hGe, hGl⟩ := hM.form (by rw [kC.out.1]; omega); rw [kC.out.1] at hM; rw [kC.out.1]; have hMb := hM.grown.below))
    try with_reducible refine NoPanic.normal ?_
    go_split_ands
    obtain ⟨g, L', hbg, hLi, _, hgl, hge, hro⟩ := hM.row_at (i := i) (by rw [kC.out.1]; exact hiN)
    have hLL : L' = L := by have := kLi.out; rw [hLi] at this; injection this
    subst hLL
    have hmc := hM.cell_at hbg hLi
    rw [kLB.out] at hmc
    have hoc := hro.cell (i := k) (by rw [kLB.out]; exact hkB)
    rw [show L'.getD k 0 = Y from by rw [List.getD, kY.out]; rfl] at hoc
    have hof := hro.frozen k
    have hsz4 := hMb.size
    have hLt4 : LB < w4.heap.size := by omega
    have hlt4 : w.heap.size < w4.heap.size := by omega
    have kM : Kept (∀ w', Below w4.heap.size w4 w' → Mat W0 (w'.setCell ⟨g, k, none⟩ (.int .u64 X)) (.slice (some ⟨G, 0, none⟩) N c2) bs (C.set i (L'.set k X))) := ⟨fun w' hw => (hM.keep hw).put hbg hLi hXU⟩
    obtain ⟨l0, l1, l2, l3, l4, l5, l6, l7, l8, l9, l10, t0, t1, t2, t3, t4, t5, t6, t7⟩ := hS.out w4 hMb
    have hgw : w.heap.size ≤ g := by omega
    have hne1 : LB ≠ g := by omega
    have hne2 : w.heap.size ≠ g := by omega
    have hne3 : G ≠ g := (hM.ge g (List.mem_of_getElem? hbg)).2.1 ∘ (fun e => by simp [Value.ownBlock, e])
    have hiI : (i : Int) < (N : Int) := by omega
    have hkI : (k : Int) < (B : Int) := by omega
    have hi0 : (0 : Int) ≤ (i : Int) := Int.natCast_nonneg _
    have hk0 : (0 : Int) ≤ (k : Int) := Int.natCast_nonneg _
    clear hM hMb hbg hLi hro hge hsz4
    go_wp2_with (first | (go_at_call 16; (first | with_reducible refine use1 (ct.out _ _ _) ?_ | with_reducible refine use (ct.out _ _ _) ?_); intro pw))
    first | refine region_quiet1 (by kernel_rfl) ?_ | refine region_quiet (by kernel_rfl) ?_
    repeat (go_big_quiet_step (first | fail))
    refine wpQuiet_nil ?_
    intro _
    go_wp2
    first | refine region_quiet1 (by kernel_rfl) ?_ | refine region_quiet (by kernel_rfl) ?_
    repeat (go_big_quiet_step (first | fail))
    refine wpQuiet_nil ?_
    intro _
    go_wp2
    first | refine region_tail1 (by kernel_rfl) (by kernel_rfl) (by kernel_rfl) ?_ | refine region_tail (by kernel_rfl) (by kernel_rfl) (by kernel_rfl) ?_
    simp only [initOf, lastOf]
    repeat (go_big_quiet_step (first | fail))
    refine wpQuiet_nil ?_
    intro _
    go_wp2
    refine wp_gen24 (fun w' => Mat W0 w' (.slice (some ⟨G, 0, none⟩) N c2) bs (C.set i (L'.set k X))) ?fy ?_
    case fy => exact kM.out _ (by repeat (first | exact Below.refl _ _ | refine Below.later ?_ _ | refine Below.box ?_ _ | refine Below.drew ?_ | refine Below.put ?_ (by dsimp only; omega) _))
    rintro X0 hMX
    have hXB := hMX.grown.below
    have hX0 : Kept (Below w.heap.size w X0) := ⟨Below.next hB0.out hXB⟩
    have hmX := (⟨(hMX.mt (by rw [hlset.out.1]; omega) (fun l' hl' => by rw [hlset.out.2 l' hl']; omega)).2⟩ : Kept (Mt X0 (some ⟨G, 0, none⟩) (C.set i (L'.set k X))))
    have hXS := hXB.size
    have hSX : Kept (∀ w', Below X0.heap.size X0 w' → (w'.cell? ⟨LB, 0, none⟩ = some (Value.int .u64 p) ∧ w'.cell? ⟨LB, 1, none⟩ = some (.int .i64 (B : Int)) ∧ w'.cell? ⟨LB, 2, none⟩ = some (.int .i64 q) ∧ w'.cell? ⟨LB, 3, none⟩ = some (.int .i64 K) ∧ w'.cell? ⟨LB, 4, none⟩ = some (.int .i64 NN) ∧ w'.cell? ⟨LB, 5, none⟩ = some (.int .i64 (S : Int)) ∧ w'.cell? ⟨LB, 6, none⟩ = some (.int .i64 (m : Int)) ∧ w'.cell? ⟨LB, 7, none⟩ = some (.int .i64 (P0 : Nat)) ∧ w'.cell? ⟨LB, 8, none⟩ = some (.int .i64 (P1 : Nat)) ∧ w'.cell? ⟨LB, 9, none⟩ = some (.int .i64 (P1 : Nat)) ∧ w'.cell? ⟨LB, 10, none⟩ = some (.int .i64 (P1 : Nat)) ∧ w'.cell? ⟨w.heap.size, 0, none⟩ = some (Value.int .u64 p) ∧ w'.cell? ⟨w.heap.size, 1, none⟩ = some (.int .i64 (pb : Int)) ∧ w'.cell? ⟨w.heap.size, 2, none⟩ = some (.int .i64 vs) ∧ w'.cell? ⟨w.heap.size, 3, none⟩ = some (.slice u m c) ∧ w'.cell? ⟨w.heap.size, 4, none⟩ = some (.int .i64 (B : Int)) ∧ w'.cell? ⟨w.heap.size, 5, none⟩ = some (.int .i64 bl) ∧ w'.cell? ⟨w.heap.size, 6, none⟩ = some (.int .i64 q) ∧ w'.cell? ⟨w.heap.size, 7, none⟩ = some (.slice (some ⟨bw, ow, none⟩) n cw)) ∧ LB < w'.heap.size ∧ w.heap.size < w'.heap.size) := ⟨fun w' hw => ⟨hS.out w' (Below.next hXB hw), by have := hw.size; omega, by have := hw.size; omega⟩⟩
    clear hMX hXB hS kM hmc hoc hof hgl hgw hGe hGl hLt4 hlt4 hXS l0 l1 l2 l3 l4 l5 l6 l7 l8 l9 l10 t0 t1 t2 t3 t4 t5 t6 t7
    go_loopw [12, 13, 106] (fun vm vp vr wr => ∃ (r : Nat), (vm = .bool false ∧ vp = .bool true ∨ vm = .bool true ∧ vp = .bool false) ∧ vr = .int .u64 (r : Int) ∧ (r : Int) ≤ p ∧ Below X0.heap.size X0 wr) (fun _ _ vr _ => (p - intOf vr).toNat)
    case atStart => exact ⟨0, .inl ⟨rfl, rfl⟩, rfl, by omega, Below.refl _ _⟩
    case round =>
      obtain ⟨r, hmb, rfl, hr, hBr⟩ := hrel
      obtain ⟨w1, rfl⟩ : ∃ x, x = wr := ⟨wr, rfl⟩
      have hBr' := (⟨hBr⟩ : Kept _)
      clear hBr
      by_cases hrp : (r : Int) < p
      · rcases hmb with ⟨rfl, rfl⟩ | ⟨rfl, rfl⟩
        · obtain ⟨d, z, hd, hdB, hz, hz0, hzp, hiff⟩ := kI.out r
          obtain ⟨⟨l0, l1, l2, l3, l4, l5, l6, l7, l8, l9, l10, t0, t1, t2, t3, t4, t5, t6, t7⟩, hLt1, hlt1⟩ := hSX.out w1 hBr'.out
          have kd := (⟨hd⟩ : Kept _)
          have kdB := (⟨hdB⟩ : Kept _)
          have kz := (⟨hz⟩ : Kept _)
          have kiff := (⟨hiff⟩ : Kept _)
          clear hd hdB hz hiff
          go_wp2_with (first | (go_at_call 20; refine (cg.out r _ hrp (Below.next hX0.out hBr'.out) _ _).mono ?_; rintro e' w5 ⟨vm, bs2, rfl, hM2⟩; obtain ⟨G2, c3, rfl, hcN2, hGe2, hGl2⟩ := hM2.form (by rw [(kD.out r).1]; omega); rw [(kD.out r).1] at hM2; rw [(kD.out r).1]; refine Stop.out ?_))
          refine ⟨?_⟩
          obtain ⟨g2, d', hbg2, hdi, _, hgl2, _, hro2⟩ := hM2.row_at (i := i) (by rw [(kD.out r).1]; exact hiN)
          have hdd : d' = d := by have := kd.out; rw [hdi] at this; injection this
          subst hdd
          have hrc := hM2.cell_at hbg2 hdi
          rw [kdB.out] at hrc
          have hzc := hro2.cell (i := k) (by rw [kdB.out]; exact hkB)
          rw [show d'.getD k 0 = z from by rw [List.getD, kz.out]; rfl] at hzc
          have hB15 : Kept (Below X0.heap.size X0 w5) := ⟨Below.next hBr'.out hM2.grown.below⟩
          clear l0 l1 l2 l3 l4 l5 l6 l7 l8 l9 l10 t0 t1 t2 t3 t4 t5 t6 t7 hLt1 hlt1
          obtain ⟨⟨l0, l1, l2, l3, l4, l5, l6, l7, l8, l9, l10, t0, t1, t2, t3, t4, t5, t6, t7⟩, hLt1, hlt1⟩ := hSX.out w5 hB15.out
          obtain ⟨SV, hSV⟩ : ∃ SV, msum p (C.set i (L'.set k X)) (DD r) = SV := ⟨_, rfl⟩
          have cs2 : Kept (∀ w' u1 u2 c1 c2, Mt w' u1 (C.set i (L'.set k X)) → Mt w' u2 (DD r) → Calls Try.prog 25 #[.int .u64 p, .slice u1 N c1, .slice u2 N c2] w' (Gives (.int .u64 SV) w')) := ⟨fun w' u1 u2 c1 c2 h1 h2 => by rw [← hSV]; exact csm.out r w' u1 u2 c1 c2 h1 h2⟩
          have kiff2 : Kept (SV = TT r ↔ z = 0) := ⟨by rw [← hSV]; exact kiff.out⟩
          clear hM2 hbg2 hdi hro2 hSV kiff
          by_cases hz : z = 0
          · have hSV : SV = TT r := kiff2.out.2 hz
            subst hz
            rw [hSV] at cs2
            clear hSV kiff2
            go_wp2
            go_region_held3 (fun w' => w'.cell? ⟨LB, 0, none⟩ = some (Value.int .u64 p) ∧ w'.cell? ⟨LB, 1, none⟩ = some (.int .i64 (B : Int)) ∧ w'.cell? ⟨LB, 2, none⟩ = some (.int .i64 q) ∧ w'.cell? ⟨LB, 3, none⟩ = some (.int .i64 K) ∧ w'.cell? ⟨LB, 4, none⟩ = some (.int .i64 NN) ∧ w'.cell? ⟨LB, 5, none⟩ = some (.int .i64 (S : Int)) ∧ w'.cell? ⟨LB, 6, none⟩ = some (.int .i64 (m : Int)) ∧ w'.cell? ⟨LB, 7, none⟩ = some (.int .i64 (P0 : Nat)) ∧ w'.cell? ⟨LB, 8, none⟩ = some (.int .i64 (P1 : Nat)) ∧ w'.cell? ⟨LB, 9, none⟩ = some (.int .i64 (P1 : Nat)) ∧ w'.cell? ⟨LB, 10, none⟩ = some (.int .i64 (P1 : Nat)) ∧ w'.cell? ⟨w.heap.size, 0, none⟩ = some (Value.int .u64 p) ∧ w'.cell? ⟨w.heap.size, 1, none⟩ = some (.int .i64 (pb : Int)) ∧ w'.cell? ⟨w.heap.size, 2, none⟩ = some (.int .i64 vs) ∧ w'.cell? ⟨w.heap.size, 3, none⟩ = some (.slice u m c) ∧ w'.cell? ⟨w.heap.size, 4, none⟩ = some (.int .i64 (B : Int)) ∧ w'.cell? ⟨w.heap.size, 5, none⟩ = some (.int .i64 bl) ∧ w'.cell? ⟨w.heap.size, 6, none⟩ = some (.int .i64 q) ∧ w'.cell? ⟨w.heap.size, 7, none⟩ = some (.slice (some ⟨bw, ow, none⟩) n cw))
              (first | with_reducible exact (hSX.out _ (Below.next hB15.out hMd)).1 | with_reducible exact (hSX.out _ (Below.next hB15.out (Below.later hMd _))).1 | exact (hSX.out _ (Below.next hB15.out (by repeat (first | with_reducible exact Below.refl _ _ | with_reducible exact hMd | with_reducible refine Below.later ?_ _ | with_reducible refine Below.drew ?_)))).1)
              (first
                | (go_at_call 14; refine use (co.out _ _ _) ?_; intro pw3)
                | (go_at_call 19; refine (cf.out r _ hrp (Below.next hX0.out (Below.next hB15.out (by repeat (first | exact Below.refl _ _ | refine Below.later ?_ _ | refine Below.box ?_ _ | refine Below.drew ?_ | refine Below.put ?_ (by dsimp only; omega) _)))) _ _).mono ?_; rintro e' w6 ⟨vm, bs3, rfl, hM3⟩; replace hM3 := hM3.base (W := w5) (by repeat (first | exact Below.refl _ _ | refine Below.later ?_ _ | refine Below.box ?_ _ | refine Below.drew ?_ | refine Below.put ?_ (by dsimp only; omega) _)); obtain ⟨u4, c4, rfl, _⟩ := hM3.grown.form; rw [(kD.out r).1] at hM3; rw [(kD.out r).1]; have hMd := hM3.grown.below)
                | (go_at_call 25; refine use (cs2.out _ _ _ _ _ (hmX.out.below (Nat.le_refl _) (Below.next hB15.out hMd)) (hM3.mt (by rw [(kD.out r).1]; omega) (fun l' hl' => by rw [(kD.out r).2.1 l' hl']; omega)).2) ?_; intro pw7)
                | (go_at_call 21; refine use (cT.out r _ hrp (Below.next hX0.out (Below.next hB15.out (by first | exact hMd | exact Below.later hMd _ | exact Below.later (Below.later hMd _) _))) _ _) ?_; intro pw8))
            all_goals (
              try with_reducible refine NoPanic.normal ?_
              go_split_ands
              go_wp2
              go_roundw
              case rel => exact ⟨r + 1, .inl ⟨by simp, by simp⟩, by go_num, by omega, Below.next hB15.out (by repeat (first | exact Below.refl _ _ | exact hMd | refine Below.later ?_ _ | refine Below.drew ?_))⟩
              case measure => first | (simp [intOf]; omega) | (simp [intOf]; done))
          · have hzb : (z != 0) = true := by simp [hz]
            have hSVb : (SV == TT r) = false := by
              have : ¬ SV = TT r := fun e => hz (kiff2.out.1 e)
              simp [this]
            clear kiff2
            go_wp2
            go_region_held3 (fun w' => w'.cell? ⟨LB, 0, none⟩ = some (Value.int .u64 p) ∧ w'.cell? ⟨LB, 1, none⟩ = some (.int .i64 (B : Int)) ∧ w'.cell? ⟨LB, 2, none⟩ = some (.int .i64 q) ∧ w'.cell? ⟨LB, 3, none⟩ = some (.int .i64 K) ∧ w'.cell? ⟨LB, 4, none⟩ = some (.int .i64 NN) ∧ w'.cell? ⟨LB, 5, none⟩ = some (.int .i64 (S : Int)) ∧ w'.cell? ⟨LB, 6, none⟩ = some (.int .i64 (m : Int)) ∧ w'.cell? ⟨LB, 7, none⟩ = some (.int .i64 (P0 : Nat)) ∧ w'.cell? ⟨LB, 8, none⟩ = some (.int .i64 (P1 : Nat)) ∧ w'.cell? ⟨LB, 9, none⟩ = some (.int .i64 (P1 : Nat)) ∧ w'.cell? ⟨LB, 10, none⟩ = some (.int .i64 (P1 : Nat)) ∧ w'.cell? ⟨w.heap.size, 0, none⟩ = some (Value.int .u64 p) ∧ w'.cell? ⟨w.heap.size, 1, none⟩ = some (.int .i64 (pb : Int)) ∧ w'.cell? ⟨w.heap.size, 2, none⟩ = some (.int .i64 vs) ∧ w'.cell? ⟨w.heap.size, 3, none⟩ = some (.slice u m c) ∧ w'.cell? ⟨w.heap.size, 4, none⟩ = some (.int .i64 (B : Int)) ∧ w'.cell? ⟨w.heap.size, 5, none⟩ = some (.int .i64 bl) ∧ w'.cell? ⟨w.heap.size, 6, none⟩ = some (.int .i64 q) ∧ w'.cell? ⟨w.heap.size, 7, none⟩ = some (.slice (some ⟨bw, ow, none⟩) n cw))
              (first | with_reducible exact (hSX.out _ (Below.next hB15.out hMd)).1 | with_reducible exact (hSX.out _ (Below.next hB15.out (Below.later hMd _))).1 | exact (hSX.out _ (Below.next hB15.out (by repeat (first | with_reducible exact Below.refl _ _ | with_reducible exact hMd | with_reducible refine Below.later ?_ _ | with_reducible refine Below.drew ?_)))).1)
              (first
                | (go_at_call 14; refine use (co.out _ _ _) ?_; intro pw3)
                | (go_at_call 19; refine (cf.out r _ hrp (Below.next hX0.out (Below.next hB15.out (by repeat (first | exact Below.refl _ _ | refine Below.later ?_ _ | refine Below.box ?_ _ | refine Below.drew ?_ | refine Below.put ?_ (by dsimp only; omega) _)))) _ _).mono ?_; rintro e' w6 ⟨vm, bs3, rfl, hM3⟩; replace hM3 := hM3.base (W := w5) (by repeat (first | exact Below.refl _ _ | refine Below.later ?_ _ | refine Below.box ?_ _ | refine Below.drew ?_ | refine Below.put ?_ (by dsimp only; omega) _)); obtain ⟨u4, c4, rfl, _⟩ := hM3.grown.form; rw [(kD.out r).1] at hM3; rw [(kD.out r).1]; have hMd := hM3.grown.below)
                | (go_at_call 25; refine use (cs2.out _ _ _ _ _ (hmX.out.below (Nat.le_refl _) (Below.next hB15.out hMd)) (hM3.mt (by rw [(kD.out r).1]; omega) (fun l' hl' => by rw [(kD.out r).2.1 l' hl']; omega)).2) ?_; intro pw7)
                | (go_at_call 21; refine use (cT.out r _ hrp (Below.next hX0.out (Below.next hB15.out (by first | exact hMd | exact Below.later hMd _ | exact Below.later (Below.later hMd _) _))) _ _) ?_; intro pw8))
            all_goals (
              try with_reducible refine NoPanic.normal ?_
              go_split_ands
              go_wp2
              go_roundw
              case rel => exact ⟨r + 1, .inr ⟨by simp, by simp⟩, by go_num, by omega, Below.next hB15.out (by repeat (first | exact Below.refl _ _ | exact hMd | refine Below.later ?_ _ | refine Below.drew ?_))⟩
              case measure => first | (simp [intOf]; omega) | (simp [intOf]; done))
        · go_wp2
          first | refine region_quiet1 (by kernel_rfl) ?_ | refine region_quiet (by kernel_rfl) ?_
          repeat (go_big_quiet_step (first | fail))
          refine wpQuiet_nil ?_
          intro _
          go_wp2
          go_roundw
          case rel => exact ⟨r + 1, .inr ⟨by simp, by simp⟩, by go_num, by omega, Below.next hBr'.out (by repeat (first | exact Below.refl _ _ | refine Below.later ?_ _ | refine Below.box ?_ _ | refine Below.drew ?_ | refine Below.put ?_ (by dsimp only; omega) _))⟩
          case measure => first | (simp [intOf]; omega) | (simp [intOf]; done)
      · have hrp' : (r : Int) = p := by omega
        rcases hmb with ⟨rfl, rfl⟩ | ⟨rfl, rfl⟩
        · go_wp2
          go_ret
          exact ⟨by simp, Below.next hX0.out (Below.next hBr'.out (by repeat (first | exact Below.refl _ _ | refine Below.later ?_ _ | refine Below.box ?_ _ | refine Below.drew ?_ | refine Below.put ?_ (by dsimp only; omega) _)))⟩
        · go_wp2
          go_ret
          exact ⟨by simp, Below.next hX0.out (Below.next hBr'.out (by repeat (first | exact Below.refl _ _ | refine Below.later ?_ _ | refine Below.box ?_ _ | refine Below.drew ?_ | refine Below.put ?_ (by dsimp only; omega) _)))⟩
  · clear cc hpbz kL
    go_enter Try.func8, Try.ntmps8
    go_wp2_with (first | (go_at_call 17; (first | with_reducible refine use1 (cr.out _ (by repeat (first | exact Below.refl _ _ | refine Below.later ?_ _ | refine Below.box ?_ _ | refine Below.drew ?_ | refine Below.put ?_ (by dsimp only; omega) _))) ?_ | with_reducible refine use (cr.out _ (by repeat (first | exact Below.refl _ _ | refine Below.later ?_ _ | refine Below.box ?_ _ | refine Below.drew ?_ | refine Below.put ?_ (by dsimp only; omega) _))) ?_); intro pw1) | (go_at_call 10; (first | with_reducible refine use1 (awake24_c _) ?_ | with_reducible refine use (awake24_c _) ?_); intro pw) | (go_at_call 16; (first | with_reducible refine use1 (ct.out _ _ _) ?_ | with_reducible refine use (ct.out _ _ _) ?_); intro pw))
    obtain ⟨LB, hLB⟩ : ∃ LB, LB = w.heap.size + 1 + pw1.os.size := ⟨_, rfl⟩
    rw [← hLB]
    refine wp_gen24 (fun w' => Below w.heap.size w w' ∧ LB < w'.heap.size ∧ w'.cell? ⟨LB, 0, none⟩ = some (Value.int .u64 p) ∧ w'.cell? ⟨LB, 1, none⟩ = some (.int .i64 (B : Int)) ∧ w'.cell? ⟨LB, 2, none⟩ = some (.int .i64 q) ∧ w'.cell? ⟨LB, 3, none⟩ = some (.int .i64 K) ∧ w'.cell? ⟨LB, 4, none⟩ = some (.int .i64 NN) ∧ w'.cell? ⟨LB, 5, none⟩ = some (.int .i64 (S : Int)) ∧ w'.cell? ⟨LB, 6, none⟩ = some (.int .i64 (m : Int)) ∧ w'.cell? ⟨LB, 7, none⟩ = some (.int .i64 (P0 : Nat)) ∧ w'.cell? ⟨LB, 8, none⟩ = some (.int .i64 (P1 : Nat)) ∧ w'.cell? ⟨LB, 9, none⟩ = some (.int .i64 (P1 : Nat)) ∧ w'.cell? ⟨LB, 10, none⟩ = some (.int .i64 (P1 : Nat)) ∧ w'.cell? ⟨w.heap.size, 0, none⟩ = some (Value.int .u64 p) ∧ w'.cell? ⟨w.heap.size, 1, none⟩ = some (.int .i64 (pb : Int)) ∧ w'.cell? ⟨w.heap.size, 2, none⟩ = some (.int .i64 vs) ∧ w'.cell? ⟨w.heap.size, 3, none⟩ = some (.slice u m c) ∧ w'.cell? ⟨w.heap.size, 4, none⟩ = some (.int .i64 (B : Int)) ∧ w'.cell? ⟨w.heap.size, 5, none⟩ = some (.int .i64 bl) ∧ w'.cell? ⟨w.heap.size, 6, none⟩ = some (.int .i64 q) ∧ w'.cell? ⟨w.heap.size, 7, none⟩ = some (.slice (some ⟨bw, ow, none⟩) n 1)) ?fx ?_
    case fx => subst hLB; exact ⟨(by repeat (first | exact Below.refl _ _ | refine Below.later ?_ _ | refine Below.box ?_ _ | refine Below.drew ?_ | refine Below.put ?_ (by dsimp only; omega) _)), by simp, by simp [go_sem], by simp [go_sem], by simp [go_sem], by simp [go_sem], by simp [go_sem], by simp [go_sem], by simp [go_sem], by simp [go_sem], by simp [go_sem], by simp [go_sem], by simp [go_sem], by simp [go_sem], by simp [go_sem], by simp [go_sem], by simp [go_sem], by simp [go_sem], by simp [go_sem], by simp [go_sem], by simp [go_sem]⟩
    rintro W0 ⟨hB0, hLt, l0, l1, l2, l3, l4, l5, l6, l7, l8, l9, l10, t0, t1, t2, t3, t4, t5, t6, t7⟩
    clear hLB cr
    have hlt0 : w.heap.size < W0.heap.size := by
      have := World.block_lt_of_cell? W0 ⟨w.heap.size, 0, none⟩ t0
      exact this
    have hB0 : Kept (Below w.heap.size w W0) := ⟨hB0⟩
    have hS : Kept (∀ w', Below W0.heap.size W0 w' → w'.cell? ⟨LB, 0, none⟩ = some (Value.int .u64 p) ∧ w'.cell? ⟨LB, 1, none⟩ = some (.int .i64 (B : Int)) ∧ w'.cell? ⟨LB, 2, none⟩ = some (.int .i64 q) ∧ w'.cell? ⟨LB, 3, none⟩ = some (.int .i64 K) ∧ w'.cell? ⟨LB, 4, none⟩ = some (.int .i64 NN) ∧ w'.cell? ⟨LB, 5, none⟩ = some (.int .i64 (S : Int)) ∧ w'.cell? ⟨LB, 6, none⟩ = some (.int .i64 (m : Int)) ∧ w'.cell? ⟨LB, 7, none⟩ = some (.int .i64 (P0 : Nat)) ∧ w'.cell? ⟨LB, 8, none⟩ = some (.int .i64 (P1 : Nat)) ∧ w'.cell? ⟨LB, 9, none⟩ = some (.int .i64 (P1 : Nat)) ∧ w'.cell? ⟨LB, 10, none⟩ = some (.int .i64 (P1 : Nat)) ∧ w'.cell? ⟨w.heap.size, 0, none⟩ = some (Value.int .u64 p) ∧ w'.cell? ⟨w.heap.size, 1, none⟩ = some (.int .i64 (pb : Int)) ∧ w'.cell? ⟨w.heap.size, 2, none⟩ = some (.int .i64 vs) ∧ w'.cell? ⟨w.heap.size, 3, none⟩ = some (.slice u m c) ∧ w'.cell? ⟨w.heap.size, 4, none⟩ = some (.int .i64 (B : Int)) ∧ w'.cell? ⟨w.heap.size, 5, none⟩ = some (.int .i64 bl) ∧ w'.cell? ⟨w.heap.size, 6, none⟩ = some (.int .i64 q) ∧ w'.cell? ⟨w.heap.size, 7, none⟩ = some (.slice (some ⟨bw, ow, none⟩) n 1)) := ⟨fun w' hw => by
      have hc : ∀ k v, W0.cell? ⟨LB, k, none⟩ = some v → w'.cell? ⟨LB, k, none⟩ = some v := fun k v h => by rw [hw.cell (p := ⟨LB, k, none⟩) hLt]; exact h
      have hd : ∀ k v, W0.cell? ⟨w.heap.size, k, none⟩ = some v → w'.cell? ⟨w.heap.size, k, none⟩ = some v := fun k v h => by rw [hw.cell (p := ⟨w.heap.size, k, none⟩) hlt0]; exact h
      exact ⟨hc _ _ l0, hc _ _ l1, hc _ _ l2, hc _ _ l3, hc _ _ l4, hc _ _ l5, hc _ _ l6, hc _ _ l7, hc _ _ l8, hc _ _ l9, hc _ _ l10, hd _ _ t0, hd _ _ t1, hd _ _ t2, hd _ _ t3, hd _ _ t4, hd _ _ t5, hd _ _ t6, hd _ _ t7⟩⟩
    go_region_held3 (fun w' => w'.cell? ⟨LB, 0, none⟩ = some (Value.int .u64 p) ∧ w'.cell? ⟨LB, 1, none⟩ = some (.int .i64 (B : Int)) ∧ w'.cell? ⟨LB, 2, none⟩ = some (.int .i64 q) ∧ w'.cell? ⟨LB, 3, none⟩ = some (.int .i64 K) ∧ w'.cell? ⟨LB, 4, none⟩ = some (.int .i64 NN) ∧ w'.cell? ⟨LB, 5, none⟩ = some (.int .i64 (S : Int)) ∧ w'.cell? ⟨LB, 6, none⟩ = some (.int .i64 (m : Int)) ∧ w'.cell? ⟨LB, 7, none⟩ = some (.int .i64 (P0 : Nat)) ∧ w'.cell? ⟨LB, 8, none⟩ = some (.int .i64 (P1 : Nat)) ∧ w'.cell? ⟨LB, 9, none⟩ = some (.int .i64 (P1 : Nat)) ∧ w'.cell? ⟨LB, 10, none⟩ = some (.int .i64 (P1 : Nat)) ∧ w'.cell? ⟨w.heap.size, 0, none⟩ = some (Value.int .u64 p) ∧ w'.cell? ⟨w.heap.size, 1, none⟩ = some (.int .i64 (pb : Int)) ∧ w'.cell? ⟨w.heap.size, 2, none⟩ = some (.int .i64 vs) ∧ w'.cell? ⟨w.heap.size, 3, none⟩ = some (.slice u m c) ∧ w'.cell? ⟨w.heap.size, 4, none⟩ = some (.int .i64 (B : Int)) ∧ w'.cell? ⟨w.heap.size, 5, none⟩ = some (.int .i64 bl) ∧ w'.cell? ⟨w.heap.size, 6, none⟩ = some (.int .i64 q) ∧ w'.cell? ⟨w.heap.size, 7, none⟩ = some (.slice (some ⟨bw, ow, none⟩) n 1))
      (first | with_reducible exact hS.out _ hMb | exact hS.out _ (by repeat (first | with_reducible exact Below.refl _ _ | with_reducible refine Below.later ?_ _ | with_reducible refine Below.drew ?_)))
      (first
        | (go_at_call 14; refine use (co.out _ _ _) ?_; intro pw3)
        | (go_at_call 23; refine (cm.out _ (Below.next hB0.out (by repeat (first | exact Below.refl _ _ | refine Below.later ?_ _ | refine Below.box ?_ _ | refine Below.drew ?_ | refine Below.put ?_ (by dsimp only; omega) _))) _ _).mono ?_; rintro e' w4 ⟨vm, bs, rfl, hM⟩; replace hM := hM.base (W := W0) (by repeat (first | exact Below.refl _ _ | refine Below.later ?_ _ | refine Below.box ?_ _ | refine Below.drew ?_ | refine Below.put ?_ (by dsimp only; omega) _)); obtain ⟨G, c2, rfl, hcN, hGe, hGl⟩ := hM.form (by rw [kC.out.1]; omega); rw [kC.out.1] at hM; rw [kC.out.1]; have hMb := hM.grown.below))
    try with_reducible refine NoPanic.normal ?_
    go_split_ands
    obtain ⟨g, L', hbg, hLi, _, hgl, hge, hro⟩ := hM.row_at (i := i) (by rw [kC.out.1]; exact hiN)
    have hLL : L' = L := by have := kLi.out; rw [hLi] at this; injection this
    subst hLL
    have hmc := hM.cell_at hbg hLi
    rw [kLB.out] at hmc
    have hoc := hro.cell (i := k) (by rw [kLB.out]; exact hkB)
    rw [show L'.getD k 0 = Y from by rw [List.getD, kY.out]; rfl] at hoc
    have hof := hro.frozen k
    have hsz4 := hMb.size
    have hLt4 : LB < w4.heap.size := by omega
    have hlt4 : w.heap.size < w4.heap.size := by omega
    have kM : Kept (∀ w', Below w4.heap.size w4 w' → Mat W0 (w'.setCell ⟨g, k, none⟩ (.int .u64 X)) (.slice (some ⟨G, 0, none⟩) N c2) bs (C.set i (L'.set k X))) := ⟨fun w' hw => (hM.keep hw).put hbg hLi hXU⟩
    obtain ⟨l0, l1, l2, l3, l4, l5, l6, l7, l8, l9, l10, t0, t1, t2, t3, t4, t5, t6, t7⟩ := hS.out w4 hMb
    have hgw : w.heap.size ≤ g := by omega
    have hne1 : LB ≠ g := by omega
    have hne2 : w.heap.size ≠ g := by omega
    have hne3 : G ≠ g := (hM.ge g (List.mem_of_getElem? hbg)).2.1 ∘ (fun e => by simp [Value.ownBlock, e])
    have hiI : (i : Int) < (N : Int) := by omega
    have hkI : (k : Int) < (B : Int) := by omega
    have hi0 : (0 : Int) ≤ (i : Int) := Int.natCast_nonneg _
    have hk0 : (0 : Int) ≤ (k : Int) := Int.natCast_nonneg _
    clear hM hMb hbg hLi hro hge hsz4
    go_wp2_with (first | (go_at_call 16; (first | with_reducible refine use1 (ct.out _ _ _) ?_ | with_reducible refine use (ct.out _ _ _) ?_); intro pw))
    first | refine region_quiet1 (by kernel_rfl) ?_ | refine region_quiet (by kernel_rfl) ?_
    repeat (go_big_quiet_step (first | fail))
    refine wpQuiet_nil ?_
    intro _
    go_wp2
    first | refine region_quiet1 (by kernel_rfl) ?_ | refine region_quiet (by kernel_rfl) ?_
    repeat (go_big_quiet_step (first | fail))
    refine wpQuiet_nil ?_
    intro _
    go_wp2
    first | refine region_tail1 (by kernel_rfl) (by kernel_rfl) (by kernel_rfl) ?_ | refine region_tail (by kernel_rfl) (by kernel_rfl) (by kernel_rfl) ?_
    simp only [initOf, lastOf]
    repeat (go_big_quiet_step (first | fail))
    refine wpQuiet_nil ?_
    intro _
    go_wp2
    refine wp_gen24 (fun w' => Mat W0 w' (.slice (some ⟨G, 0, none⟩) N c2) bs (C.set i (L'.set k X))) ?fy ?_
    case fy => exact kM.out _ (by repeat (first | exact Below.refl _ _ | refine Below.later ?_ _ | refine Below.box ?_ _ | refine Below.drew ?_ | refine Below.put ?_ (by dsimp only; omega) _))
    rintro X0 hMX
    have hXB := hMX.grown.below
    have hX0 : Kept (Below w.heap.size w X0) := ⟨Below.next hB0.out hXB⟩
    have hmX := (⟨(hMX.mt (by rw [hlset.out.1]; omega) (fun l' hl' => by rw [hlset.out.2 l' hl']; omega)).2⟩ : Kept (Mt X0 (some ⟨G, 0, none⟩) (C.set i (L'.set k X))))
    have hXS := hXB.size
    have hSX : Kept (∀ w', Below X0.heap.size X0 w' → (w'.cell? ⟨LB, 0, none⟩ = some (Value.int .u64 p) ∧ w'.cell? ⟨LB, 1, none⟩ = some (.int .i64 (B : Int)) ∧ w'.cell? ⟨LB, 2, none⟩ = some (.int .i64 q) ∧ w'.cell? ⟨LB, 3, none⟩ = some (.int .i64 K) ∧ w'.cell? ⟨LB, 4, none⟩ = some (.int .i64 NN) ∧ w'.cell? ⟨LB, 5, none⟩ = some (.int .i64 (S : Int)) ∧ w'.cell? ⟨LB, 6, none⟩ = some (.int .i64 (m : Int)) ∧ w'.cell? ⟨LB, 7, none⟩ = some (.int .i64 (P0 : Nat)) ∧ w'.cell? ⟨LB, 8, none⟩ = some (.int .i64 (P1 : Nat)) ∧ w'.cell? ⟨LB, 9, none⟩ = some (.int .i64 (P1 : Nat)) ∧ w'.cell? ⟨LB, 10, none⟩ = some (.int .i64 (P1 : Nat)) ∧ w'.cell? ⟨w.heap.size, 0, none⟩ = some (Value.int .u64 p) ∧ w'.cell? ⟨w.heap.size, 1, none⟩ = some (.int .i64 (pb : Int)) ∧ w'.cell? ⟨w.heap.size, 2, none⟩ = some (.int .i64 vs) ∧ w'.cell? ⟨w.heap.size, 3, none⟩ = some (.slice u m c) ∧ w'.cell? ⟨w.heap.size, 4, none⟩ = some (.int .i64 (B : Int)) ∧ w'.cell? ⟨w.heap.size, 5, none⟩ = some (.int .i64 bl) ∧ w'.cell? ⟨w.heap.size, 6, none⟩ = some (.int .i64 q) ∧ w'.cell? ⟨w.heap.size, 7, none⟩ = some (.slice (some ⟨bw, ow, none⟩) n 1)) ∧ LB < w'.heap.size ∧ w.heap.size < w'.heap.size) := ⟨fun w' hw => ⟨hS.out w' (Below.next hXB hw), by have := hw.size; omega, by have := hw.size; omega⟩⟩
    clear hMX hXB hS kM hmc hoc hof hgl hgw hGe hGl hLt4 hlt4 hXS l0 l1 l2 l3 l4 l5 l6 l7 l8 l9 l10 t0 t1 t2 t3 t4 t5 t6 t7
    go_loopw [12, 13, 106] (fun vm vp vr wr => ∃ (r : Nat), (vm = .bool false ∧ vp = .bool true ∨ vm = .bool true ∧ vp = .bool false) ∧ vr = .int .u64 (r : Int) ∧ (r : Int) ≤ p ∧ Below X0.heap.size X0 wr) (fun _ _ vr _ => (p - intOf vr).toNat)
    case atStart => exact ⟨0, .inl ⟨rfl, rfl⟩, rfl, by omega, Below.refl _ _⟩
    case round =>
      obtain ⟨r, hmb, rfl, hr, hBr⟩ := hrel
      obtain ⟨w1, rfl⟩ : ∃ x, x = wr := ⟨wr, rfl⟩
      have hBr' := (⟨hBr⟩ : Kept _)
      clear hBr
      by_cases hrp : (r : Int) < p
      · rcases hmb with ⟨rfl, rfl⟩ | ⟨rfl, rfl⟩
        · obtain ⟨d, z, hd, hdB, hz, hz0, hzp, hiff⟩ := kI.out r
          obtain ⟨⟨l0, l1, l2, l3, l4, l5, l6, l7, l8, l9, l10, t0, t1, t2, t3, t4, t5, t6, t7⟩, hLt1, hlt1⟩ := hSX.out w1 hBr'.out
          have kd := (⟨hd⟩ : Kept _)
          have kdB := (⟨hdB⟩ : Kept _)
          have kz := (⟨hz⟩ : Kept _)
          have kiff := (⟨hiff⟩ : Kept _)
          clear hd hdB hz hiff
          go_wp2_with (first | (go_at_call 20; refine (cg.out r _ hrp (Below.next hX0.out hBr'.out) _ _).mono ?_; rintro e' w5 ⟨vm, bs2, rfl, hM2⟩; obtain ⟨G2, c3, rfl, hcN2, hGe2, hGl2⟩ := hM2.form (by rw [(kD.out r).1]; omega); rw [(kD.out r).1] at hM2; rw [(kD.out r).1]; refine Stop.out ?_))
          refine ⟨?_⟩
          obtain ⟨g2, d', hbg2, hdi, _, hgl2, _, hro2⟩ := hM2.row_at (i := i) (by rw [(kD.out r).1]; exact hiN)
          have hdd : d' = d := by have := kd.out; rw [hdi] at this; injection this
          subst hdd
          have hrc := hM2.cell_at hbg2 hdi
          rw [kdB.out] at hrc
          have hzc := hro2.cell (i := k) (by rw [kdB.out]; exact hkB)
          rw [show d'.getD k 0 = z from by rw [List.getD, kz.out]; rfl] at hzc
          have hB15 : Kept (Below X0.heap.size X0 w5) := ⟨Below.next hBr'.out hM2.grown.below⟩
          clear l0 l1 l2 l3 l4 l5 l6 l7 l8 l9 l10 t0 t1 t2 t3 t4 t5 t6 t7 hLt1 hlt1
          obtain ⟨⟨l0, l1, l2, l3, l4, l5, l6, l7, l8, l9, l10, t0, t1, t2, t3, t4, t5, t6, t7⟩, hLt1, hlt1⟩ := hSX.out w5 hB15.out
          obtain ⟨SV, hSV⟩ : ∃ SV, msum p (C.set i (L'.set k X)) (DD r) = SV := ⟨_, rfl⟩
          have cs2 : Kept (∀ w' u1 u2 c1 c2, Mt w' u1 (C.set i (L'.set k X)) → Mt w' u2 (DD r) → Calls Try.prog 25 #[.int .u64 p, .slice u1 N c1, .slice u2 N c2] w' (Gives (.int .u64 SV) w')) := ⟨fun w' u1 u2 c1 c2 h1 h2 => by rw [← hSV]; exact csm.out r w' u1 u2 c1 c2 h1 h2⟩
          have kiff2 : Kept (SV = TT r ↔ z = 0) := ⟨by rw [← hSV]; exact kiff.out⟩
          clear hM2 hbg2 hdi hro2 hSV kiff
          by_cases hz : z = 0
          · have hSV : SV = TT r := kiff2.out.2 hz
            subst hz
            rw [hSV] at cs2
            clear hSV kiff2
            go_wp2
            go_region_held3 (fun w' => w'.cell? ⟨LB, 0, none⟩ = some (Value.int .u64 p) ∧ w'.cell? ⟨LB, 1, none⟩ = some (.int .i64 (B : Int)) ∧ w'.cell? ⟨LB, 2, none⟩ = some (.int .i64 q) ∧ w'.cell? ⟨LB, 3, none⟩ = some (.int .i64 K) ∧ w'.cell? ⟨LB, 4, none⟩ = some (.int .i64 NN) ∧ w'.cell? ⟨LB, 5, none⟩ = some (.int .i64 (S : Int)) ∧ w'.cell? ⟨LB, 6, none⟩ = some (.int .i64 (m : Int)) ∧ w'.cell? ⟨LB, 7, none⟩ = some (.int .i64 (P0 : Nat)) ∧ w'.cell? ⟨LB, 8, none⟩ = some (.int .i64 (P1 : Nat)) ∧ w'.cell? ⟨LB, 9, none⟩ = some (.int .i64 (P1 : Nat)) ∧ w'.cell? ⟨LB, 10, none⟩ = some (.int .i64 (P1 : Nat)) ∧ w'.cell? ⟨w.heap.size, 0, none⟩ = some (Value.int .u64 p) ∧ w'.cell? ⟨w.heap.size, 1, none⟩ = some (.int .i64 (pb : Int)) ∧ w'.cell? ⟨w.heap.size, 2, none⟩ = some (.int .i64 vs) ∧ w'.cell? ⟨w.heap.size, 3, none⟩ = some (.slice u m c) ∧ w'.cell? ⟨w.heap.size, 4, none⟩ = some (.int .i64 (B : Int)) ∧ w'.cell? ⟨w.heap.size, 5, none⟩ = some (.int .i64 bl) ∧ w'.cell? ⟨w.heap.size, 6, none⟩ = some (.int .i64 q) ∧ w'.cell? ⟨w.heap.size, 7, none⟩ = some (.slice (some ⟨bw, ow, none⟩) n 1))
              (first | with_reducible exact (hSX.out _ (Below.next hB15.out hMd)).1 | with_reducible exact (hSX.out _ (Below.next hB15.out (Below.later hMd _))).1 | exact (hSX.out _ (Below.next hB15.out (by repeat (first | with_reducible exact Below.refl _ _ | with_reducible exact hMd | with_reducible refine Below.later ?_ _ | with_reducible refine Below.drew ?_)))).1)
              (first
                | (go_at_call 14; refine use (co.out _ _ _) ?_; intro pw3)
                | (go_at_call 19; refine (cf.out r _ hrp (Below.next hX0.out (Below.next hB15.out (by repeat (first | exact Below.refl _ _ | refine Below.later ?_ _ | refine Below.box ?_ _ | refine Below.drew ?_ | refine Below.put ?_ (by dsimp only; omega) _)))) _ _).mono ?_; rintro e' w6 ⟨vm, bs3, rfl, hM3⟩; replace hM3 := hM3.base (W := w5) (by repeat (first | exact Below.refl _ _ | refine Below.later ?_ _ | refine Below.box ?_ _ | refine Below.drew ?_ | refine Below.put ?_ (by dsimp only; omega) _)); obtain ⟨u4, c4, rfl, _⟩ := hM3.grown.form; rw [(kD.out r).1] at hM3; rw [(kD.out r).1]; have hMd := hM3.grown.below)
                | (go_at_call 25; refine use (cs2.out _ _ _ _ _ (hmX.out.below (Nat.le_refl _) (Below.next hB15.out hMd)) (hM3.mt (by rw [(kD.out r).1]; omega) (fun l' hl' => by rw [(kD.out r).2.1 l' hl']; omega)).2) ?_; intro pw7)
                | (go_at_call 21; refine use (cT.out r _ hrp (Below.next hX0.out (Below.next hB15.out (by first | exact hMd | exact Below.later hMd _ | exact Below.later (Below.later hMd _) _))) _ _) ?_; intro pw8))
            all_goals (
              try with_reducible refine NoPanic.normal ?_
              go_split_ands
              go_wp2
              go_roundw
              case rel => exact ⟨r + 1, .inl ⟨by simp, by simp⟩, by go_num, by omega, Below.next hB15.out (by repeat (first | exact Below.refl _ _ | exact hMd | refine Below.later ?_ _ | refine Below.drew ?_))⟩
              case measure => first | (simp [intOf]; omega) | (simp [intOf]; done))
          · have hzb : (z != 0) = true := by simp [hz]
            have hSVb : (SV == TT r) = false := by
              have : ¬ SV = TT r := fun e => hz (kiff2.out.1 e)
              simp [this]
            clear kiff2
            go_wp2
            go_region_held3 (fun w' => w'.cell? ⟨LB, 0, none⟩ = some (Value.int .u64 p) ∧ w'.cell? ⟨LB, 1, none⟩ = some (.int .i64 (B : Int)) ∧ w'.cell? ⟨LB, 2, none⟩ = some (.int .i64 q) ∧ w'.cell? ⟨LB, 3, none⟩ = some (.int .i64 K) ∧ w'.cell? ⟨LB, 4, none⟩ = some (.int .i64 NN) ∧ w'.cell? ⟨LB, 5, none⟩ = some (.int .i64 (S : Int)) ∧ w'.cell? ⟨LB, 6, none⟩ = some (.int .i64 (m : Int)) ∧ w'.cell? ⟨LB, 7, none⟩ = some (.int .i64 (P0 : Nat)) ∧ w'.cell? ⟨LB, 8, none⟩ = some (.int .i64 (P1 : Nat)) ∧ w'.cell? ⟨LB, 9, none⟩ = some (.int .i64 (P1 : Nat)) ∧ w'.cell? ⟨LB, 10, none⟩ = some (.int .i64 (P1 : Nat)) ∧ w'.cell? ⟨w.heap.size, 0, none⟩ = some (Value.int .u64 p) ∧ w'.cell? ⟨w.heap.size, 1, none⟩ = some (.int .i64 (pb : Int)) ∧ w'.cell? ⟨w.heap.size, 2, none⟩ = some (.int .i64 vs) ∧ w'.cell? ⟨w.heap.size, 3, none⟩ = some (.slice u m c) ∧ w'.cell? ⟨w.heap.size, 4, none⟩ = some (.int .i64 (B : Int)) ∧ w'.cell? ⟨w.heap.size, 5, none⟩ = some (.int .i64 bl) ∧ w'.cell? ⟨w.heap.size, 6, none⟩ = some (.int .i64 q) ∧ w'.cell? ⟨w.heap.size, 7, none⟩ = some (.slice (some ⟨bw, ow, none⟩) n 1))
              (first | with_reducible exact (hSX.out _ (Below.next hB15.out hMd)).1 | with_reducible exact (hSX.out _ (Below.next hB15.out (Below.later hMd _))).1 | exact (hSX.out _ (Below.next hB15.out (by repeat (first | with_reducible exact Below.refl _ _ | with_reducible exact hMd | with_reducible refine Below.later ?_ _ | with_reducible refine Below.drew ?_)))).1)
              (first
                | (go_at_call 14; refine use (co.out _ _ _) ?_; intro pw3)
                | (go_at_call 19; refine (cf.out r _ hrp (Below.next hX0.out (Below.next hB15.out (by repeat (first | exact Below.refl _ _ | refine Below.later ?_ _ | refine Below.box ?_ _ | refine Below.drew ?_ | refine Below.put ?_ (by dsimp only; omega) _)))) _ _).mono ?_; rintro e' w6 ⟨vm, bs3, rfl, hM3⟩; replace hM3 := hM3.base (W := w5) (by repeat (first | exact Below.refl _ _ | refine Below.later ?_ _ | refine Below.box ?_ _ | refine Below.drew ?_ | refine Below.put ?_ (by dsimp only; omega) _)); obtain ⟨u4, c4, rfl, _⟩ := hM3.grown.form; rw [(kD.out r).1] at hM3; rw [(kD.out r).1]; have hMd := hM3.grown.below)
                | (go_at_call 25; refine use (cs2.out _ _ _ _ _ (hmX.out.below (Nat.le_refl _) (Below.next hB15.out hMd)) (hM3.mt (by rw [(kD.out r).1]; omega) (fun l' hl' => by rw [(kD.out r).2.1 l' hl']; omega)).2) ?_; intro pw7)
                | (go_at_call 21; refine use (cT.out r _ hrp (Below.next hX0.out (Below.next hB15.out (by first | exact hMd | exact Below.later hMd _ | exact Below.later (Below.later hMd _) _))) _ _) ?_; intro pw8))
            all_goals (
              try with_reducible refine NoPanic.normal ?_
              go_split_ands
              go_wp2
              go_roundw
              case rel => exact ⟨r + 1, .inr ⟨by simp, by simp⟩, by go_num, by omega, Below.next hB15.out (by repeat (first | exact Below.refl _ _ | exact hMd | refine Below.later ?_ _ | refine Below.drew ?_))⟩
              case measure => first | (simp [intOf]; omega) | (simp [intOf]; done))
        · go_wp2
          first | refine region_quiet1 (by kernel_rfl) ?_ | refine region_quiet (by kernel_rfl) ?_
          repeat (go_big_quiet_step (first | fail))
          refine wpQuiet_nil ?_
          intro _
          go_wp2
          go_roundw
          case rel => exact ⟨r + 1, .inr ⟨by simp, by simp⟩, by go_num, by omega, Below.next hBr'.out (by repeat (first | exact Below.refl _ _ | refine Below.later ?_ _ | refine Below.box ?_ _ | refine Below.drew ?_ | refine Below.put ?_ (by dsimp only; omega) _))⟩
          case measure => first | (simp [intOf]; omega) | (simp [intOf]; done)
      · have hrp' : (r : Int) = p := by omega
        rcases hmb with ⟨rfl, rfl⟩ | ⟨rfl, rfl⟩
        · go_wp2
          go_ret
          exact ⟨by simp, Below.next hX0.out (Below.next hBr'.out (by repeat (first | exact Below.refl _ _ | refine Below.later ?_ _ | refine Below.box ?_ _ | refine Below.drew ?_ | refine Below.put ?_ (by dsimp only; omega) _)))⟩
        · go_wp2
          go_ret
          exact ⟨by simp, Below.next hX0.out (Below.next hBr'.out (by repeat (first | exact Below.refl _ _ | refine Below.later ?_ _ | refine Below.box ?_ _ | refine Below.drew ?_ | refine Below.put ?_ (by dsimp only; omega) _)))⟩

set_option maxRecDepth 100000 in
theorem lifted (os : Os) (started : os.Started) (H : Type) (enc : TypeId × Value → H) :
    ReturnsInHanded {} Try.checked os 8 .any (Rows.layoutChangeSpec.pre6 enc Try.prog Try.f8 Rows.layoutChangeRow.domain false) (Rows.layoutChangeSpec.post enc Try.prog Try.f8 false true false false) := by
  refine returnsInHanded_of_change (C := Try.checked) own started (by kernel_rfl) Try.func8
    (ChangeSpec.witness6 (enc := enc) (C := Try.checked) false ⟨#[], #[.agg #[.int .u64 0, .int .i64 0, .int .i64 0, .slice none 0 0, .int .i64 0, .int .i64 0, .int .i64 0, .slice none 0 0], .int .u16 0, .int .u64 0], []⟩ 8 (by kernel_rfl) (by kernel_rfl) (by kernel_rfl) (by kernel_rfl)) ?_
  intro W base args ds gs before hval0 hW hcnd _
  have hval : ∀ (j : Nat) t v, Try.f8.params[j]? = some t → args[j]? = some v → Value.okWide Try.prog W .any base t v := hval0
  have hW0 : DataW.Whole enc Try.prog Try.f8.params.toList Rows.layoutChangeSpec.vars false W args.toList ds gs before := hW
  obtain ⟨p, q, hA0, hV, rfl, _, _⟩ := hW
  have hA : DataW.TrodAll enc Try.prog W 0 (fun _ => true) true Try.f8.params.toList args.toList ds p := hA0
  rw [Try.params8] at hA hval
  obtain ⟨v0, vs0, d0, ds0, p0, q0, hargs, rfl, rfl, h0, r0⟩ := trodAll_cons hA
  obtain ⟨v1, vs1, d1, ds1, p1, q1, rfl, rfl, rfl, h1, r1⟩ := trodAll_cons r0
  obtain ⟨v2, vs2, d2, ds2, p2, q2, rfl, rfl, rfl, h2, r2⟩ := trodAll_cons r1
  obtain ⟨rfl, rfl, rfl⟩ := trodAll_nil r2
  obtain rfl : args = #[v0, v1, v2] := by cases args; simp_all
  obtain ⟨rfl, rfl⟩ := trodVars_none hV
  obtain ⟨a0x, a0y, a0z, a0u, a0v, a0t, a0r, a0s, a0q, a0o, a0m, a0k, rfl, u0⟩ := open_case2 (hval 0 45 v0 rfl rfl) h0
  obtain ⟨a1, rfl, u1⟩ := open_u16 (hval 1 59 v1 rfl rfl)
  obtain ⟨a2, rfl, u2⟩ := open_u64 (hval 2 22 v2 rfl rfl)
  clear hA0 hval0
  refine (walk W a0x a0y a0z a0u a0v a0t a0r a0s a0q a0o a0m a0k u0 a1 u1 a2 u2).mono fun e W' ⟨he, hb⟩ => ⟨.bool true, he, ?_⟩
  exact law_post (fun t ht => by have ht' : t ∈ [45, 59, 22] := ht; simp only [List.mem_cons, List.not_mem_nil, or_false] at ht'; rcases ht' with rfl | rfl | rfl <;> exact ⟨by kernel_rfl, of_decide_eq_true (by kernel_rfl)⟩) rfl rfl hW0 rfl hb

theorem over : Rows.layoutChangeRow.holds Try.pinned (OpenSpec.ofChange Rows.layoutChangeSpec) :=
  OpenClaim.holds_of_wide 8 Try.f8 rfl rfl rfl rfl rfl rfl rfl ⟨rfl, rfl, rfl, rfl, rfl⟩ rfl rfl rfl rfl rfl (by kernel_rfl) Try.func8 (by kernel_rfl)
    (of_decide_eq_true (by kernel_rfl)) (by unfold Func.isWrapper; first | (rw [if_pos (by decide +kernel)]; kernel_rfl) | (rw [if_neg (by decide +kernel)]; exact ⟨rfl, rfl⟩))
    (fun os started H enc _ => lifted os started H enc)

/-- The statement. -/
theorem proved : Rows.LayoutChangeSaid := over
#print axioms proved
end Go.Proofs.Ytpkjlnelkacbgaa.layoutChange
