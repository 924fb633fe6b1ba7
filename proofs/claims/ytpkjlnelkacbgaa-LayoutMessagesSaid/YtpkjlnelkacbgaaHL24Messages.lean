/- LayoutMessages: for any case the call returns true: where the case is right (up to 100 rows), Messages gives the specified parts; others are passed over. No condition. -/
import Derived.Test.YtpkjlnelkacbgaaHL24c
import Derived.Deep.RegionHeld3
import Derived.Test.YtpkjlnelkacbgaaHScp
import Derived.Test.YtpkjlnelkacbgaaHLms
namespace Go.Proofs.Ytpkjlnelkacbgaa.layoutMessages
open Go.ChangeShapes Go.WideShapes Go.ChangeAt Go.RowKit Go.Sort

set_option maxRecDepth 100000
set_option maxHeartbeats 8000000 in
theorem walk (w : World) (p pub vs : Int) (u : Option Addr) (c : Nat) (rs : List Rw) (b bl q : Int) (uw : Option Addr) (l : List Int) (cw : Nat)
    (h : U p ∧ I pub ∧ I vs ∧ Rws w u rs ∧ I b ∧ I bl ∧ I q ∧ Ls w uw l ∧ (uw = none → cw = 0) ∧ l.length ≤ cw):
    Calls Try.prog 6 #[.agg #[.int .u64 p, .int .i64 pub, .int .i64 vs, .slice u rs.length c, .int .i64 b, .int .i64 bl, .int .i64 q, .slice uw l.length cw]] w (Gives (.bool true) w) := by
  obtain ⟨hU, _, _, hR, _, _, _, hL, _, hcw⟩ := h
  have hs1 := hR.small
  have hs2 := hL.small
  rcases right24_c p pub vs b bl q 100 u c rs uw cw l w hR hL with h0 | ⟨pb, B, S, P0, P1, K, NN, rfl, rfl, y, h0⟩
  · have cr := (⟨h0⟩ : Kept _)
    clear h0 hR hL
    generalize rs.length = m at *
    generalize l.length = n at *
    go_enter Try.func6, Try.ntmps6
    go_wp2_with (first | (go_at_call 17; (first | with_reducible refine use1 (cr.out _ (by repeat (first | exact Below.refl _ _ | refine Below.later ?_ _ | refine Below.box ?_ _ | refine Below.drew ?_ | refine Below.put ?_ (by dsimp only; omega) _))) ?_ | with_reducible refine use (cr.out _ (by repeat (first | exact Below.refl _ _ | refine Below.later ?_ _ | refine Below.box ?_ _ | refine Below.drew ?_ | refine Below.put ?_ (by dsimp only; omega) _))) ?_); intro pw) | (go_at_call 10; (first | with_reducible refine use1 (awake24_c _) ?_ | with_reducible refine use (awake24_c _) ?_); intro pw))
    go_ret
    exact ⟨rfl, (by repeat (first | exact Below.refl _ _ | refine Below.later ?_ _ | refine Below.box ?_ _ | refine Below.drew ?_ | refine Below.put ?_ (by dsimp only; omega) _))⟩
  · have cr := (⟨h0⟩ : Kept _)
    have hls := y.hls
    obtain ⟨bw, ow, rfl⟩ : ∃ bw ow, uw = some ⟨bw, ow, none⟩ := by
      obtain ⟨bw, ow, e, _⟩ := hL.mem (fun e => by subst e; simp at hls; omega)
      exact ⟨bw, ow, e⟩
    have cc : Kept (∀ w' G cp, Below w.heap.size w w' → Ls w' (some ⟨G, 0, none⟩) l → l.length ≤ cp → ∀ K NN : Int, Calls Try.prog 23 #[.agg #[.int .u64 p, .int .i64 (B : Int), .int .i64 q, .int .i64 K, .int .i64 NN, .int .i64 (S : Int), .int .i64 rs.length, .int .i64 (P0 : Nat), .int .i64 (P1 : Nat), .int .i64 (P1 : Nat), .int .i64 (P1 : Nat)], .agg #[.int .u64 p, .int .i64 pb, .int .i64 vs, .slice u rs.length c], .slice (some ⟨G, 0, none⟩) l.length cp] w' (GivesMat (rCuts p l rs pb B P0 P1) w')) := ⟨fun w' G cp hw hLs hcp K NN => by
      have := lmessages_c B P0 P1 S p q K NN vs u c rs (some ⟨G, 0, none⟩) cp l pb w' y.vld y.hB y.hm16 y.hS y.hvs y.hP0 y.hP1 (hR.below (Nat.le_refl _) hw) hLs y.hl hcp
      rw [lcuts_eq y.hls (upl_int y.hB.1 y.hP0) (upl_int y.hB.1 y.hP1)] at this
      exact this⟩
    have cd : Kept (∀ w', Below w.heap.size w w' → ∀ K NN : Int, Calls Try.prog 24 #[.agg #[.int .u64 p, .int .i64 (B : Int), .int .i64 q, .int .i64 K, .int .i64 NN, .int .i64 (S : Int), .int .i64 rs.length, .int .i64 (P0 : Nat), .int .i64 (P1 : Nat), .int .i64 (P1 : Nat), .int .i64 (P1 : Nat)], .agg #[.int .u64 p, .int .i64 pb, .int .i64 vs, .slice u rs.length c], .slice (some ⟨bw, ow, none⟩) l.length cw] w' (GivesMat (rCuts p l rs pb B P0 P1) w')) := ⟨fun w' hw K NN =>
      messages_c B (fun j => if j = 0 then P0 else P1) p q K NN S rs.length pb vs u c rs (some ⟨bw, ow, none⟩) cw l pb w' y.hB (fun j => by have := y.p0; have := y.p1; split <;> omega) (hR.below (Nat.le_refl _) hw) (hL.below (Nat.le_refl _) hw) rfl (by omega) (by have := y.hvs; have := y.hl; omega) (by have := y.hm16; omega) hcw⟩
    have hgood := rCuts_good (p := p) (l := l) (rs := rs) (pb := pb) (B := B) (P0 := P0) (P1 := P1) (by have := vld_pos y.vld; omega) y.lt
    have hlen : (rCuts p l rs pb B P0 P1).length ≤ 1000000 := by rw [hgood.len]; have := y.p0; have := y.p1; omega
    have hrow : ∀ l' ∈ rCuts p l rs pb B P0 P1, (l'.length : Int) ≤ 9223372036854775807 := fun l' hl' => by rw [hgood.row l' hl']; have := y.hB; omega
    clear hgood
    generalize rCuts p l rs pb B P0 P1 = C at *
    have hn6 : l.length ≤ 65536 := by have := y.hvs; have := y.hl; omega
    have hn0 : 0 < l.length := by omega
    have kL : Kept (Ls w (some ⟨bw, ow, none⟩) l) := ⟨hL⟩
    have kh : Kept ((C.length : Int) ≤ 9223372036854775807 ∧ ∀ l' ∈ C, (l'.length : Int) ≤ 9223372036854775807) := ⟨by omega, hrow⟩
    have cs : Kept (∀ w' w1 w2 W0 u1 u2 n1 n2 c1 c2 bs1 bs2, Mat W0 w1 (.slice u1 n1 c1) bs1 C → Mat w1 w2 (.slice u2 n2 c2) bs2 C → Below w2.heap.size w2 w' → Calls Try.prog 18 #[.slice u1 n1 c1, .slice u2 n2 c2] w' (Gives (.bool true) w')) := ⟨fun w' w1 w2 W0 u1 u2 n1 n2 c1 c2 bs1 bs2 hM1 hM2 hw => by
      obtain ⟨e1, hm1⟩ := hM1.mt kh.out.1 kh.out.2
      obtain ⟨e2, hm2⟩ := hM2.mt kh.out.1 kh.out.2
      subst e1 e2
      have := same24_c u1 u2 c1 c2 C C w' ((hm1.below (Nat.le_refl _) hM2.grown.below).below (Nat.le_refl _) hw) (hm2.below (Nat.le_refl _) hw) rfl
      simpa using this⟩
    have co : Kept (∀ w' K NN, Calls Try.prog 14 #[.agg #[.int .u64 p, .int .i64 B, .int .i64 q, .int .i64 K, .int .i64 NN, .int .i64 S, .int .i64 rs.length, .int .i64 P0, .int .i64 P1, .int .i64 P1, .int .i64 P1]] w' (Gives (.agg #[.int .u64 p, .int .i64 B, .int .i64 q, .int .i64 K, .int .i64 NN, .int .i64 S, .int .i64 rs.length, .int .i64 P0, .int .i64 P1, .int .i64 P1, .int .i64 P1]) w')) := ⟨fun w' K NN => own24_c _ _ _ _ _ _ _ _ _ _ _ w'⟩
    obtain ⟨n, hn⟩ : ∃ n, l.length = n := ⟨_, rfl⟩
    have kn : Kept (l.length = n) := ⟨hn⟩
    rw [hn] at cc cd cr hn6 hn0 hcw hs2 ⊢
    clear h0 hR hL y hlen hrow hls hn
    generalize rs.length = m at *
    go_enter Try.func6, Try.ntmps6
    go_wp2_with (first | (go_at_call 17; (first | with_reducible refine use1 (cr.out _ (by repeat (first | exact Below.refl _ _ | refine Below.later ?_ _ | refine Below.box ?_ _ | refine Below.drew ?_ | refine Below.put ?_ (by dsimp only; omega) _))) ?_ | with_reducible refine use (cr.out _ (by repeat (first | exact Below.refl _ _ | refine Below.later ?_ _ | refine Below.box ?_ _ | refine Below.drew ?_ | refine Below.put ?_ (by dsimp only; omega) _))) ?_); intro pw1) | (go_at_call 10; (first | with_reducible refine use1 (awake24_c _) ?_ | with_reducible refine use (awake24_c _) ?_); intro pw))
    obtain ⟨LB, hLB⟩ : ∃ LB, LB = w.heap.size + 1 + pw1.os.size := ⟨_, rfl⟩
    rw [← hLB]
    refine wp_gen24 (fun w' => Below w.heap.size w w' ∧ LB < w'.heap.size ∧ w'.cell? ⟨LB, 0, none⟩ = some (Value.int .u64 p) ∧ w'.cell? ⟨LB, 1, none⟩ = some (.int .i64 (B : Int)) ∧ w'.cell? ⟨LB, 2, none⟩ = some (.int .i64 q) ∧ w'.cell? ⟨LB, 3, none⟩ = some (.int .i64 K) ∧ w'.cell? ⟨LB, 4, none⟩ = some (.int .i64 NN) ∧ w'.cell? ⟨LB, 5, none⟩ = some (.int .i64 (S : Int)) ∧ w'.cell? ⟨LB, 6, none⟩ = some (.int .i64 (m : Int)) ∧ w'.cell? ⟨LB, 7, none⟩ = some (.int .i64 (P0 : Nat)) ∧ w'.cell? ⟨LB, 8, none⟩ = some (.int .i64 (P1 : Nat)) ∧ w'.cell? ⟨LB, 9, none⟩ = some (.int .i64 (P1 : Nat)) ∧ w'.cell? ⟨LB, 10, none⟩ = some (.int .i64 (P1 : Nat)) ∧ w'.cell? ⟨w.heap.size, 0, none⟩ = some (Value.int .u64 p) ∧ w'.cell? ⟨w.heap.size, 1, none⟩ = some (.int .i64 (pb : Int)) ∧ w'.cell? ⟨w.heap.size, 2, none⟩ = some (.int .i64 vs) ∧ w'.cell? ⟨w.heap.size, 3, none⟩ = some (.slice u m c) ∧ w'.cell? ⟨w.heap.size, 4, none⟩ = some (.int .i64 (B : Int)) ∧ w'.cell? ⟨w.heap.size, 5, none⟩ = some (.int .i64 bl) ∧ w'.cell? ⟨w.heap.size, 6, none⟩ = some (.int .i64 q) ∧ w'.cell? ⟨w.heap.size, 7, none⟩ = some (.slice (some ⟨bw, ow, none⟩) n cw)) ?fx ?_
    case fx => subst hLB; exact ⟨(by repeat (first | exact Below.refl _ _ | refine Below.later ?_ _ | refine Below.box ?_ _ | refine Below.drew ?_ | refine Below.put ?_ (by dsimp only; omega) _)), by simp, by simp [go_sem], by simp [go_sem], by simp [go_sem], by simp [go_sem], by simp [go_sem], by simp [go_sem], by simp [go_sem], by simp [go_sem], by simp [go_sem], by simp [go_sem], by simp [go_sem], by simp [go_sem], by simp [go_sem], by simp [go_sem], by simp [go_sem], by simp [go_sem], by simp [go_sem], by simp [go_sem], by simp [go_sem]⟩
    rintro W0 ⟨hB0, hLt, l0, l1, l2, l3, l4, l5, l6, l7, l8, l9, l10, t0, t1, t2, t3, t4, t5, t6, t7⟩
    clear hLB cr
    have hlt0 : w.heap.size < W0.heap.size := by
      have := World.block_lt_of_cell? W0 ⟨w.heap.size, 0, none⟩ t0
      exact this
    have hB0 : Kept (Below w.heap.size w W0) := ⟨hB0⟩
    have hS : Kept (∀ w', Below W0.heap.size W0 w' → w'.cell? ⟨LB, 0, none⟩ = some (Value.int .u64 p) ∧ w'.cell? ⟨LB, 1, none⟩ = some (.int .i64 (B : Int)) ∧ w'.cell? ⟨LB, 2, none⟩ = some (.int .i64 q) ∧ w'.cell? ⟨LB, 3, none⟩ = some (.int .i64 K) ∧ w'.cell? ⟨LB, 4, none⟩ = some (.int .i64 NN) ∧ w'.cell? ⟨LB, 5, none⟩ = some (.int .i64 (S : Int)) ∧ w'.cell? ⟨LB, 6, none⟩ = some (.int .i64 (m : Int)) ∧ w'.cell? ⟨LB, 7, none⟩ = some (.int .i64 (P0 : Nat)) ∧ w'.cell? ⟨LB, 8, none⟩ = some (.int .i64 (P1 : Nat)) ∧ w'.cell? ⟨LB, 9, none⟩ = some (.int .i64 (P1 : Nat)) ∧ w'.cell? ⟨LB, 10, none⟩ = some (.int .i64 (P1 : Nat)) ∧ w'.cell? ⟨w.heap.size, 0, none⟩ = some (Value.int .u64 p) ∧ w'.cell? ⟨w.heap.size, 1, none⟩ = some (.int .i64 (pb : Int)) ∧ w'.cell? ⟨w.heap.size, 2, none⟩ = some (.int .i64 vs) ∧ w'.cell? ⟨w.heap.size, 3, none⟩ = some (.slice u m c) ∧ w'.cell? ⟨w.heap.size, 4, none⟩ = some (.int .i64 (B : Int)) ∧ w'.cell? ⟨w.heap.size, 5, none⟩ = some (.int .i64 bl) ∧ w'.cell? ⟨w.heap.size, 6, none⟩ = some (.int .i64 q) ∧ w'.cell? ⟨w.heap.size, 7, none⟩ = some (.slice (some ⟨bw, ow, none⟩) n cw)) := ⟨fun w' hw => by
      have hc : ∀ k v, W0.cell? ⟨LB, k, none⟩ = some v → w'.cell? ⟨LB, k, none⟩ = some v := fun k v h => by rw [hw.cell (p := ⟨LB, k, none⟩) hLt]; exact h
      have hd : ∀ k v, W0.cell? ⟨w.heap.size, k, none⟩ = some v → w'.cell? ⟨w.heap.size, k, none⟩ = some v := fun k v h => by rw [hw.cell (p := ⟨w.heap.size, k, none⟩) hlt0]; exact h
      exact ⟨hc _ _ l0, hc _ _ l1, hc _ _ l2, hc _ _ l3, hc _ _ l4, hc _ _ l5, hc _ _ l6, hc _ _ l7, hc _ _ l8, hc _ _ l9, hc _ _ l10, hd _ _ t0, hd _ _ t1, hd _ _ t2, hd _ _ t3, hd _ _ t4, hd _ _ t5, hd _ _ t6, hd _ _ t7⟩⟩
    go_region_held3 (fun w' => w'.cell? ⟨LB, 0, none⟩ = some (Value.int .u64 p) ∧ w'.cell? ⟨LB, 1, none⟩ = some (.int .i64 (B : Int)) ∧ w'.cell? ⟨LB, 2, none⟩ = some (.int .i64 q) ∧ w'.cell? ⟨LB, 3, none⟩ = some (.int .i64 K) ∧ w'.cell? ⟨LB, 4, none⟩ = some (.int .i64 NN) ∧ w'.cell? ⟨LB, 5, none⟩ = some (.int .i64 (S : Int)) ∧ w'.cell? ⟨LB, 6, none⟩ = some (.int .i64 (m : Int)) ∧ w'.cell? ⟨LB, 7, none⟩ = some (.int .i64 (P0 : Nat)) ∧ w'.cell? ⟨LB, 8, none⟩ = some (.int .i64 (P1 : Nat)) ∧ w'.cell? ⟨LB, 9, none⟩ = some (.int .i64 (P1 : Nat)) ∧ w'.cell? ⟨LB, 10, none⟩ = some (.int .i64 (P1 : Nat)) ∧ w'.cell? ⟨w.heap.size, 0, none⟩ = some (Value.int .u64 p) ∧ w'.cell? ⟨w.heap.size, 1, none⟩ = some (.int .i64 (pb : Int)) ∧ w'.cell? ⟨w.heap.size, 2, none⟩ = some (.int .i64 vs) ∧ w'.cell? ⟨w.heap.size, 3, none⟩ = some (.slice u m c) ∧ w'.cell? ⟨w.heap.size, 4, none⟩ = some (.int .i64 (B : Int)) ∧ w'.cell? ⟨w.heap.size, 5, none⟩ = some (.int .i64 bl) ∧ w'.cell? ⟨w.heap.size, 6, none⟩ = some (.int .i64 q) ∧ w'.cell? ⟨w.heap.size, 7, none⟩ = some (.slice (some ⟨bw, ow, none⟩) n cw))
      (first | with_reducible exact hS.out _ hMb | with_reducible exact hS.out _ hMc | with_reducible exact hS.out _ (Below.later hMc _) | with_reducible exact hS.out _ hA | exact hS.out _ (by repeat (first | with_reducible exact Below.refl _ _ | with_reducible refine Below.later ?_ _ | with_reducible refine Below.box ?_ _ | with_reducible refine Below.drew ?_)))
      (first
        | (go_at_call 14; refine use (co.out _ _ _) ?_; intro pw3)
        | (go_at_call 23; refine (cc.out _ _ _ (Below.next hB0.out (by first | exact hA | exact Below.later hA _)) (by first | exact hLs | exact hLs.later _) hcap _ _).mono ?_; rintro e w4 ⟨vm, bs, rfl, hM⟩; replace hM := hM.base (W := W0) (by first | exact hA | exact Below.later hA _); obtain ⟨u2, c2, rfl, _⟩ := hM.grown.form; have hMb := hM.grown.below)
        | (go_at_call 24; refine (cd.out _ (Below.next hB0.out hMb) _ _).mono ?_; rintro e w5 ⟨vm, bs2, rfl, hM2⟩; obtain ⟨u3, c3, rfl, _⟩ := hM2.grown.form; have hMc := Below.next hMb hM2.grown.below)
        | (go_at_call 18; refine use (cs.out _ _ _ _ _ _ _ _ _ _ _ _ hM hM2 (Below.refl _ _)) ?_; intro pw5)
        | (refine step_copy rfl _ _ rfl (W := W0) (by repeat (first | exact Below.refl _ _ | refine Below.later ?_ _ | refine Below.box ?_ _ | refine Below.drew ?_ | refine Below.put ?_ (by dsimp only; omega) _)) (W0.heap.size + pw3.os.size) (by omega) (by rfl) (by first | exact alloc_at24 (by simp) | (rw [(after_below _ _).block _ (by simp)]; exact alloc_at24 (by simp))) (some ⟨bw, ow, none⟩) l n cw kn.out (by rfl) (kL.out.below (Nat.le_refl _) (Below.next hB0.out (by repeat (first | exact Below.refl _ _ | refine Below.later ?_ _ | refine Below.box ?_ _ | refine Below.drew ?_ | refine Below.put ?_ (by dsimp only; omega) _)))) hn0 (by omega) ?_; intro b' cap w3 hA hb' hLs hcap)
        | (refine step_copy rfl _ _ rfl (W := W0) (by repeat (first | exact Below.refl _ _ | refine Below.later ?_ _ | refine Below.box ?_ _ | refine Below.drew ?_ | refine Below.put ?_ (by dsimp only; omega) _)) W0.heap.size (Nat.le_refl _) (by rfl) (by first | exact alloc_at24 (by simp) | (rw [(after_below _ _).block _ (by simp)]; exact alloc_at24 (by simp))) (some ⟨bw, ow, none⟩) l n cw kn.out (by rfl) (kL.out.below (Nat.le_refl _) (Below.next hB0.out (by repeat (first | exact Below.refl _ _ | refine Below.later ?_ _ | refine Below.box ?_ _ | refine Below.drew ?_ | refine Below.put ?_ (by dsimp only; omega) _)))) hn0 (by omega) ?_; intro b' cap w3 hA hb' hLs hcap))
    all_goals (
      try with_reducible refine NoPanic.normal ?_
      go_split_ands
      go_wp2
      go_ret
      exact ⟨by simp, Below.next hB0.out (Below.later hMc _)⟩)

set_option maxRecDepth 100000 in
theorem lifted (os : Os) (started : os.Started) (H : Type) (enc : TypeId × Value → H) :
    ReturnsInHanded {} Try.checked os 6 .any (Rows.layoutMessagesSpec.pre6 enc Try.prog Try.f6 Rows.layoutMessagesRow.domain false) (Rows.layoutMessagesSpec.post enc Try.prog Try.f6 false true false false) := by
  refine returnsInHanded_of_change (C := Try.checked) own started (by kernel_rfl) Try.func6
    (ChangeSpec.witness6 (enc := enc) (C := Try.checked) false ⟨#[], #[.agg #[.int .u64 0, .int .i64 0, .int .i64 0, .slice none 0 0, .int .i64 0, .int .i64 0, .int .i64 0, .slice none 0 0]], []⟩ 8 (by kernel_rfl) (by kernel_rfl) (by kernel_rfl) (by kernel_rfl)) ?_
  intro W base args ds gs before hval0 hW hcnd _
  have hval : ∀ (j : Nat) t v, Try.f6.params[j]? = some t → args[j]? = some v → Value.okWide Try.prog W .any base t v := hval0
  have hW0 : DataW.Whole enc Try.prog Try.f6.params.toList Rows.layoutMessagesSpec.vars false W args.toList ds gs before := hW
  obtain ⟨p, q, hA0, hV, rfl, _, _⟩ := hW
  have hA : DataW.TrodAll enc Try.prog W 0 (fun _ => true) true Try.f6.params.toList args.toList ds p := hA0
  rw [Try.params6] at hA hval
  obtain ⟨v0, vs0, d0, ds0, p0, q0, hargs, rfl, rfl, h0, r0⟩ := trodAll_cons hA
  obtain ⟨rfl, rfl, rfl⟩ := trodAll_nil r0
  obtain rfl : args = #[v0] := by cases args; simp_all
  obtain ⟨rfl, rfl⟩ := trodVars_none hV
  obtain ⟨a0x, a0y, a0z, a0u, a0v, a0t, a0r, a0s, a0q, a0o, a0m, a0k, rfl, u0⟩ := open_case2 (hval 0 45 v0 rfl rfl) h0
  clear hA0 hval0
  refine (walk W a0x a0y a0z a0u a0v a0t a0r a0s a0q a0o a0m a0k u0).mono fun e W' ⟨he, hb⟩ => ⟨.bool true, he, ?_⟩
  exact law_post (fun t ht => by have ht' : t ∈ [45] := ht; simp only [List.mem_cons, List.not_mem_nil, or_false] at ht'; rcases ht' with rfl <;> exact ⟨by kernel_rfl, of_decide_eq_true (by kernel_rfl)⟩) rfl rfl hW0 rfl hb

theorem over : Rows.layoutMessagesRow.holds Try.pinned (OpenSpec.ofChange Rows.layoutMessagesSpec) :=
  OpenClaim.holds_of_wide 6 Try.f6 rfl rfl rfl rfl rfl rfl rfl ⟨rfl, rfl, rfl, rfl, rfl⟩ rfl rfl rfl rfl rfl (by kernel_rfl) Try.func6 (by kernel_rfl)
    (of_decide_eq_true (by kernel_rfl)) (by unfold Func.isWrapper; first | (rw [if_pos (by decide +kernel)]; kernel_rfl) | (rw [if_neg (by decide +kernel)]; exact ⟨rfl, rfl⟩))
    (fun os started H enc _ => lifted os started H enc)

/-- The statement. -/
theorem proved : Rows.LayoutMessagesSaid := over
#print axioms proved
end Go.Proofs.Ytpkjlnelkacbgaa.layoutMessages
