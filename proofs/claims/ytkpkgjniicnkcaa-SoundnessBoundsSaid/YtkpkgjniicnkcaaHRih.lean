/- moidorelaw29.right where the case is right: the layout, the public values and the messages with their changes. -/
import Derived.Test.YtkpkgjniicnkcaaHPut
import Derived.Test.YtkpkgjniicnkcaaHTgt
namespace Go.Proofs.Ytkpkgjniicnkcaa
open Go.RowKit Go.Sort

/-- A row of rows of an inner base stands, for an outer base, where the world has turned below the inner base alone. -/
theorem Mat.moved {W W1 w w' : World} {v : Value} {bs : List Nat} {ls : List (List Int)} (h : Mat W1 w v bs ls) (hs : W.heap.size ≤ W1.heap.size) (hb : Below W.heap.size W w') (hk : ∀ k, W1.heap.size ≤ k → w'.heap[k]? = w.heap[k]?) (hz : w.heap.size ≤ w'.heap.size) : Mat W w' v bs ls := by
  refine ⟨⟨hb, h.grown.own.1, ?_⟩, h.len, fun i b l h1 h2 => (h.rows i b l h1 h2).of_block (hk b (h.ge b (List.mem_of_getElem? h1)).1), fun b hbm => ⟨Nat.le_trans hs (h.ge b hbm).1, (h.ge b hbm).2.1, Nat.lt_of_lt_of_le (h.ge b hbm).2.2 hz⟩, h.nodup, h.all⟩
  rcases h.grown.own.2 with hn | ⟨g, cap, cur, hv, hg, hc, rest⟩
  · exact .inl hn
  · exact .inr ⟨g, cap, cur, hv, Nat.le_trans hs hg, by rw [hk g hg]; exact hc, rest⟩
theorem Ls.take {w : World} {u : Option Addr} {l : List Int} (h : Ls w u l) (n : Nat) : Ls w u (l.take n) :=
  ⟨by have := h.small; rw [List.length_take]; omega, fun x hx => h.all x (List.mem_of_mem_take hx), fun hne => by
    obtain ⟨b, o, e, hlt, hc⟩ := h.mem (fun e => by subst e; simp at hne)
    exact ⟨b, o, e, hlt, fun i x hx => by
      rw [List.getElem?_take] at hx
      split at hx
      · exact hc i x hx
      · cases hx⟩⟩
def put11 (w : World) (R : Nat) (x0 x1 x2 x3 x4 x5 x6 x7 x8 x9 x10 : Value) : World :=
  (((((((((((w.setCell ⟨R, 0, none⟩ x0).setCell ⟨R, 1, none⟩ x1).setCell ⟨R, 2, none⟩ x2).setCell ⟨R, 3, none⟩ x3).setCell ⟨R, 4, none⟩ x4).setCell ⟨R, 5, none⟩ x5).setCell ⟨R, 6, none⟩ x6).setCell ⟨R, 7, none⟩ x7).setCell ⟨R, 8, none⟩ x8).setCell ⟨R, 9, none⟩ x9).setCell ⟨R, 10, none⟩ x10).drew
set_option maxHeartbeats 4000000 in
theorem right_end {W W1 w1 : World} {u2 : Option Addr} {M c2 : Nat} {bs : List Nat} {ls : List (List Int)} (hM : Mat W1 w1 (.slice u2 M c2) bs ls) (hlen : ls.length = M) (hB : Below W.heap.size W W1) {RB : Nat} (hR : W.heap.size ≤ RB) (hR1 : RB < W1.heap.size) (x0 x1 x2 x3 x4 x5 x6 x7 x8 x9 x10 : Value) :
    Mat W (put11 w1 RB x0 x1 x2 x3 x4 x5 x6 x7 x8 x9 x10) (.slice u2 M c2) bs ls ∧ Below W.heap.size W (put11 w1 RB x0 x1 x2 x3 x4 x5 x6 x7 x8 x9 x10) ∧ M ≤ c2 := by
  have hB3 : Below W.heap.size W w1 := Below.next hB hM.grown.below
  have hB2 : Below W.heap.size W (put11 w1 RB x0 x1 x2 x3 x4 x5 x6 x7 x8 x9 x10) := by
    unfold put11
    with_reducible refine Below.drew ?_
    iterate 11 (with_reducible refine Below.put ?_ hR _)
    exact hB3
  refine ⟨hM.moved hB.size hB2 (fun k hk => ?_) ?_, hB2, ?_⟩
  · unfold put11 World.drew
    dsimp only
    iterate 11 rw [Go.Deep.blk_setCell_other _ _ _ _ (by dsimp only; omega)]
  · unfold put11 World.drew
    dsimp only
    simp only [World.size_setCell, Nat.le_refl]
  · rcases Nat.eq_zero_or_pos M with h | h
    · omega
    · obtain ⟨G, c, e, hc, _⟩ := hM.form (by omega)
      injection e with _ _ e
      omega
def GivesRight (v : Value) (ls : List (List Int)) (pubs : List Int) (w : World) (e : Ending) (w' : World) : Prop :=
  ∃ u' c' u2 c2 bs, e = .returned (.tuple #[v, .slice u' pubs.length c', .slice u2 ls.length c2, .bool true]) ∧ Mat w w' (.slice u2 ls.length c2) bs ls ∧ Ls w' u' pubs ∧ ls.length ≤ c2 ∧ (u' = none → c' = 0)

set_option maxRecDepth 100000
set_option maxHeartbeats 8000000 in
theorem right29_yes (p vs : Int) (pb B P0 P1 : Nat) (u : Option Addr) (c : Nat) (rs : List Rw) (bl q : Int) (uw : Option Addr) (l : List Int) (cw : Nat) (up : Option Addr) (pl : List Int) (cp : Nat) (ub : Option Addr) (by' : List Int) (cb : Nat) (w : World)
    (hR : Rws w u rs) (hL : Ls w uw l) (hP : L16 w up pl) (hY : Ls w ub by') (hcw : l.length ≤ cw) (hr : rightB p (pb : Int) vs (B : Int) bl q rs l 20 = true) (hp : p ≤ 257) (hpl : pl.length ≤ 20)
    (hP0 : (vs - 1 - (pb : Int) + (B : Int) - 1) / (B : Int) = P0) (hP1 : ((rs.length : Int) + (B : Int) - 1) / (B : Int) = P1) :
    Calls Try.prog 21 #[.agg #[.int .u64 p, .int .i64 (pb : Int), .int .i64 vs, .slice u rs.length c, .int .i64 (B : Int), .int .i64 bl, .int .i64 q, .slice uw l.length cw, .slice up pl.length cp, .slice ub by'.length cb]] w
      (GivesRight (layV p (B : Int) q (newN (B : Int) bl q) (vs - 1 - (pb : Int)) rs.length) (puts p B (rCuts p l rs pb B P0 P1) (pl.zip by')) ((l.drop 1).take pb) w) := by
  have cr : Kept (∀ w', Below w.heap.size w w' → Calls Try.prog 16 #[.agg #[.int .u64 p, .int .i64 (pb : Int), .int .i64 vs, .slice u rs.length c, .int .i64 (B : Int), .int .i64 bl, .int .i64 q, .slice uw l.length cw], .int .i64 20] w' (Gives (.tuple #[rightV p (pb : Int) vs (B : Int) bl q rs l 20, .bool (rightB p (pb : Int) vs (B : Int) bl q rs l 20)]) w')) := ⟨fun w' hw =>
    right_c p pb vs B bl q 20 u c rs uw cw l w' (hR.below (Nat.le_refl _) hw) (hL.below (Nat.le_refl _) hw)⟩
  have hV : rightV p (pb : Int) vs (B : Int) bl q rs l 20 = layV p (B : Int) q (newN (B : Int) bl q) (vs - 1 - (pb : Int)) rs.length := by rw [rightV, hr]; rfl
  rw [hV, hr] at cr
  have hlt := right_lt hr hL.all
  obtain ⟨f1, f2, f3, f4, f5, f6, f7, f8, f9, f10, f11, f12, f13, _⟩ := right_facts hr
  have hp0 : 0 < p := by have := vld_pos f11; omega
  have hgood0 : Kept (∀ zs, Good p B (P0 + P1 + P1 + P1) (puts p B (rCuts p l rs pb B P0 P1) zs)) := ⟨fun zs => (rCuts_good hp0 hlt).puts hp0 (by omega) zs⟩
  have hq0 : (P0 : Int) ≤ 70000 := by rw [← hP0]; exact Int.le_trans (Int.ediv_le_self _ (by omega)) (by omega)
  have hq1 : (P1 : Int) ≤ 70000 := by rw [← hP1]; exact Int.le_trans (Int.ediv_le_self _ (by omega)) (by omega)
  unfold layV at cr ⊢
  rw [hP0, hP1] at cr ⊢
  clear hr hV hP0 hP1 hlt f11
  have cm : Kept (∀ w', Below w.heap.size w w' → ∀ K0 NN S0 : Int, Calls Try.prog 26 #[.agg #[.int .u64 p, .int .i64 (B : Int), .int .i64 q, .int .i64 K0, .int .i64 NN, .int .i64 S0, .int .i64 rs.length, .int .i64 (P0 : Nat), .int .i64 (P1 : Nat), .int .i64 (P1 : Nat), .int .i64 (P1 : Nat)],
        .agg #[.int .u64 p, .int .i64 (pb : Int), .int .i64 vs, .slice u rs.length c], .slice uw l.length cw] w' (GivesMat (rCuts p l rs pb B P0 P1) w')) := ⟨fun w' hw K0 NN S0 =>
      messages_c B (fun j => if j = 0 then P0 else P1) p q K0 NN S0 rs.length pb vs u c rs uw cw l pb w' (by omega) (fun j => by split <;> omega) (hR.below (Nat.le_refl _) hw) (hL.below (Nat.le_refl _) hw) rfl (by omega) (by omega) (by omega) hcw⟩
  have kL : Kept (Ls w uw l) := ⟨hL⟩
  have kP : Kept (L16 w up pl) := ⟨hP⟩
  have kY : Kept (Ls w ub by') := ⟨hY⟩
  have hs3 := hP.small
  have hs4 := hY.small
  obtain ⟨m, hm⟩ : ∃ m, rs.length = m := ⟨_, rfl⟩
  obtain ⟨n, hn⟩ : ∃ m, l.length = m := ⟨_, rfl⟩
  obtain ⟨n', hn'⟩ : ∃ m, pl.length = m := ⟨_, rfl⟩
  obtain ⟨ny, hny⟩ : ∃ m, by'.length = m := ⟨_, rfl⟩
  rw [hm] at cr cm f1 f13 ⊢
  rw [hn] at cr cm f12 hcw ⊢
  rw [hn'] at hs3 hpl ⊢
  rw [hny] at hs4 ⊢
  have e1 : Kept (l.length = n) := ⟨hn⟩
  have e2 : Kept (pl.length = n') := ⟨hn'⟩
  have e3 : Kept (by'.length = ny) := ⟨hny⟩
  clear hR hL hP hY hm hn hn' hny
  generalize newN (B : Int) bl q = NN at *
  generalize hS0 : vs - 1 - (pb : Int) = S0 at *
  generalize hK0 : (B : Int) + q = K0 at *
  have hp2 : decide (p > 257) = false := by simp; omega
  have hn2 : decide ((n' : Int) > 20) = false := by simp; omega
  obtain ⟨bw, ow, rfl⟩ : ∃ bw ow, uw = some ⟨bw, ow, none⟩ := by
    obtain ⟨bw, ow, e, _⟩ := kL.out.mem (fun e => by have := e1.out; subst e; simp at this; omega)
    exact ⟨bw, ow, e⟩
  go_enter Try.func21, Try.ntmps21
  go_wp2_with (first | (go_at_call 16; (first | with_reducible refine use1 (cr.out _ (by repeat (first | exact Below.refl _ _ | refine Below.later ?_ _ | refine Below.box ?_ _ | refine Below.drew ?_ | refine Below.put ?_ (by dsimp only; omega) _))) ?_ | with_reducible refine use (cr.out _ (by repeat (first | exact Below.refl _ _ | refine Below.later ?_ _ | refine Below.box ?_ _ | refine Below.drew ?_ | refine Below.put ?_ (by dsimp only; omega) _))) ?_); intro pw))
  obtain ⟨TB, hTB⟩ : ∃ TB, TB = w.heap.size := ⟨_, rfl⟩
  refine call_gen (fun W' => Below w.heap.size w W' ∧ (∀ i x, (#[Value.int .u64 p, .int .i64 (pb : Int), .int .i64 vs, .slice u m c, .int .i64 (B : Int), .int .i64 bl, .int .i64 q, .slice (some ⟨bw, ow, none⟩) n cw, .slice up n' cp, .slice ub ny cb] : Array Value)[i]? = some x → W'.cell? ⟨w.heap.size, i, none⟩ = some x) ∧ (∀ i x, (#[Value.int .u64 0, .int .i64 0, .int .i64 0, .int .i64 0, .int .i64 0, .int .i64 0, .int .i64 0, .int .i64 0, .int .i64 0, .int .i64 0, .int .i64 0] : Array Value)[i]? = some x → W'.cell? ⟨w.heap.size + 1, i, none⟩ = some x) ∧ (∀ i, W'.frozen? ⟨w.heap.size + 1, i, none⟩ = false) ∧
    (∀ i x, (#[Value.int .u64 p, .int .i64 (B : Int), .int .i64 q, .int .i64 K0, .int .i64 NN, .int .i64 S0, .int .i64 (m : Int), .int .i64 (P0 : Nat), .int .i64 (P1 : Nat), .int .i64 (P1 : Nat), .int .i64 (P1 : Nat)] : Array Value)[i]? = some x → W'.cell? ⟨w.heap.size + 1 + 1 + pw.os.size, i, none⟩ = some x) ∧ w.heap.size + 1 + 1 + pw.os.size < W'.heap.size) ?fx ?_
  case fx =>
    refine ⟨(by repeat (first | exact Below.refl _ _ | refine Below.later ?_ _ | refine Below.box ?_ _ | refine Below.drew ?_ | refine Below.put ?_ (by dsimp only; omega) _)), fun i x hx => ?_, fun i x hx => ?_, fun i => ?_, fun i x hx => ?_, by simp⟩
    · rw [World.cell?_alloc_lt _ _ _ (by simp), after_cell _ _ _ _ (by simp), World.cell?_alloc_lt _ _ _ (by simp), World.cell?_alloc_new]; exact hx
    · rw [World.cell?_alloc_lt _ _ _ (by simp), after_cell _ _ _ _ (by simp), ← World.size_alloc w, World.cell?_alloc_new]; exact hx
    · simp [go_sem]
    · have e : w.heap.size + 1 + 1 + pw.os.size = (after ((w.alloc (.cells #[Value.int .u64 p, .int .i64 (pb : Int), .int .i64 vs, .slice u m c, .int .i64 (B : Int), .int .i64 bl, .int .i64 q, .slice (some ⟨bw, ow, none⟩) n cw, .slice up n' cp, .slice ub ny cb] 52)).alloc (.cells #[Value.int .u64 0, .int .i64 0, .int .i64 0, .int .i64 0, .int .i64 0, .int .i64 0, .int .i64 0, .int .i64 0, .int .i64 0, .int .i64 0, .int .i64 0] 41)) pw).heap.size := by simp
      rw [e, World.cell?_alloc_new]; exact hx
  rintro W1 ⟨hB0, hc1, hc2, hf2, hc3, hlt3⟩
  have hB1 : Kept (Below w.heap.size w W1) := ⟨hB0⟩
  have hltR : w.heap.size + 1 < W1.heap.size := by omega
  obtain ⟨RB, hRB⟩ : ∃ RB, RB = w.heap.size + 1 := ⟨_, rfl⟩
  have hTR : TB < RB := by omega
  have hTw : w.heap.size ≤ TB := by omega
  have hRw : w.heap.size ≤ RB := by omega
  obtain ⟨LB, hLB⟩ : ∃ LB, LB = w.heap.size + 1 + 1 + pw.os.size := ⟨_, rfl⟩
  have hRL : RB < LB := by omega
  rw [← hLB] at hc3 hlt3 ⊢
  rw [← hRB] at hc2 hf2 hltR ⊢
  rw [← hTB] at hc1 ⊢
  clear hLB hRB hTB
  have kall : Kept (∀ w', Below W1.heap.size W1 w' → (∀ i x, (#[Value.int .u64 p, .int .i64 (pb : Int), .int .i64 vs, .slice u m c, .int .i64 (B : Int), .int .i64 bl, .int .i64 q, .slice (some ⟨bw, ow, none⟩) n cw, .slice up n' cp, .slice ub ny cb] : Array Value)[i]? = some x → w'.cell? ⟨TB, i, none⟩ = some x) ∧ (∀ i x, (#[Value.int .u64 0, .int .i64 0, .int .i64 0, .int .i64 0, .int .i64 0, .int .i64 0, .int .i64 0, .int .i64 0, .int .i64 0, .int .i64 0, .int .i64 0] : Array Value)[i]? = some x → w'.cell? ⟨RB, i, none⟩ = some x) ∧ (∀ i, w'.frozen? ⟨RB, i, none⟩ = false) ∧ (∀ i x, (#[Value.int .u64 p, .int .i64 (B : Int), .int .i64 q, .int .i64 K0, .int .i64 NN, .int .i64 S0, .int .i64 (m : Int), .int .i64 (P0 : Nat), .int .i64 (P1 : Nat), .int .i64 (P1 : Nat), .int .i64 (P1 : Nat)] : Array Value)[i]? = some x → w'.cell? ⟨LB, i, none⟩ = some x) ∧ W1.heap.size ≤ w'.heap.size) := ⟨fun w' hw' =>
    ⟨fun i x hx => by rw [hw'.cell (p := ⟨TB, i, none⟩) (by simp only []; omega)]; exact hc1 i x hx, fun i x hx => by rw [hw'.cell (p := ⟨RB, i, none⟩) (by simp only []; omega)]; exact hc2 i x hx, fun i => by rw [World.frozen?_of_block (hw'.block RB (by omega))]; exact hf2 i, fun i x hx => by rw [hw'.cell (p := ⟨LB, i, none⟩) (by simp only []; omega)]; exact hc3 i x hx, hw'.size⟩⟩
  clear hc1 hc2 hc3 hf2
  obtain ⟨M, hMe⟩ : ∃ M, P0 + P1 + P1 + P1 = M := ⟨_, rfl⟩
  have hM1 : M ≤ 280000 := by omega
  rw [hMe] at hgood0
  refine (cm.out W1 hB0 K0 NN S0).mono ?_
  rintro e w4 ⟨vm, bsm, rfl, hM⟩
  obtain ⟨u2, c2, rfl, _⟩ := hM.grown.form
  have hl0 : Kept ((rCuts p l rs pb B P0 P1).length = M) := ⟨(hgood0.out []).len⟩
  rw [hl0.out] at hM ⊢
  have hM0 : Kept (Mat W1 w4 (.slice u2 M c2) bsm (puts p B (rCuts p l rs pb B P0 P1) ((pl.zip by').take 0))) := ⟨hM⟩
  have p8 := (kall.out _ hM.grown.below).1 8 _ rfl
  clear hB0 cm cr hM
  go_wp2
  go_loopw [44] (fun v wr => ∃ (j : Nat), v = .int .i64 (j : Int) ∧ j ≤ n' ∧ Kept (Mat W1 wr (.slice u2 M c2) bsm (puts p B (rCuts p l rs pb B P0 P1) ((pl.zip by').take j)))) (fun v _ => ((n' : Int) - intOf v).toNat)
  case atStart => exact ⟨0, rfl, by omega, hM0⟩
  case round =>
    clear hM0 p8
    obtain ⟨j, rfl, hj, hM⟩ := hrel
    obtain ⟨w1, rfl⟩ : ∃ x, x = wr := ⟨wr, rfl⟩
    by_cases h : j < n'
    · have hB := hM.out.grown.below
      have hBs := hB.size
      have hBw : Below w.heap.size w w1 := Below.next hB1.out hB
      obtain ⟨bp, op, x, rfl, hx, hbp, hxc, hx0, hx1⟩ := kP.out.at_ (k := j) (by rw [e2.out]; exact h)
      have hxc' : w1.cell? ⟨bp, op + j, none⟩ = some (.int .u16 x) := by rw [hBw.cell (p := ⟨bp, op + j, none⟩) hbp]; exact hxc
      have hbp' : bp < w1.heap.size := by omega
      have q9 := (kall.out _ hB).1 9 _ rfl
      have k0 := (kall.out _ hB).2.2.2.1 0 _ rfl
      have k1 := (kall.out _ hB).2.2.2.1 1 _ rfl
      have ltL : LB < w1.heap.size := by omega
      have ltT : TB < w1.heap.size := by omega
      clear hxc
      by_cases h2 : j < ny
      · by_cases h3 : 0 < M
        · obtain ⟨b3, o3, y, rfl, hy, hby, hyc, hyU⟩ := kY.out.at_ (k := j) (by rw [e3.out]; exact h2)
          have hyc' : w1.cell? ⟨b3, o3 + j, none⟩ = some (.int .u64 y) := by rw [hBw.cell (p := ⟨b3, o3 + j, none⟩) hby]; exact hyc
          have hby' : b3 < w1.heap.size := by omega
          have hz' : (pl.zip by')[j]? = some (x, y) := List.getElem?_zip_eq_some.2 ⟨hx, hy⟩
          have hg := hgood0.out ((pl.zip by').take j)
          have hnext := puts_next (p := p) (B := B) (ls := rCuts p l rs pb B P0 P1) hz'
          obtain ⟨LS, hLS⟩ : ∃ LS, puts p B (rCuts p l rs pb B P0 P1) ((pl.zip by').take j) = LS := ⟨_, rfl⟩
          rw [hLS] at hg hM hnext
          obtain ⟨MB, hMB⟩ : ∃ MB, M * B = MB := ⟨_, rfl⟩
          have hMB1 : 0 < MB := by rw [← hMB]; exact Nat.mul_pos h3 (by omega)
          have hMB2 : MB ≤ 280000 * 256 := by rw [← hMB]; exact Nat.mul_le_mul hM1 (by omega)
          have hMBI : (M : Int) * (B : Int) = (MB : Int) := by rw [← hMB]; simp
          obtain ⟨k, hk⟩ : ∃ k, putK B M x = k := ⟨_, rfl⟩
          obtain ⟨i, hi⟩ : ∃ i, k / B = i := ⟨_, rfl⟩
          obtain ⟨jj, hjj⟩ : ∃ i, k % B = i := ⟨_, rfl⟩
          have hkl := putK_lt (B := B) (M := M) (by omega) h3 x
          rw [hk, hi, hjj] at hkl
          have hkn : x.toNat % MB = k := by rw [← hk, putK, hMB]
          have hkM : k < MB := by rw [← hkn]; exact Nat.mod_lt _ hMB1
          obtain ⟨g, l', hgb, hgl, hgm, hglt, hgW, hrow⟩ := hM.out.row_at (i := i) (by rw [hg.len]; exact hkl.1)
          have hl'B := hg.row l' hgm
          obtain ⟨v, hv⟩ : ∃ v, l'[jj]? = some v := ⟨_, List.getElem?_eq_getElem (by rw [hl'B]; exact hkl.2)⟩
          have hvr := hg.lt l' hgm v (List.mem_of_getElem? hv)
          obtain ⟨G, c', eG, hMc, hGW, hGlt⟩ := hM.out.form (by rw [hg.len]; exact h3)
          injection eG with eG1 eG2 eG3
          subst eG1 eG3
          clear eG2
          have hcG : w1.cell? ⟨G, i, none⟩ = some (.slice (some ⟨g, 0, none⟩) B B) := by have := hM.out.cell_at hgb hgl; rw [hl'B] at this; exact this
          have hcv : w1.cell? ⟨g, jj, none⟩ = some (.int .u64 v) := by have := hrow.cell (i := jj) (by rw [hl'B]; exact hkl.2); rw [List.getD, hv] at this; exact this
          have hcf : w1.frozen? ⟨g, jj, none⟩ = false := hrow.frozen jj
          have hx2 : x = ((x.toNat : Nat) : Int) := by omega
          have hkx2 : x % (MB : Int) = (k : Int) := by rw [hx2, ← hkn]; simp
          have hkx : x.tmod (MB : Int) = (k : Int) := by rw [Int.tmod_eq_emod_of_nonneg hx0]; exact hkx2
          have hMB0 : ¬ (MB : Int) = 0 := by omega
          have hMB00 : ((MB : Int) == 0) = false := by simp; omega
          have hB0 : ¬ (B : Int) = 0 := by omega
          have hB00 : ((B : Int) == 0) = false := by simp; omega
          have hiI2 : (k : Int) / (B : Int) = (i : Int) := by rw [← hi]; simp
          have hiI : (k : Int).tdiv (B : Int) = (i : Int) := by rw [Int.tdiv_eq_ediv_of_nonneg (by omega)]; exact hiI2
          have hjI2 : (k : Int) % (B : Int) = (jj : Int) := by rw [← hjj]; simp
          have hjI : (k : Int).tmod (B : Int) = (jj : Int) := by rw [Int.tmod_eq_emod_of_nonneg (by omega)]; exact hjI2
          have hiM : (i : Int) < (M : Int) := by omega
          have hjB : (jj : Int) < (B : Int) := by omega
          have hp00 : ¬ p = 0 := by omega
          have hp000 : (p == 0) = false := by simp; omega
          obtain ⟨yp, hyp⟩ : ∃ yp, y % p = yp := ⟨_, rfl⟩
          have hyp2 : y.tmod p = yp := by rw [Int.tmod_eq_emod_of_nonneg hyU.1]; exact hyp
          have hypr : 0 ≤ yp ∧ yp < p := by rw [← hyp]; exact ⟨Int.emod_nonneg _ (by omega), Int.emod_lt_of_pos _ hp0⟩
          obtain ⟨s, hs⟩ : ∃ s, v + yp = s := ⟨_, rfl⟩
          have hsr : 0 ≤ s ∧ s ≤ 514 := by omega
          have hsw : IntKind.u64.wrap s = s := by rw [IntKind.wrap_u64]; omega
          obtain ⟨z, hz⟩ : ∃ z, s % p = z := ⟨_, rfl⟩
          have hz2 : s.tmod p = z := by rw [Int.tmod_eq_emod_of_nonneg hsr.1]; exact hz
          have hzr : 0 ≤ z ∧ z < p := by rw [← hz]; exact ⟨Int.emod_nonneg _ (by omega), Int.emod_lt_of_pos _ hp0⟩
          have hzU : U z := ⟨by omega, by omega⟩
          have hput : Kept (∀ q, Mat W1 ((after w1 q).setCell ⟨g, jj, none⟩ (.int .u64 z)) (.slice (some ⟨G, 0, none⟩) M c2) bsm (puts p B (rCuts p l rs pb B P0 P1) ((pl.zip by').take (j + 1)))) := ⟨fun q => by
            rw [hnext, putS_at (i := i) (j := jj) (l := l') (v := v) (by rw [hg.len]; omega) (by rw [hg.len, hk, hi]) (by rw [hg.len, hk, hjj]) hgl hv, hyp, hs, hz]
            exact Mat.put (hM.out.later q) hgb hgl hzU⟩
          have h2d : decide ((j : Int) ≥ (ny : Int)) = false := by simp; omega
          have h3d : ((M : Int) == 0) = false := by simp; omega
          have h3e : ¬ (M : Int) = 0 := by omega
          have h3f : ¬ M = 0 := by omega
          have hi6 : i ≤ 280000 := by omega
          have hj6 : jj ≤ 256 := by omega
          have hk6 : k ≤ 80000000 := by omega
          clear hM hg hLS hnext hrow hgl hgb hgm hv hl'B hx hy hz' hx2 hkn hk hi hjj hMB hkl hyc hBw hBs hB kall hgood0 kP kY hyU hMc hvr hypr hzr
          go_wp2
          first | refine region_quiet1 (by kernel_rfl) ?_ | refine region_quiet (by kernel_rfl) ?_
          repeat (go_big_quiet_step (first | fail))
          refine wpQuiet_nil ?_
          intro _
          go_wp2
          first | refine region_tail1 (by kernel_rfl) (by kernel_rfl) (by kernel_rfl) ?_ | refine region_tail (by kernel_rfl) (by kernel_rfl) (by kernel_rfl) ?_
          simp only [initOf, lastOf]
          repeat (go_big_quiet_step (first | fail))
          refine wpQuiet_nil ?_
          intro _
          go_wp2
          go_roundw
          case rel => exact ⟨j + 1, by go_num, by omega, ⟨hput.out _⟩⟩
          case measure => first | (simp [intOf]; omega) | (simp [intOf]; done)
        · have hM2 : M = 0 := by omega
          have hl0' := hl0.out
          rw [hM2] at hl0'
          have hMf : Kept (Mat W1 w1 (.slice u2 M c2) bsm (puts p B (rCuts p l rs pb B P0 P1) (pl.zip by'))) := ⟨by rw [puts_none hl0']; have := hM.out; rw [puts_none hl0'] at this; exact this⟩
          have hBf := hM.out.grown.below
          have hBs := hBf.size
          have q1 := (kall.out _ hBf).1 1 _ rfl
          have q7 := (kall.out _ hBf).1 7 _ rfl
          have l0 := (kall.out _ hBf).2.2.2.1 0 _ rfl
          have l1 := (kall.out _ hBf).2.2.2.1 1 _ rfl
          have l2 := (kall.out _ hBf).2.2.2.1 2 _ rfl
          have l3 := (kall.out _ hBf).2.2.2.1 3 _ rfl
          have l4 := (kall.out _ hBf).2.2.2.1 4 _ rfl
          have l5 := (kall.out _ hBf).2.2.2.1 5 _ rfl
          have l6 := (kall.out _ hBf).2.2.2.1 6 _ rfl
          have l7 := (kall.out _ hBf).2.2.2.1 7 _ rfl
          have l8 := (kall.out _ hBf).2.2.2.1 8 _ rfl
          have l9 := (kall.out _ hBf).2.2.2.1 9 _ rfl
          have l10 := (kall.out _ hBf).2.2.2.1 10 _ rfl
          have z0 := (kall.out _ hBf).2.1 0 _ rfl
          have z1 := (kall.out _ hBf).2.1 1 _ rfl
          have z2 := (kall.out _ hBf).2.1 2 _ rfl
          have z3 := (kall.out _ hBf).2.1 3 _ rfl
          have z4 := (kall.out _ hBf).2.1 4 _ rfl
          have z5 := (kall.out _ hBf).2.1 5 _ rfl
          have z6 := (kall.out _ hBf).2.1 6 _ rfl
          have z7 := (kall.out _ hBf).2.1 7 _ rfl
          have z8 := (kall.out _ hBf).2.1 8 _ rfl
          have z9 := (kall.out _ hBf).2.1 9 _ rfl
          have z10 := (kall.out _ hBf).2.1 10 _ rfl
          have fz := (kall.out _ hBf).2.2.1
          have ltL : LB < w1.heap.size := by omega
          have ltR : RB < w1.heap.size := by omega
          have ltT : TB < w1.heap.size := by omega
          have hll : Kept ((puts p B (rCuts p l rs pb B P0 P1) (pl.zip by')).length = M) := ⟨(hgood0.out _).len⟩
          have hpl' : (List.take pb l.tail).length = pb := by rw [List.length_take, List.length_tail, e1.out]; omega
          clear kP kY hgood0 hM hBf hBs kall
          have hRLn : RB ≠ LB := by omega
          have hRTn : RB ≠ TB := by omega
          have hw1 : IntKind.i64.wrap (1 + (pb : Int)) = 1 + (pb : Int) := by rw [IntKind.wrap_i64]; omega
          have hw2 : (0 : Int) ≤ 1 + (pb : Int) := by omega
          have hw3 : 1 + (pb : Int) ≤ (cw : Int) := by omega
          have hw4 : (1 + (pb : Int)).toNat = 1 + pb := by omega
          have hw5 : (1 : Int) ≤ 1 + (pb : Int) := by omega
          by_cases hcap : cw = 1
          · have hc0 : cw - 1 = 0 := by omega
            have hpb0 : pb = 0 := by omega
            have hpb0' : Kept (pb = 0) := ⟨hpb0⟩
            clear hpb0
            have hc1 : (cw - 1 == 0) = true := by simp; omega
            clear hcap
            go_wp2
            go_region_held3 (fun w' => w'.cell? ⟨LB, 0, none⟩ = some (.int .u64 p) ∧ w'.cell? ⟨LB, 1, none⟩ = some (.int .i64 (B : Int)) ∧ w'.cell? ⟨LB, 2, none⟩ = some (.int .i64 q) ∧ w'.cell? ⟨LB, 3, none⟩ = some (.int .i64 K0) ∧ w'.cell? ⟨LB, 4, none⟩ = some (.int .i64 NN) ∧ w'.cell? ⟨LB, 5, none⟩ = some (.int .i64 S0) ∧ w'.cell? ⟨LB, 6, none⟩ = some (.int .i64 (m : Int)) ∧ w'.cell? ⟨LB, 7, none⟩ = some (.int .i64 (P0 : Nat)) ∧ w'.cell? ⟨LB, 8, none⟩ = some (.int .i64 (P1 : Nat)) ∧ w'.cell? ⟨LB, 9, none⟩ = some (.int .i64 (P1 : Nat)) ∧ w'.cell? ⟨LB, 10, none⟩ = some (.int .i64 (P1 : Nat)) ∧ w'.cell? ⟨TB, 1, none⟩ = some (.int .i64 (pb : Int)) ∧ w'.cell? ⟨TB, 7, none⟩ = some (.slice (some ⟨bw, ow, none⟩) n cw)) (go_keep) (fail)
            go_wp2
            refine bodyPost_ret (v := (.tuple #[.agg #[.int .u64 p, .int .i64 (B : Int), .int .i64 q, .int .i64 K0, .int .i64 NN, .int .i64 S0, .int .i64 (m : Int), .int .i64 (P0 : Nat), .int .i64 (P1 : Nat), .int .i64 (P1 : Nat), .int .i64 (P1 : Nat)], .slice (some ⟨bw, ow, none⟩) pb 0, .slice u2 M c2, .bool true])) (by simp [results, Try.results21, go_sem, z0, z1, z2, z3, z4, z5, z6, z7, z8, z9, z10, hM2]) rfl ?_
            have hE := right_end hMf.out hll.out hB1.out hRw hltR (.int .u64 p) (.int .i64 (B : Int)) (.int .i64 q) (.int .i64 K0) (.int .i64 NN) (.int .i64 S0) (.int .i64 (m : Int)) (.int .i64 (P0 : Nat)) (.int .i64 (P1 : Nat)) (.int .i64 (P1 : Nat)) (.int .i64 (P1 : Nat))
            exact ⟨some ⟨bw, ow, none⟩, 0, u2, c2, bsm, by rw [hpl', hll.out], by rw [hll.out]; exact hE.1, by rw [hpb0'.out]; exact Ls.nil _ _, by rw [hll.out]; exact hE.2.2, fun e => (by cases e)⟩
          · have hc0 : ¬ cw - 1 = 0 := by omega
            have hc1 : (cw - 1 == 0) = false := by simp; omega
            clear hcap
            go_wp2
            go_region_held3 (fun w' => w'.cell? ⟨LB, 0, none⟩ = some (.int .u64 p) ∧ w'.cell? ⟨LB, 1, none⟩ = some (.int .i64 (B : Int)) ∧ w'.cell? ⟨LB, 2, none⟩ = some (.int .i64 q) ∧ w'.cell? ⟨LB, 3, none⟩ = some (.int .i64 K0) ∧ w'.cell? ⟨LB, 4, none⟩ = some (.int .i64 NN) ∧ w'.cell? ⟨LB, 5, none⟩ = some (.int .i64 S0) ∧ w'.cell? ⟨LB, 6, none⟩ = some (.int .i64 (m : Int)) ∧ w'.cell? ⟨LB, 7, none⟩ = some (.int .i64 (P0 : Nat)) ∧ w'.cell? ⟨LB, 8, none⟩ = some (.int .i64 (P1 : Nat)) ∧ w'.cell? ⟨LB, 9, none⟩ = some (.int .i64 (P1 : Nat)) ∧ w'.cell? ⟨LB, 10, none⟩ = some (.int .i64 (P1 : Nat)) ∧ w'.cell? ⟨TB, 1, none⟩ = some (.int .i64 (pb : Int)) ∧ w'.cell? ⟨TB, 7, none⟩ = some (.slice (some ⟨bw, ow, none⟩) n cw)) (go_keep) (fail)
            go_wp2
            refine bodyPost_ret (v := (.tuple #[.agg #[.int .u64 p, .int .i64 (B : Int), .int .i64 q, .int .i64 K0, .int .i64 NN, .int .i64 S0, .int .i64 (m : Int), .int .i64 (P0 : Nat), .int .i64 (P1 : Nat), .int .i64 (P1 : Nat), .int .i64 (P1 : Nat)], .slice (some ⟨bw, ow + 1, none⟩) pb (cw - 1), .slice u2 M c2, .bool true])) (by simp [results, Try.results21, go_sem, z0, z1, z2, z3, z4, z5, z6, z7, z8, z9, z10, hM2]) rfl ?_
            have hE := right_end hMf.out hll.out hB1.out hRw hltR (.int .u64 p) (.int .i64 (B : Int)) (.int .i64 q) (.int .i64 K0) (.int .i64 NN) (.int .i64 S0) (.int .i64 (m : Int)) (.int .i64 (P0 : Nat)) (.int .i64 (P1 : Nat)) (.int .i64 (P1 : Nat)) (.int .i64 (P1 : Nat))
            exact ⟨some ⟨bw, ow + 1, none⟩, cw - 1, u2, c2, bsm, by rw [hpl', hll.out], by rw [hll.out]; exact hE.1, by have := ((kL.out.drop 1).take pb).below (Nat.le_refl _) hE.2.1; rw [List.drop_one] at this; exact this, by rw [hll.out]; exact hE.2.2, fun e => (by cases e)⟩
      · have h2d : decide ((j : Int) ≥ (ny : Int)) = true := by simp; omega
        have hMf : Kept (Mat W1 w1 (.slice u2 M c2) bsm (puts p B (rCuts p l rs pb B P0 P1) (pl.zip by'))) := ⟨by have := hM.out; rw [List.take_of_length_le (by rw [List.length_zip, e2.out, e3.out]; omega)] at this; exact this⟩
        have hBf := hM.out.grown.below
        have hBs := hBf.size
        have q1 := (kall.out _ hBf).1 1 _ rfl
        have q7 := (kall.out _ hBf).1 7 _ rfl
        have l0 := (kall.out _ hBf).2.2.2.1 0 _ rfl
        have l1 := (kall.out _ hBf).2.2.2.1 1 _ rfl
        have l2 := (kall.out _ hBf).2.2.2.1 2 _ rfl
        have l3 := (kall.out _ hBf).2.2.2.1 3 _ rfl
        have l4 := (kall.out _ hBf).2.2.2.1 4 _ rfl
        have l5 := (kall.out _ hBf).2.2.2.1 5 _ rfl
        have l6 := (kall.out _ hBf).2.2.2.1 6 _ rfl
        have l7 := (kall.out _ hBf).2.2.2.1 7 _ rfl
        have l8 := (kall.out _ hBf).2.2.2.1 8 _ rfl
        have l9 := (kall.out _ hBf).2.2.2.1 9 _ rfl
        have l10 := (kall.out _ hBf).2.2.2.1 10 _ rfl
        have z0 := (kall.out _ hBf).2.1 0 _ rfl
        have z1 := (kall.out _ hBf).2.1 1 _ rfl
        have z2 := (kall.out _ hBf).2.1 2 _ rfl
        have z3 := (kall.out _ hBf).2.1 3 _ rfl
        have z4 := (kall.out _ hBf).2.1 4 _ rfl
        have z5 := (kall.out _ hBf).2.1 5 _ rfl
        have z6 := (kall.out _ hBf).2.1 6 _ rfl
        have z7 := (kall.out _ hBf).2.1 7 _ rfl
        have z8 := (kall.out _ hBf).2.1 8 _ rfl
        have z9 := (kall.out _ hBf).2.1 9 _ rfl
        have z10 := (kall.out _ hBf).2.1 10 _ rfl
        have fz := (kall.out _ hBf).2.2.1
        have ltL : LB < w1.heap.size := by omega
        have ltR : RB < w1.heap.size := by omega
        have ltT : TB < w1.heap.size := by omega
        have hll : Kept ((puts p B (rCuts p l rs pb B P0 P1) (pl.zip by')).length = M) := ⟨(hgood0.out _).len⟩
        have hpl' : (List.take pb l.tail).length = pb := by rw [List.length_take, List.length_tail, e1.out]; omega
        clear kP kY hgood0 hM hBf hBs kall
        have hRLn : RB ≠ LB := by omega
        have hRTn : RB ≠ TB := by omega
        have hw1 : IntKind.i64.wrap (1 + (pb : Int)) = 1 + (pb : Int) := by rw [IntKind.wrap_i64]; omega
        have hw2 : (0 : Int) ≤ 1 + (pb : Int) := by omega
        have hw3 : 1 + (pb : Int) ≤ (cw : Int) := by omega
        have hw4 : (1 + (pb : Int)).toNat = 1 + pb := by omega
        have hw5 : (1 : Int) ≤ 1 + (pb : Int) := by omega
        by_cases hcap : cw = 1
        · have hc0 : cw - 1 = 0 := by omega
          have hpb0 : pb = 0 := by omega
          have hpb0' : Kept (pb = 0) := ⟨hpb0⟩
          clear hpb0
          have hc1 : (cw - 1 == 0) = true := by simp; omega
          clear hcap
          go_wp2
          go_region_held3 (fun w' => w'.cell? ⟨LB, 0, none⟩ = some (.int .u64 p) ∧ w'.cell? ⟨LB, 1, none⟩ = some (.int .i64 (B : Int)) ∧ w'.cell? ⟨LB, 2, none⟩ = some (.int .i64 q) ∧ w'.cell? ⟨LB, 3, none⟩ = some (.int .i64 K0) ∧ w'.cell? ⟨LB, 4, none⟩ = some (.int .i64 NN) ∧ w'.cell? ⟨LB, 5, none⟩ = some (.int .i64 S0) ∧ w'.cell? ⟨LB, 6, none⟩ = some (.int .i64 (m : Int)) ∧ w'.cell? ⟨LB, 7, none⟩ = some (.int .i64 (P0 : Nat)) ∧ w'.cell? ⟨LB, 8, none⟩ = some (.int .i64 (P1 : Nat)) ∧ w'.cell? ⟨LB, 9, none⟩ = some (.int .i64 (P1 : Nat)) ∧ w'.cell? ⟨LB, 10, none⟩ = some (.int .i64 (P1 : Nat)) ∧ w'.cell? ⟨TB, 1, none⟩ = some (.int .i64 (pb : Int)) ∧ w'.cell? ⟨TB, 7, none⟩ = some (.slice (some ⟨bw, ow, none⟩) n cw)) (go_keep) (fail)
          go_wp2
          refine bodyPost_ret (v := (.tuple #[.agg #[.int .u64 p, .int .i64 (B : Int), .int .i64 q, .int .i64 K0, .int .i64 NN, .int .i64 S0, .int .i64 (m : Int), .int .i64 (P0 : Nat), .int .i64 (P1 : Nat), .int .i64 (P1 : Nat), .int .i64 (P1 : Nat)], .slice (some ⟨bw, ow, none⟩) pb 0, .slice u2 M c2, .bool true])) (by simp [results, Try.results21, go_sem, z0, z1, z2, z3, z4, z5, z6, z7, z8, z9, z10]) rfl ?_
          have hE := right_end hMf.out hll.out hB1.out hRw hltR (.int .u64 p) (.int .i64 (B : Int)) (.int .i64 q) (.int .i64 K0) (.int .i64 NN) (.int .i64 S0) (.int .i64 (m : Int)) (.int .i64 (P0 : Nat)) (.int .i64 (P1 : Nat)) (.int .i64 (P1 : Nat)) (.int .i64 (P1 : Nat))
          exact ⟨some ⟨bw, ow, none⟩, 0, u2, c2, bsm, by rw [hpl', hll.out], by rw [hll.out]; exact hE.1, by rw [hpb0'.out]; exact Ls.nil _ _, by rw [hll.out]; exact hE.2.2, fun e => (by cases e)⟩
        · have hc0 : ¬ cw - 1 = 0 := by omega
          have hc1 : (cw - 1 == 0) = false := by simp; omega
          clear hcap
          go_wp2
          go_region_held3 (fun w' => w'.cell? ⟨LB, 0, none⟩ = some (.int .u64 p) ∧ w'.cell? ⟨LB, 1, none⟩ = some (.int .i64 (B : Int)) ∧ w'.cell? ⟨LB, 2, none⟩ = some (.int .i64 q) ∧ w'.cell? ⟨LB, 3, none⟩ = some (.int .i64 K0) ∧ w'.cell? ⟨LB, 4, none⟩ = some (.int .i64 NN) ∧ w'.cell? ⟨LB, 5, none⟩ = some (.int .i64 S0) ∧ w'.cell? ⟨LB, 6, none⟩ = some (.int .i64 (m : Int)) ∧ w'.cell? ⟨LB, 7, none⟩ = some (.int .i64 (P0 : Nat)) ∧ w'.cell? ⟨LB, 8, none⟩ = some (.int .i64 (P1 : Nat)) ∧ w'.cell? ⟨LB, 9, none⟩ = some (.int .i64 (P1 : Nat)) ∧ w'.cell? ⟨LB, 10, none⟩ = some (.int .i64 (P1 : Nat)) ∧ w'.cell? ⟨TB, 1, none⟩ = some (.int .i64 (pb : Int)) ∧ w'.cell? ⟨TB, 7, none⟩ = some (.slice (some ⟨bw, ow, none⟩) n cw)) (go_keep) (fail)
          go_wp2
          refine bodyPost_ret (v := (.tuple #[.agg #[.int .u64 p, .int .i64 (B : Int), .int .i64 q, .int .i64 K0, .int .i64 NN, .int .i64 S0, .int .i64 (m : Int), .int .i64 (P0 : Nat), .int .i64 (P1 : Nat), .int .i64 (P1 : Nat), .int .i64 (P1 : Nat)], .slice (some ⟨bw, ow + 1, none⟩) pb (cw - 1), .slice u2 M c2, .bool true])) (by simp [results, Try.results21, go_sem, z0, z1, z2, z3, z4, z5, z6, z7, z8, z9, z10]) rfl ?_
          have hE := right_end hMf.out hll.out hB1.out hRw hltR (.int .u64 p) (.int .i64 (B : Int)) (.int .i64 q) (.int .i64 K0) (.int .i64 NN) (.int .i64 S0) (.int .i64 (m : Int)) (.int .i64 (P0 : Nat)) (.int .i64 (P1 : Nat)) (.int .i64 (P1 : Nat)) (.int .i64 (P1 : Nat))
          exact ⟨some ⟨bw, ow + 1, none⟩, cw - 1, u2, c2, bsm, by rw [hpl', hll.out], by rw [hll.out]; exact hE.1, by have := ((kL.out.drop 1).take pb).below (Nat.le_refl _) hE.2.1; rw [List.drop_one] at this; exact this, by rw [hll.out]; exact hE.2.2, fun e => (by cases e)⟩
    · have hjn : j = n' := by omega
      subst hjn
      have hMf : Kept (Mat W1 w1 (.slice u2 M c2) bsm (puts p B (rCuts p l rs pb B P0 P1) (pl.zip by'))) := ⟨by have := hM.out; rw [List.take_of_length_le (by rw [List.length_zip, e2.out, e3.out]; omega)] at this; exact this⟩
      have hBf := hM.out.grown.below
      have hBs := hBf.size
      have q1 := (kall.out _ hBf).1 1 _ rfl
      have q7 := (kall.out _ hBf).1 7 _ rfl
      have l0 := (kall.out _ hBf).2.2.2.1 0 _ rfl
      have l1 := (kall.out _ hBf).2.2.2.1 1 _ rfl
      have l2 := (kall.out _ hBf).2.2.2.1 2 _ rfl
      have l3 := (kall.out _ hBf).2.2.2.1 3 _ rfl
      have l4 := (kall.out _ hBf).2.2.2.1 4 _ rfl
      have l5 := (kall.out _ hBf).2.2.2.1 5 _ rfl
      have l6 := (kall.out _ hBf).2.2.2.1 6 _ rfl
      have l7 := (kall.out _ hBf).2.2.2.1 7 _ rfl
      have l8 := (kall.out _ hBf).2.2.2.1 8 _ rfl
      have l9 := (kall.out _ hBf).2.2.2.1 9 _ rfl
      have l10 := (kall.out _ hBf).2.2.2.1 10 _ rfl
      have z0 := (kall.out _ hBf).2.1 0 _ rfl
      have z1 := (kall.out _ hBf).2.1 1 _ rfl
      have z2 := (kall.out _ hBf).2.1 2 _ rfl
      have z3 := (kall.out _ hBf).2.1 3 _ rfl
      have z4 := (kall.out _ hBf).2.1 4 _ rfl
      have z5 := (kall.out _ hBf).2.1 5 _ rfl
      have z6 := (kall.out _ hBf).2.1 6 _ rfl
      have z7 := (kall.out _ hBf).2.1 7 _ rfl
      have z8 := (kall.out _ hBf).2.1 8 _ rfl
      have z9 := (kall.out _ hBf).2.1 9 _ rfl
      have z10 := (kall.out _ hBf).2.1 10 _ rfl
      have fz := (kall.out _ hBf).2.2.1
      have ltL : LB < w1.heap.size := by omega
      have ltR : RB < w1.heap.size := by omega
      have ltT : TB < w1.heap.size := by omega
      have hll : Kept ((puts p B (rCuts p l rs pb B P0 P1) (pl.zip by')).length = M) := ⟨(hgood0.out _).len⟩
      have hpl' : (List.take pb l.tail).length = pb := by rw [List.length_take, List.length_tail, e1.out]; omega
      clear kP kY hgood0 hM hBf hBs kall
      have hRLn : RB ≠ LB := by omega
      have hRTn : RB ≠ TB := by omega
      have hw1 : IntKind.i64.wrap (1 + (pb : Int)) = 1 + (pb : Int) := by rw [IntKind.wrap_i64]; omega
      have hw2 : (0 : Int) ≤ 1 + (pb : Int) := by omega
      have hw3 : 1 + (pb : Int) ≤ (cw : Int) := by omega
      have hw4 : (1 + (pb : Int)).toNat = 1 + pb := by omega
      have hw5 : (1 : Int) ≤ 1 + (pb : Int) := by omega
      by_cases hcap : cw = 1
      · have hc0 : cw - 1 = 0 := by omega
        have hpb0 : pb = 0 := by omega
        have hpb0' : Kept (pb = 0) := ⟨hpb0⟩
        clear hpb0
        have hc1 : (cw - 1 == 0) = true := by simp; omega
        clear hcap
        go_wp2
        go_region_held3 (fun w' => w'.cell? ⟨LB, 0, none⟩ = some (.int .u64 p) ∧ w'.cell? ⟨LB, 1, none⟩ = some (.int .i64 (B : Int)) ∧ w'.cell? ⟨LB, 2, none⟩ = some (.int .i64 q) ∧ w'.cell? ⟨LB, 3, none⟩ = some (.int .i64 K0) ∧ w'.cell? ⟨LB, 4, none⟩ = some (.int .i64 NN) ∧ w'.cell? ⟨LB, 5, none⟩ = some (.int .i64 S0) ∧ w'.cell? ⟨LB, 6, none⟩ = some (.int .i64 (m : Int)) ∧ w'.cell? ⟨LB, 7, none⟩ = some (.int .i64 (P0 : Nat)) ∧ w'.cell? ⟨LB, 8, none⟩ = some (.int .i64 (P1 : Nat)) ∧ w'.cell? ⟨LB, 9, none⟩ = some (.int .i64 (P1 : Nat)) ∧ w'.cell? ⟨LB, 10, none⟩ = some (.int .i64 (P1 : Nat)) ∧ w'.cell? ⟨TB, 1, none⟩ = some (.int .i64 (pb : Int)) ∧ w'.cell? ⟨TB, 7, none⟩ = some (.slice (some ⟨bw, ow, none⟩) n cw)) (go_keep) (fail)
        go_wp2
        refine bodyPost_ret (v := (.tuple #[.agg #[.int .u64 p, .int .i64 (B : Int), .int .i64 q, .int .i64 K0, .int .i64 NN, .int .i64 S0, .int .i64 (m : Int), .int .i64 (P0 : Nat), .int .i64 (P1 : Nat), .int .i64 (P1 : Nat), .int .i64 (P1 : Nat)], .slice (some ⟨bw, ow, none⟩) pb 0, .slice u2 M c2, .bool true])) (by simp [results, Try.results21, go_sem, z0, z1, z2, z3, z4, z5, z6, z7, z8, z9, z10]) rfl ?_
        have hE := right_end hMf.out hll.out hB1.out hRw hltR (.int .u64 p) (.int .i64 (B : Int)) (.int .i64 q) (.int .i64 K0) (.int .i64 NN) (.int .i64 S0) (.int .i64 (m : Int)) (.int .i64 (P0 : Nat)) (.int .i64 (P1 : Nat)) (.int .i64 (P1 : Nat)) (.int .i64 (P1 : Nat))
        exact ⟨some ⟨bw, ow, none⟩, 0, u2, c2, bsm, by rw [hpl', hll.out], by rw [hll.out]; exact hE.1, by rw [hpb0'.out]; exact Ls.nil _ _, by rw [hll.out]; exact hE.2.2, fun e => (by cases e)⟩
      · have hc0 : ¬ cw - 1 = 0 := by omega
        have hc1 : (cw - 1 == 0) = false := by simp; omega
        clear hcap
        go_wp2
        go_region_held3 (fun w' => w'.cell? ⟨LB, 0, none⟩ = some (.int .u64 p) ∧ w'.cell? ⟨LB, 1, none⟩ = some (.int .i64 (B : Int)) ∧ w'.cell? ⟨LB, 2, none⟩ = some (.int .i64 q) ∧ w'.cell? ⟨LB, 3, none⟩ = some (.int .i64 K0) ∧ w'.cell? ⟨LB, 4, none⟩ = some (.int .i64 NN) ∧ w'.cell? ⟨LB, 5, none⟩ = some (.int .i64 S0) ∧ w'.cell? ⟨LB, 6, none⟩ = some (.int .i64 (m : Int)) ∧ w'.cell? ⟨LB, 7, none⟩ = some (.int .i64 (P0 : Nat)) ∧ w'.cell? ⟨LB, 8, none⟩ = some (.int .i64 (P1 : Nat)) ∧ w'.cell? ⟨LB, 9, none⟩ = some (.int .i64 (P1 : Nat)) ∧ w'.cell? ⟨LB, 10, none⟩ = some (.int .i64 (P1 : Nat)) ∧ w'.cell? ⟨TB, 1, none⟩ = some (.int .i64 (pb : Int)) ∧ w'.cell? ⟨TB, 7, none⟩ = some (.slice (some ⟨bw, ow, none⟩) n cw)) (go_keep) (fail)
        go_wp2
        refine bodyPost_ret (v := (.tuple #[.agg #[.int .u64 p, .int .i64 (B : Int), .int .i64 q, .int .i64 K0, .int .i64 NN, .int .i64 S0, .int .i64 (m : Int), .int .i64 (P0 : Nat), .int .i64 (P1 : Nat), .int .i64 (P1 : Nat), .int .i64 (P1 : Nat)], .slice (some ⟨bw, ow + 1, none⟩) pb (cw - 1), .slice u2 M c2, .bool true])) (by simp [results, Try.results21, go_sem, z0, z1, z2, z3, z4, z5, z6, z7, z8, z9, z10]) rfl ?_
        have hE := right_end hMf.out hll.out hB1.out hRw hltR (.int .u64 p) (.int .i64 (B : Int)) (.int .i64 q) (.int .i64 K0) (.int .i64 NN) (.int .i64 S0) (.int .i64 (m : Int)) (.int .i64 (P0 : Nat)) (.int .i64 (P1 : Nat)) (.int .i64 (P1 : Nat)) (.int .i64 (P1 : Nat))
        exact ⟨some ⟨bw, ow + 1, none⟩, cw - 1, u2, c2, bsm, by rw [hpl', hll.out], by rw [hll.out]; exact hE.1, by have := ((kL.out.drop 1).take pb).below (Nat.le_refl _) hE.2.1; rw [List.drop_one] at this; exact this, by rw [hll.out]; exact hE.2.2, fun e => (by cases e)⟩
end Go.Proofs.Ytkpkgjniicnkcaa
