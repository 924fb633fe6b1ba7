/- TopTransformMatrix: for any prime of the list and any list the call returns true: the transform is the product with the matrix of the powers of its points, whose inverse, which is there, belongs to the inverse transform (lists of up to 16 numbers; for others, and where the field has no root of unity of that order, there is nothing to show). No condition. -/
import Derived.Test.YtjnlnbkdnjainaaHTtq
import Derived.Test.YtjnlnbkdnjainaaHTwk
namespace Go.Proofs.Ytjnlnbkdnjainaa.topTransformMatrix
open Go.ChangeShapes Go.WideShapes Go.ChangeAt Go.RowKit Go.Sort

set_option maxHeartbeats 16000000 in
set_option maxRecDepth 100000 in
theorem walk (w : World) (nn : Int) (hnn : 0 ≤ nn ∧ nn ≤ 255) (u : Option Addr) (a : List Int) (c : Nat) (h2 : Ls w u a ∧ (u = none → c = 0)) :
    Calls Try.prog 4 #[.int .u8 nn, .slice u a.length c] w (Gives (.bool true) w) := by
  obtain ⟨hL, _⟩ := h2
  have hs2 := hL.small
  obtain ⟨n, hn⟩ : ∃ n, a.length = n := ⟨_, rfl⟩
  obtain ⟨p, hp⟩ : ∃ p, primeOf nn = p := ⟨_, rfl⟩
  have hv : vld p = true := by rw [← hp]; exact prime_valid nn
  have hpp := vld_pos hv
  have cpr : Kept (∀ w, Calls Try.prog 12 #[.int .u8 nn] w (Gives (.int .u64 p) w)) := ⟨fun w => by have := prime_c nn w hnn.1 hnn.2; rw [hp] at this; exact this⟩
  rw [hn] at hs2 ⊢
  by_cases h16 : 16 < n
  · clear hL hn hp hv hnn
    go_enter Try.func4, Try.ntmps4
    go_wp2_with (first | (go_at_call 11; (first | with_reducible refine use1 (tawake_c _) ?_ | with_reducible refine use (tawake_c _) ?_); intro pw) | (go_at_call 12; (first | with_reducible refine use1 (cpr.out _) ?_ | with_reducible refine use (cpr.out _) ?_); intro pw))
    go_ret
    exact ⟨rfl, (by repeat (first | exact Below.refl _ _ | refine Below.later ?_ _ | refine Below.box ?_ _ | refine Below.drew ?_ | refine Below.put ?_ (by dsimp only; omega) _))⟩
  cases hok : rootOk p n
  case false =>
    have cdo : Kept (∀ w, Calls Try.prog 24 #[.agg #[.int .u64 p], .int .u64 1, .int .i64 (n : Int)] w (Gives (.tuple #[.slice none 0 0, .int .i64 1]) w)) := ⟨fun w => ldomain_no p n w hv (by omega) hok⟩
    clear hL hn hp hv hnn hok
    go_enter Try.func4, Try.ntmps4
    go_wp2_with (first | (go_at_call 11; (first | with_reducible refine use1 (tawake_c _) ?_ | with_reducible refine use (tawake_c _) ?_); intro pw) | (go_at_call 12; (first | with_reducible refine use1 (cpr.out _) ?_ | with_reducible refine use (cpr.out _) ?_); intro pw) | (go_at_call 24; (first | with_reducible refine use1 (cdo.out _) ?_ | with_reducible refine use (cdo.out _) ?_); intro pw))
    go_ret
    exact ⟨rfl, (by repeat (first | exact Below.refl _ _ | refine Below.later ?_ _ | refine Below.box ?_ _ | refine Below.drew ?_ | refine Below.put ?_ (by dsimp only; omega) _))⟩
  obtain ⟨_, hn1, hpw, hr⟩ := ok_root hok
  obtain ⟨d, hd5, hnd⟩ := pow2_small n (by omega) hpw hn1
  have hn16 : n ≤ 16 := by omega
  obtain ⟨D, hD⟩ : ∃ D, domL p 1 n = D := ⟨_, rfl⟩
  have hDl : D.length = n := by rw [← hD]; simp [domL]
  have hDi : ∀ i, i < n → ∃ z, D[i]? = some z ∧ cg p z (rootV p n ^ i) := fun i hi => by
    refine ⟨(1 % p * rootV p n ^ i) % p, by rw [← hD, domL, List.getElem?_map, List.getElem?_range hi]; rfl, ?_⟩
    exact (cg.mod p _).trans (((cg.mod p 1).mul (cg.refl p _)).trans (cg.of_eq (Int.one_mul _)))
  obtain ⟨M, hMd⟩ : ∃ M, powM p D = M := ⟨_, rfl⟩
  have hMl : M.length = n := by rw [← hMd, powM, List.length_map, hDl]
  have hMrow : ∀ l ∈ M, l.length = n := fun l hl => by
    rw [← hMd, powM] at hl
    obtain ⟨x, _, rfl⟩ := List.mem_map.1 hl
    simp [powL, hDl]
  obtain ⟨hMv, hMc⟩ := vldM_of hMl hMrow (by omega)
  have hMi : ∀ i, i < n → ∃ l, M[i]? = some l ∧ l.length = n ∧ ∀ k, k < n → cg p (l.getD k 0) (rootV p n ^ (i * k)) := fun i hi => by
    obtain ⟨z, hz, hzc⟩ := hDi i hi
    refine ⟨powL p z n, by rw [← hMd, powM, List.getElem?_map, hz, hDl]; rfl, by simp [powL], fun k hk => ?_⟩
    rw [powL, getD_map_range _ hk]
    exact (cg.mod p _).trans ((hzc.pow k).trans (cg.of_eq (Int.pow_mul ..).symm))
  have hA : ∀ i k, i < n → k < n → cg p (lf M i k) (rootV p n ^ (i * k)) := fun i k hi hk => by
    obtain ⟨l, hl, _, hlc⟩ := hMi i hi
    have e : lf M i k = l.getD k 0 := by rw [lf, show M.getD i [] = l from by rw [List.getD, hl]; rfl]
    rw [e]; exact hlc k hk
  obtain ⟨hfull, hdet⟩ := mat_full hv hn16 hn1 hr hMl hMv hMc hA
  obtain ⟨hpiv, hinv⟩ := mat_inv hv hn16 hn1 hr hMl hMv hMc hA
  have hokE := elR_ok (n := n) (m := n + n) (f := iF p n M) hv (fun i j _ _ => iF_lt hv n M i j) n
  obtain ⟨N, hN⟩ : ∃ N, matL n n (fun i j => (elR p n n (iF p n M)).f i (n + j)) = N := ⟨_, rfl⟩
  have hNl : N.length = n := by rw [← hN]; exact matL_len n n _
  have hNrow : ∀ l ∈ N, l.length = n := fun l hl => by rw [← hN] at hl; exact matL_row l hl
  obtain ⟨hNv, hNc⟩ := vldM_of hNl hNrow (by omega)
  obtain ⟨X, hX⟩ : ∃ X, (List.range n).map (vlF p d (fun j => (a.getD j 0) % p) (rootV p n)) = X := ⟨_, rfl⟩
  obtain ⟨Y, hY⟩ : ∃ Y, (List.range n).map (fun i => fmul p (vlF p d (fun j => (a.getD j 0) % p) (finv p (rootV p n)) i) (finv p n)) = Y := ⟨_, rfl⟩
  have hXe : (List.range n).map (fun i => (mulV p M a).getD i 0) = X := by
    rw [← hX]
    refine List.map_congr_left fun i hi => ?_
    obtain ⟨l, hl, hll, hlc⟩ := hMi i (List.mem_range.1 hi)
    rw [mulV, List.getD, List.getElem?_map, hl]
    exact apply_fwd hv hnd hr hn (List.mem_range.1 hi) hll hlc
  have hYe : (List.range n).map (fun i => (mulV p N a).getD i 0) = Y := by
    rw [← hY]
    refine List.map_congr_left fun i hi => ?_
    have hi' := List.mem_range.1 hi
    have hl : N[i]? = some ((List.range n).map fun j => (elR p n n (iF p n M)).f i (n + j)) := by rw [← hN, matL, List.getElem?_map, List.getElem?_range hi']; rfl
    rw [mulV, List.getD, List.getElem?_map, hl]
    exact apply_inv hv hnd hr hn hi' hn1 (by simp) (fun j hj => by rw [getD_map_range _ hj]; exact hinv i j hi' hj)
  have kaU : ∀ i, U ((a.getD i 0) % p) := fun i => ⟨Int.emod_nonneg _ (by omega), by have := Int.emod_lt_of_pos (a.getD i 0) (show 0 < p by omega); omega⟩
  have kL := (⟨hL⟩ : Kept _)
  have kn := (⟨hn⟩ : Kept _)
  have cdo : Kept (∀ w, Calls Try.prog 24 #[.agg #[.int .u64 p], .int .u64 1, .int .i64 (n : Int)] w (GivesT D w)) := ⟨fun w => by
    have := ldomain_c p 1 n w ⟨by decide, by decide⟩ hok hv hn1 (by omega) (by rw [Int.emod_eq_of_lt (by omega) (by omega)]; omega)
    rw [hD] at this; exact this⟩
  have cpo : Kept (∀ w u c, Ls w u D → Calls Try.prog 25 #[.agg #[.int .u64 p], .slice u n c] w (GivesC M w)) := ⟨fun w u c h => by have := powers05_c p u n c D w hv h hDl (by omega); rw [hMd] at this; exact this⟩
  have civ : Kept (∀ w u c, Mt w u M → Calls Try.prog 22 #[.agg #[.int .u64 p], .slice u n c] w (fun e w' => ∃ B, e = .returned (.tuple #[.slice (some ⟨B, 0, none⟩) n n, .bool true]) ∧ Mt w' (some ⟨B, 0, none⟩) N ∧ Below w.heap.size w w')) := ⟨fun w u c h =>
    (inverse_lc p n u c M w h hv hMv hMl hMc).mono (fun e w' ⟨hb, _, hy⟩ => by
      obtain ⟨B, bf, cf, he, hMx⟩ := hy (decide_eq_true hpiv)
      refine ⟨B, he, ?_, hb⟩
      have := hMx.mt (by omega) (by omega) (fun i j hi hj => ⟨(hokE.el i (n + j) hi (by omega)).1, by have := (hokE.el i (n + j) hi (by omega)).2; omega⟩)
      rw [hN] at this; exact this)⟩
  have cfo : Kept (∀ w', Below w.heap.size w w' → Calls Try.prog 26 #[.agg #[.int .u64 p], .slice u n c] w' (fun e w'' => ∃ V, e = .returned (.tuple #[.slice (some ⟨V, 0, none⟩) n n, .int .i64 0]) ∧ Ls w'' (some ⟨V, 0, none⟩) X ∧ Below w'.heap.size w' w'')) := ⟨fun w' hw =>
    (forward_lc p d n u c a w' hv (by omega) hnd hok (hL.below (Nat.le_refl _) hw) hn).mono (fun e w'' ⟨V, he, hP, hb⟩ => ⟨V, he, by rw [← hX]; exact hP.ls (by omega) (fun i _ => vlF_U d _ _ kaU i), hb⟩)⟩
  have cin : Kept (∀ w', Below w.heap.size w w' → Calls Try.prog 27 #[.agg #[.int .u64 p], .slice u n c] w' (fun e w'' => ∃ V, e = .returned (.tuple #[.slice (some ⟨V, 0, none⟩) n n, .int .i64 0]) ∧ Ls w'' (some ⟨V, 0, none⟩) Y ∧ Below w'.heap.size w' w'')) := ⟨fun w' hw =>
    (tinverse_lc p d n u c a w' hv (by omega) hnd hok (hL.below (Nat.le_refl _) hw) hn).mono (fun e w'' ⟨V, he, hP, hb⟩ => ⟨V, he, by rw [← hY]; exact hP.ls (by omega) (fun i _ => fmul_U), hb⟩)⟩
  have hmulU : ∀ (Q : List (List Int)) i, U ((mulV p Q a).getD i 0) := fun Q i => by
    rw [mulV, List.getD, List.getElem?_map]
    cases Q[i]? with
    | none => exact ⟨by simp, by simp⟩
    | some l => exact ldot_U
  have cap : Kept (∀ w' u1 c1 Q Z, Below w.heap.size w w' → Q.length = n → vldM Q = true → colsN Q = n → (List.range n).map (fun i => (mulV p Q a).getD i 0) = Z → Mt w' u1 Q → Calls Try.prog 29 #[.agg #[.int .u64 p], .slice u1 n c1, .slice u n c] w' (fun e w'' => ∃ V, e = .returned (.slice (some ⟨V, 0, none⟩) n n) ∧ Ls w'' (some ⟨V, 0, none⟩) Z ∧ Below w'.heap.size w' w'')) := ⟨fun w' u1 c1 Q Z hw q1 q2 q3 q4 h =>
    (apply_lc p n n u1 u c1 c Q a w' h (hL.below (Nat.le_refl _) hw) hn hv q2 q1 q3).mono (fun e w'' ⟨V, he, hP, hb, _⟩ => ⟨V, he, by rw [← q4]; exact hP.ls (by omega) (fun i _ => hmulU Q i), hb⟩)⟩
  have cap1 : Kept (∀ w' u1 c1, Below w.heap.size w w' → Mt w' u1 M → Calls Try.prog 29 #[.agg #[.int .u64 p], .slice u1 n c1, .slice u n c] w' (fun e w'' => ∃ V, e = .returned (.slice (some ⟨V, 0, none⟩) n n) ∧ Ls w'' (some ⟨V, 0, none⟩) X ∧ Below w'.heap.size w' w'')) := ⟨fun w' u1 c1 hw h => cap.out w' u1 c1 M X hw hMl hMv hMc hXe h⟩
  have cap2 : Kept (∀ w' u1 c1, Below w.heap.size w w' → Mt w' u1 N → Calls Try.prog 29 #[.agg #[.int .u64 p], .slice u1 n c1, .slice u n c] w' (fun e w'' => ∃ V, e = .returned (.slice (some ⟨V, 0, none⟩) n n) ∧ Ls w'' (some ⟨V, 0, none⟩) Y ∧ Below w'.heap.size w' w'')) := ⟨fun w' u1 c1 hw h => cap.out w' u1 c1 N Y hw hNl hNv hNc hYe h⟩
  have hXl : X.length = n := by rw [← hX]; simp
  have hYl : Y.length = n := by rw [← hY]; simp
  have csx : Kept (∀ w u1 u2 c1 c2, Ls w u1 X → Ls w u2 X → Calls Try.prog 28 #[.slice u1 n c1, .slice u2 n c2] w (Gives (.bool true) w)) := ⟨fun w u1 u2 c1 c2 h1 h2 => by have := same_c u1 u2 c1 c2 X X w h1 h2; rw [decide_eq_true rfl, hXl] at this; exact this⟩
  have csy : Kept (∀ w u1 u2 c1 c2, Ls w u1 Y → Ls w u2 Y → Calls Try.prog 28 #[.slice u1 n c1, .slice u2 n c2] w (Gives (.bool true) w)) := ⟨fun w u1 u2 c1 c2 h1 h2 => by have := same_c u1 u2 c1 c2 Y Y w h1 h2; rw [decide_eq_true rfl, hYl] at this; exact this⟩
  have cdt : Kept (∀ w u c, Mt w u M → Calls Try.prog 20 #[.agg #[.int .u64 p], .slice u n c] w (fun e w' => e = .returned (.int .u64 (detE p M)) ∧ Below w.heap.size w w')) := ⟨fun w u c h => by have := det_c p u c M w h; rw [hMl] at this; exact this⟩
  have hdb : (detE p M != 0) = true := by simpa using hdet
  generalize detE p M = dd at *
  have kDl := (⟨hDl⟩ : Kept _)
  have kMl := (⟨hMl⟩ : Kept _)
  clear hL hn hp hv hnn hok hn1 hpw hr hnd hD hDl hDi hMd hMl hMrow hMv hMc hMi hA hfull hdet hpiv hinv hokE hN hNl hNrow hNv hNc hX hY hXe hYe kaU hmulU hXl hYl cap hd5
  go_enter Try.func4, Try.ntmps4
  go_wp2_with (first | (go_at_call 11; refine use (tawake_c _) ?_; intro pr) | (go_at_call 12; refine use (cpr.out _) ?_; intro pq) | (go_at_call 24; refine Stop.out ?_))
  refine ⟨?_⟩
  obtain ⟨Z, hZ⟩ : ∃ Z, w.heap.size + pq.os.size = Z := ⟨_, rfl⟩
  rw [hZ]
  refine call_genE (fun W' => Below w.heap.size w W' ∧ W'.cell? ⟨Z, 0, none⟩ = some (.int .u64 p) ∧ Z < W'.heap.size) ?fx ?_
  case fx => exact ⟨(by repeat (first | exact Below.refl _ _ | refine Below.later ?_ _ | refine Below.box ?_ _ | refine Below.drew ?_ | refine Below.put ?_ (by dsimp only; omega) _)), by rw [← hZ]; simp [go_sem], by rw [← hZ]; simp⟩
  rintro W1 ⟨hB1, hb1, hl1⟩
  have kB1 := (⟨hB1⟩ : Kept _)
  have kbx : Kept (∀ w', Below W1.heap.size W1 w' → w'.cell? ⟨Z, 0, none⟩ = some (.int .u64 p) ∧ Z < w'.heap.size) := ⟨fun w' hw => ⟨by rw [hw.cell (p := ⟨Z, 0, none⟩) hl1]; exact hb1, by have := hw.size; omega⟩⟩
  clear hB1 hb1 hl1 hZ cpr
  refine (cdo.out W1).mono ?_
  rintro e w2 ⟨uD, cD, rfl, hLD, _, hB2⟩
  simp only [kDl.out]
  have kB2 := (⟨hB2⟩ : Kept _)
  have kLD := (⟨hLD⟩ : Kept _)
  obtain ⟨hb2, hl2⟩ := kbx.out w2 hB2
  clear hB2 hLD cdo
  go_wp2_with (first | (go_at_call 25; refine (cpo.out _ _ _ kLD.out).mono ?_; rintro e w3 ⟨uM, cM, rfl, hMM, _, hB3⟩; simp only [kMl.out]; refine Stop.out ?_))
  refine ⟨?_⟩
  have kM3 := (⟨hMM⟩ : Kept _)
  have kB3 : Kept (Below W1.heap.size W1 w3) := ⟨Below.next kB2.out hB3⟩
  clear hb2 hl2 hMM hB3 kLD cpo
  obtain ⟨hb3, hl3⟩ := kbx.out w3 kB3.out
  go_wp2_with (first | (go_at_call 22; refine (civ.out _ _ _ kM3.out).mono ?_; rintro e w4 ⟨BN, rfl, hMN, hB4⟩; refine Stop.out ?_))
  refine ⟨?_⟩
  have kN4 := (⟨hMN⟩ : Kept _)
  have kM4 := (⟨kM3.out.below (Nat.le_refl _) hB4⟩ : Kept _)
  have kB4 : Kept (Below W1.heap.size W1 w4) := ⟨Below.next kB3.out hB4⟩
  clear hb3 hl3 hMN hB4 kM3 civ
  obtain ⟨hb4, hl4⟩ := kbx.out w4 kB4.out
  go_wp2_with (first | (go_at_call 26; refine (cfo.out _ (Below.next kB1.out kB4.out)).mono ?_; rintro e w5 ⟨VX, rfl, hLX, hB5⟩; refine Stop.out ?_))
  refine ⟨?_⟩
  have kX5 := (⟨hLX⟩ : Kept _)
  have kM5 := (⟨kM4.out.below (Nat.le_refl _) hB5⟩ : Kept _)
  have kN5 := (⟨kN4.out.below (Nat.le_refl _) hB5⟩ : Kept _)
  have kB5 : Kept (Below W1.heap.size W1 w5) := ⟨Below.next kB4.out hB5⟩
  clear hb4 hl4 hLX hB5 kM4 kN4 cfo
  obtain ⟨hb5, hl5⟩ := kbx.out w5 kB5.out
  go_wp2_with (first | (go_at_call 27; refine (cin.out _ (Below.next kB1.out kB5.out)).mono ?_; rintro e w6 ⟨VY, rfl, hLY, hB6⟩; refine Stop.out ?_))
  refine ⟨?_⟩
  have kY6 := (⟨hLY⟩ : Kept _)
  have kX6 := (⟨kX5.out.below (Nat.le_refl _) hB6⟩ : Kept _)
  have kM6 := (⟨kM5.out.below (Nat.le_refl _) hB6⟩ : Kept _)
  have kN6 := (⟨kN5.out.below (Nat.le_refl _) hB6⟩ : Kept _)
  have kB6 : Kept (Below W1.heap.size W1 w6) := ⟨Below.next kB5.out hB6⟩
  clear hb5 hl5 hLY hB6 kM5 kN5 kX5 cin
  obtain ⟨hb6, hl6⟩ := kbx.out w6 kB6.out
  go_wp2_with (first | (go_at_call 20; refine (cdt.out _ _ _ kM6.out).mono ?_; rintro e w7 ⟨rfl, hB7⟩; refine Stop.out ?_))
  refine ⟨?_⟩
  have kY7 := (⟨kY6.out.below (Nat.le_refl _) hB7⟩ : Kept _)
  have kX7 := (⟨kX6.out.below (Nat.le_refl _) hB7⟩ : Kept _)
  have kM7 := (⟨kM6.out.below (Nat.le_refl _) hB7⟩ : Kept _)
  have kN7 := (⟨kN6.out.below (Nat.le_refl _) hB7⟩ : Kept _)
  have kB7 : Kept (Below W1.heap.size W1 w7) := ⟨Below.next kB6.out hB7⟩
  clear hb6 hl6 hB7 kM6 kN6 kX6 kY6 cdt
  obtain ⟨hb7, hl7⟩ := kbx.out w7 kB7.out
  go_wp2_with (first | (go_at_call 29; refine (cap1.out _ _ _ (Below.next kB1.out kB7.out) kM7.out).mono ?_; rintro e w8 ⟨V8, rfl, hL8, hB8⟩; refine Stop.out ?_))
  refine ⟨?_⟩
  have k8 := (⟨hL8⟩ : Kept _)
  have kY8 := (⟨kY7.out.below (Nat.le_refl _) hB8⟩ : Kept _)
  have kX8 := (⟨kX7.out.below (Nat.le_refl _) hB8⟩ : Kept _)
  have kN8 := (⟨kN7.out.below (Nat.le_refl _) hB8⟩ : Kept _)
  have kB8 : Kept (Below W1.heap.size W1 w8) := ⟨Below.next kB7.out hB8⟩
  clear hb7 hl7 hL8 hB8 kM7 kN7 kX7 kY7 cap1
  go_wp2_with (first | (go_at_call 28; refine use (csx.out _ _ _ _ _ k8.out kX8.out) ?_; intro ps; refine Stop.out ?_))
  refine ⟨?_⟩
  have kY9 : Kept (Ls (after w8 ps) (some ⟨VY, 0, none⟩) Y) := ⟨kY8.out.later ps⟩
  have kN9 : Kept (Mt (after w8 ps) (some ⟨BN, 0, none⟩) N) := ⟨kN8.out.below (Nat.le_refl _) (after_below w8 ps)⟩
  have kB9 : Kept (Below W1.heap.size W1 (after w8 ps)) := ⟨Below.later kB8.out _⟩
  generalize after w8 ps = w9 at kY9 kN9 kB9 ⊢
  clear k8 kY8 kX8 kN8 csx
  obtain ⟨hb9, hl9⟩ := kbx.out w9 kB9.out
  go_wp2_with (first | (go_at_call 29; refine (cap2.out _ _ _ (Below.next kB1.out kB9.out) kN9.out).mono ?_; rintro e w10 ⟨V10, rfl, hL10, hB10⟩; refine Stop.out ?_))
  refine ⟨?_⟩
  have k10 := (⟨hL10⟩ : Kept _)
  have kY10 := (⟨kY9.out.below (Nat.le_refl _) hB10⟩ : Kept _)
  have kB10 : Kept (Below W1.heap.size W1 w10) := ⟨Below.next kB9.out hB10⟩
  clear hb9 hl9 hL10 hB10 kN9 kY9 cap2
  go_wp2_with (first | (go_at_call 28; (first | with_reducible refine use1 (csy.out _ _ _ _ _ k10.out kY10.out) ?_ | with_reducible refine use (csy.out _ _ _ _ _ k10.out kY10.out) ?_); intro pw))
  go_ret
  exact ⟨rfl, Below.later (Below.next kB1.out kB10.out) _⟩
set_option maxRecDepth 100000 in
theorem lifted (os : Os) (started : os.Started) (H : Type) (enc : TypeId × Value → H) :
    ReturnsInHanded {} Try.checked os 4 .any (Rows.topTransformMatrixSpec.pre6 enc Try.prog Try.f4 Rows.topTransformMatrixRow.domain false) (Rows.topTransformMatrixSpec.post enc Try.prog Try.f4 false true false false) := by
  refine returnsInHanded_of_change (C := Try.checked) own started (by kernel_rfl) Try.func4
    (ChangeSpec.witness6 (enc := enc) (C := Try.checked) false ⟨#[], #[.int .u8 0, .slice none 0 0], []⟩ 8 (by kernel_rfl) (by kernel_rfl) (by kernel_rfl) (by kernel_rfl)) ?_
  intro W base args ds gs before hval0 hW hcnd _
  have hval : ∀ (j : Nat) t v, Try.f4.params[j]? = some t → args[j]? = some v → Value.okWide Try.prog W .any base t v := hval0
  have hW0 : DataW.Whole enc Try.prog Try.f4.params.toList Rows.topTransformMatrixSpec.vars false W args.toList ds gs before := hW
  obtain ⟨p, q, hA0, hV, rfl, _, _⟩ := hW
  have hA : DataW.TrodAll enc Try.prog W 0 (fun _ => true) true Try.f4.params.toList args.toList ds p := hA0
  rw [Try.params4] at hA hval
  obtain ⟨v0, vs0, d0, ds0, p0, q0, hargs, rfl, rfl, h0, r0⟩ := trodAll_cons hA
  obtain ⟨v1, vs1, d1, ds1, p1, q1, rfl, rfl, rfl, h1, r1⟩ := trodAll_cons r0
  obtain ⟨rfl, rfl, rfl⟩ := trodAll_nil r1
  obtain rfl : args = #[v0, v1] := by cases args; simp_all
  obtain ⟨rfl, rfl⟩ := trodVars_none hV
  obtain ⟨a0, rfl, u0⟩ := open_u8 (hval 0 5 v0 rfl rfl)
  obtain ⟨a1x, a1y, a1z, rfl, u1⟩ := open_list (hval 1 32 v1 rfl rfl) h1
  clear hA0 hval0
  refine (walk W a0 u0 a1x a1y a1z u1).mono fun e W' ⟨he, hb⟩ => ⟨.bool true, he, ?_⟩
  exact law_post (fun t ht => by have ht' : t ∈ [5, 32] := ht; simp only [List.mem_cons, List.not_mem_nil, or_false] at ht'; rcases ht' with rfl | rfl <;> exact ⟨by kernel_rfl, of_decide_eq_true (by kernel_rfl)⟩) rfl rfl hW0 rfl hb

theorem over : Rows.topTransformMatrixRow.holds Try.pinned (OpenSpec.ofChange Rows.topTransformMatrixSpec) :=
  OpenClaim.holds_of_wide 4 Try.f4 rfl rfl rfl rfl rfl rfl rfl ⟨rfl, rfl, rfl, rfl, rfl⟩ rfl rfl rfl rfl rfl (by kernel_rfl) Try.func4 (by kernel_rfl)
    (of_decide_eq_true (by kernel_rfl)) (by unfold Func.isWrapper; first | (rw [if_pos (by decide +kernel)]; kernel_rfl) | (rw [if_neg (by decide +kernel)]; exact ⟨rfl, rfl⟩))
    (fun os started H enc _ => lifted os started H enc)

/-- The statement. -/
theorem proved : Rows.TopTransformMatrixSaid := over
#print axioms proved
end Go.Proofs.Ytjnlnbkdnjainaa.topTransformMatrix
