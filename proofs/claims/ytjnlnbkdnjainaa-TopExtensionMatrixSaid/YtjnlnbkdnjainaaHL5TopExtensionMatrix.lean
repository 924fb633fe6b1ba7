/- TopExtensionMatrix: for any prime of the list and any two elements of the extension the call returns true: the elements act as matrices: the matrix of a product is the product of the matrices, the norm is the determinant, and the matrix of the inverse is the inverse matrix, which is there exactly if the element is not 0. No condition. -/
import Derived.Test.YtjnlnbkdnjainaaHTpl
import Derived.Test.YtjnlnbkdnjainaaHRoot
namespace Go.Proofs.Ytjnlnbkdnjainaa.topExtensionMatrix
open Go.ChangeShapes Go.WideShapes Go.ChangeAt Go.RowKit Go.Sort

set_option maxHeartbeats 16000000 in
set_option maxRecDepth 100000 in
theorem walk (nn : Int) (hnn : 0 ≤ nn ∧ nn ≤ 255) (ax ay : Int) (ha : U ax ∧ U ay) (bx by' : Int) (hb : U bx ∧ U by') (w : World) :
    Calls Try.prog 3 #[.int .u8 nn, .agg #[.int .u64 ax, .int .u64 ay], .agg #[.int .u64 bx, .int .u64 by']] w (Gives (.bool true) w) := by
  obtain ⟨p, hp⟩ : ∃ p, primeOf nn = p := ⟨_, rfl⟩
  have hv : vld p = true := by rw [← hp]; exact prime_valid nn
  have hUp : U p := by rw [← hp]; exact prime_U nn
  have hpp := vld_pos hv
  have cpr : Kept (∀ w, Calls Try.prog 12 #[.int .u8 nn] w (Gives (.int .u64 p) w)) := ⟨fun w => by have := prime_c nn w hnn.1 hnn.2; rw [hp] at this; exact this⟩
  have kvd := (⟨hv⟩ : Kept _)
  have cem : Kept (∀ (x : Int × Int) X w, U2 x → X < w.heap.size → w.cell? ⟨X, 0, none⟩ = some (.int .u64 p) → Calls Try.prog 13 #[.agg #[.int .u64 x.1, .int .u64 x.2], .pointer (some ⟨X, 0, none⟩)] w (GivesEm p x w)) := ⟨fun x X w h1 h2 h3 => em_c p x X w h1 h2 h3⟩
  have cmu : Kept (∀ w u v c d, Mt w u (emL p (ax, ay)) → Mt w v (emL p (bx, by')) → Calls Try.prog 18 #[.agg #[.int .u64 p], .slice u 2 c, .slice v 2 d] w (fun e w' => ∃ B, e = .returned (.slice (some ⟨B, 0, none⟩) 2 2) ∧ Mt w' (some ⟨B, 0, none⟩) (emL p (xmul p (ax, ay) (bx, by'))) ∧ Below w.heap.size w w')) := ⟨fun w u v c d h1 h2 =>
    (multiply_lc p 2 2 2 u v c d _ _ w h1 h2 hv (em_vld _) (em_vld _) rfl rfl rfl rfl).mono (fun e w' ⟨B, bf, he, hR⟩ => ⟨B, he, by
      have := hR.done.mt (by omega) (by omega) (fun i j _ _ => msP_U p _ _ i j 2)
      rw [em_mul hv] at this; exact this, hR.below⟩)⟩
  have cxm : Kept (∀ w, Calls Try.prog 19 #[.agg #[.int .u64 p], .agg #[.int .u64 ax, .int .u64 ay], .agg #[.int .u64 bx, .int .u64 by']] w (Gives (.agg #[.int .u64 (xmul p (ax, ay) (bx, by')).1, .int .u64 (xmul p (ax, ay) (bx, by')).2]) w)) := ⟨fun w => xmul_c p (ax, ay) (bx, by') w ha hb⟩
  have cxn : Kept (∀ w, Calls Try.prog 21 #[.agg #[.int .u64 p], .agg #[.int .u64 ax, .int .u64 ay]] w (Gives (.int .u64 (xnorm p (ax, ay))) w)) := ⟨fun w => xnorm_c p (ax, ay) w ha⟩
  have cxi : Kept (∀ w, Calls Try.prog 23 #[.agg #[.int .u64 p], .agg #[.int .u64 ax, .int .u64 ay]] w (Gives (.agg #[.int .u64 (xinv p (ax, ay)).1, .int .u64 (xinv p (ax, ay)).2]) w)) := ⟨fun w => xinv_c p (ax, ay) w hUp ha⟩
  have cdt : Kept (∀ w u c, Mt w u (emL p (ax, ay)) → Calls Try.prog 20 #[.agg #[.int .u64 p], .slice u 2 c] w (fun e w' => e = .returned (.int .u64 (xnorm p (ax, ay))) ∧ Below w.heap.size w w')) := ⟨fun w u c h => by have := det_c p u c _ w h; rw [em_det hv] at this; exact this⟩
  have civ : Kept (∀ w u c, Mt w u (emL p (ax, ay)) → Calls Try.prog 22 #[.agg #[.int .u64 p], .slice u 2 c] w (GivesI (decide ((elR p 2 2 (iF p 2 (emL p (ax, ay)))).piv.length = 2)) 2 (fun i j => (elR p 2 2 (iF p 2 (emL p (ax, ay)))).f i (2 + j)) w)) := ⟨fun w u c h => inverse_lc p 2 u c _ w h hv (em_vld _) rfl rfl⟩
  have csa : Kept (∀ w u1 u2 c1 c2 x, Mt w u1 (emL p x) → Mt w u2 (emL p x) → Calls Try.prog 17 #[.slice u1 2 c1, .slice u2 2 c2] w (Gives (.bool true) w)) := ⟨fun w u1 u2 c1 c2 x h1 h2 => by have := same05_c u1 u2 c1 c2 _ _ w h1 h2; rw [decide_eq_true rfl] at this; exact this⟩
  have cr1 : Kept (∀ w, Calls Try.prog 14 #[.agg #[.int .u64 p], .int .u64 ax] w (Gives (.int .u64 (fred p ax)) w)) := ⟨fun w => red_c p ax w ha.1⟩
  have cr2 : Kept (∀ w, Calls Try.prog 14 #[.agg #[.int .u64 p], .int .u64 ay] w (Gives (.int .u64 (fred p ay)) w)) := ⟨fun w => red_c p ay w ha.2⟩
  have kua : Kept (U2 (ax, ay)) := ⟨ha⟩
  have kub : Kept (U2 (bx, by')) := ⟨hb⟩
  have kfr : Kept (∀ z, fred p z = z % p) := ⟨fun z => by unfold fred; rw [if_pos hv]⟩
  clear ha hb hv hUp hp hnn
  go_enter Try.func3, Try.ntmps3
  go_wp2_with (first | (go_at_call 11; (first | with_reducible refine use1 (tawake_c _) ?_ | with_reducible refine use (tawake_c _) ?_); intro pw) | (go_at_call 12; (first | with_reducible refine use1 (cpr.out _) ?_ | with_reducible refine use (cpr.out _) ?_); intro pw))
  obtain ⟨X7, hX7⟩ : ∃ X7, w.heap.size + 1 + 1 + pw.os.size = X7 := ⟨_, rfl⟩
  obtain ⟨W1, hW1⟩ : ∃ W1, W1 = (after ((w.alloc (.cells #[.int .u64 ax, .int .u64 ay] 23)).alloc (.cells #[.int .u64 bx, .int .u64 by'] 23)) pw).alloc (.cells #[.int .u64 p] 27) := ⟨_, rfl⟩
  have hB1 : Below w.heap.size w W1 := by rw [hW1]; exact (by repeat (first | exact Below.refl _ _ | refine Below.later ?_ _ | refine Below.box ?_ _ | refine Below.drew ?_ | refine Below.put ?_ (by dsimp only; omega) _))
  have hs1 : W1.heap.size = X7 + 1 := by rw [hW1, ← hX7]; simp
  have d0 : W1.cell? ⟨X7, 0, none⟩ = some (.int .u64 p) := by rw [hW1, ← hX7]; simp [go_sem]
  have d1 : W1.cell? ⟨w.heap.size, 0, none⟩ = some (.int .u64 ax) := by rw [hW1]; simp [go_sem]
  have d2 : W1.cell? ⟨w.heap.size, 1, none⟩ = some (.int .u64 ay) := by rw [hW1]; simp [go_sem]
  have d3 : W1.cell? ⟨w.heap.size + 1, 0, none⟩ = some (.int .u64 bx) := by rw [hW1]; simp [go_sem]
  have d4 : W1.cell? ⟨w.heap.size + 1, 1, none⟩ = some (.int .u64 by') := by rw [hW1]; simp [go_sem]
  rw [← hW1, hX7]
  have hX7w : w.heap.size + 1 < X7 := by omega
  have hS : Kept (∀ w', Below W1.heap.size W1 w' → w'.cell? ⟨X7, 0, none⟩ = some (.int .u64 p) ∧ w'.cell? ⟨w.heap.size, 0, none⟩ = some (.int .u64 ax) ∧ w'.cell? ⟨w.heap.size, 1, none⟩ = some (.int .u64 ay) ∧ w'.cell? ⟨w.heap.size + 1, 0, none⟩ = some (.int .u64 bx) ∧ w'.cell? ⟨w.heap.size + 1, 1, none⟩ = some (.int .u64 by')) := ⟨fun w' hw => ⟨by rw [hw.cell (p := ⟨X7, 0, none⟩) (by show X7 < _; omega)]; exact d0, by rw [hw.cell (p := ⟨w.heap.size, 0, none⟩) (by show w.heap.size < _; omega)]; exact d1, by rw [hw.cell (p := ⟨w.heap.size, 1, none⟩) (by show w.heap.size < _; omega)]; exact d2, by rw [hw.cell (p := ⟨w.heap.size + 1, 0, none⟩) (by show w.heap.size + 1 < _; omega)]; exact d3, by rw [hw.cell (p := ⟨w.heap.size + 1, 1, none⟩) (by show w.heap.size + 1 < _; omega)]; exact d4⟩⟩
  have kB1 := (⟨hB1⟩ : Kept _)
  have hXs : X7 < W1.heap.size := by omega
  clear hB1 hW1 d0 d1 d2 d3 d4 hX7 hs1
  refine wp_region_noPanic ?_
  refine wp_region_held_drew (S := (fun w' => w'.cell? ⟨X7, 0, none⟩ = some (.int .u64 p) ∧ w'.cell? ⟨w.heap.size, 0, none⟩ = some (.int .u64 ax) ∧ w'.cell? ⟨w.heap.size, 1, none⟩ = some (.int .u64 ay) ∧ w'.cell? ⟨w.heap.size + 1, 0, none⟩ = some (.int .u64 bx) ∧ w'.cell? ⟨w.heap.size + 1, 1, none⟩ = some (.int .u64 by'))) (by kernel_rfl) (hS.out _ (by repeat (first | exact Below.refl _ _ | refine Below.later ?_ _ | refine Below.box ?_ _ | refine Below.drew ?_ | refine Below.put ?_ (by dsimp only; omega) _))) (fun hHeld => ?_)
  refine wpAnyH_take (i := 0) (oi := ?o0q1) (v := ?v0q1) ?hi0q1 (by kernel_rfl) (by kernel_rfl) (by kernel_rfl) (fun _ _ _ h => h) (Or.inl ⟨?hg0q1, ?hy0q1⟩) (by assumption) ?rest0q1
  case hi0q1 => rfl
  case hg0q1 => rfl
  case' hy0q1 =>
    dsimp only [List.getElem?_toArray, List.getElem?_cons_succ, List.getElem?_cons_zero, List.getElem_cons_succ, List.getElem_cons_zero, List.getElem_toArray]
    intro w hSw
    try dsimp only at hSw
    go_simp
    try with_reducible rfl
  case' rest0q1 =>
    dsimp only [List.getElem?_toArray, List.getElem?_cons_succ, List.getElem?_cons_zero, List.getElem_cons_succ, List.getElem_cons_zero, List.getElem_toArray]
    try simp only [Act.put, List.setIfInBounds_toArray, List.set_cons_zero, List.set_cons_succ]
  refine wpAnyH_take (i := 1) (oi := ?o1q2) (v := ?v1q2) ?hi1q2 (by kernel_rfl) (by kernel_rfl) (by kernel_rfl) (fun _ _ _ h => h) (Or.inl ⟨?hg1q2, ?hy1q2⟩) (by assumption) ?rest1q2
  case hi1q2 => rfl
  case hg1q2 => rfl
  case' hy1q2 =>
    dsimp only [List.getElem?_toArray, List.getElem?_cons_succ, List.getElem?_cons_zero, List.getElem_cons_succ, List.getElem_cons_zero, List.getElem_toArray]
    intro w hSw
    try dsimp only at hSw
    go_simp
    try with_reducible rfl
  case' rest1q2 =>
    dsimp only [List.getElem?_toArray, List.getElem?_cons_succ, List.getElem?_cons_zero, List.getElem_cons_succ, List.getElem_cons_zero, List.getElem_toArray]
    try simp only [Act.put, List.setIfInBounds_toArray, List.set_cons_zero, List.set_cons_succ]
  refine wpAnyH_take (i := 2) (oi := ?o2q3) (v := ?v2q3) ?hi2q3 (by kernel_rfl) (by kernel_rfl) (by kernel_rfl) (fun _ _ _ h => h) (Or.inl ⟨?hg2q3, ?hy2q3⟩) (by assumption) ?rest2q3
  case hi2q3 => rfl
  case hg2q3 => rfl
  case' hy2q3 =>
    dsimp only [List.getElem?_toArray, List.getElem?_cons_succ, List.getElem?_cons_zero, List.getElem_cons_succ, List.getElem_cons_zero, List.getElem_toArray]
    intro w hSw
    try dsimp only at hSw
    go_simp
    try with_reducible rfl
  case' rest2q3 =>
    dsimp only [List.getElem?_toArray, List.getElem?_cons_succ, List.getElem?_cons_zero, List.getElem_cons_succ, List.getElem_cons_zero, List.getElem_toArray]
    try simp only [Act.put, List.setIfInBounds_toArray, List.set_cons_zero, List.set_cons_succ]
  refine wpAnyH_take (i := 4) (oi := ?o4q4) (v := ?v4q4) ?hi4q4 (by kernel_rfl) (by kernel_rfl) (by kernel_rfl) (fun _ _ _ h => h) (Or.inl ⟨?hg4q4, ?hy4q4⟩) (by assumption) ?rest4q4
  case hi4q4 => rfl
  case hg4q4 => rfl
  case' hy4q4 =>
    dsimp only [List.getElem?_toArray, List.getElem?_cons_succ, List.getElem?_cons_zero, List.getElem_cons_succ, List.getElem_cons_zero, List.getElem_toArray]
    intro w hSw
    try dsimp only at hSw
    go_simp
    try with_reducible rfl
  case' rest4q4 =>
    dsimp only [List.getElem?_toArray, List.getElem?_cons_succ, List.getElem?_cons_zero, List.getElem_cons_succ, List.getElem_cons_zero, List.getElem_toArray]
    try simp only [Act.put, List.setIfInBounds_toArray, List.set_cons_zero, List.set_cons_succ]
  refine wpAnyH_take (i := 5) (oi := ?o5q5) (v := ?v5q5) ?hi5q5 (by kernel_rfl) (by kernel_rfl) (by kernel_rfl) (fun _ _ _ h => h) (Or.inl ⟨?hg5q5, ?hy5q5⟩) (by assumption) ?rest5q5
  case hi5q5 => rfl
  case hg5q5 => rfl
  case' hy5q5 =>
    dsimp only [List.getElem?_toArray, List.getElem?_cons_succ, List.getElem?_cons_zero, List.getElem_cons_succ, List.getElem_cons_zero, List.getElem_toArray]
    intro w hSw
    try dsimp only at hSw
    go_simp
    try with_reducible rfl
  case' rest5q5 =>
    dsimp only [List.getElem?_toArray, List.getElem?_cons_succ, List.getElem?_cons_zero, List.getElem_cons_succ, List.getElem_cons_zero, List.getElem_toArray]
    try simp only [Act.put, List.setIfInBounds_toArray, List.set_cons_zero, List.set_cons_succ]
  refine wpAnyH_take (i := 8) (oi := ?o8q6) (v := ?v8q6) ?hi8q6 (by kernel_rfl) (by kernel_rfl) (by kernel_rfl) (fun _ _ _ h => h) (Or.inl ⟨?hg8q6, ?hy8q6⟩) (by assumption) ?rest8q6
  case hi8q6 => rfl
  case hg8q6 => rfl
  case' hy8q6 =>
    dsimp only [List.getElem?_toArray, List.getElem?_cons_succ, List.getElem?_cons_zero, List.getElem_cons_succ, List.getElem_cons_zero, List.getElem_toArray]
    intro w hSw
    try dsimp only at hSw
    go_simp
    try with_reducible rfl
  case' rest8q6 =>
    dsimp only [List.getElem?_toArray, List.getElem?_cons_succ, List.getElem?_cons_zero, List.getElem_cons_succ, List.getElem_cons_zero, List.getElem_toArray]
    try simp only [Act.put, List.setIfInBounds_toArray, List.set_cons_zero, List.set_cons_succ]
  refine wpAnyH_take (i := 9) (oi := ?o9q7) (v := ?v9q7) ?hi9q7 (by kernel_rfl) (by kernel_rfl) (by kernel_rfl) (fun _ _ _ h => h) (Or.inl ⟨?hg9q7, ?hy9q7⟩) (by assumption) ?rest9q7
  case hi9q7 => rfl
  case hg9q7 => rfl
  case' hy9q7 =>
    dsimp only [List.getElem?_toArray, List.getElem?_cons_succ, List.getElem?_cons_zero, List.getElem_cons_succ, List.getElem_cons_zero, List.getElem_toArray]
    intro w hSw
    try dsimp only at hSw
    go_simp
    try with_reducible rfl
  case' rest9q7 =>
    dsimp only [List.getElem?_toArray, List.getElem?_cons_succ, List.getElem?_cons_zero, List.getElem_cons_succ, List.getElem_cons_zero, List.getElem_toArray]
    try simp only [Act.put, List.setIfInBounds_toArray, List.set_cons_zero, List.set_cons_succ]
  refine wpAnyH_take (i := 10) (oi := ?o10q8) (v := ?v10q8) ?hi10q8 (by kernel_rfl) (by kernel_rfl) (by kernel_rfl) (fun _ _ _ h => h) (Or.inl ⟨?hg10q8, ?hy10q8⟩) (by assumption) ?rest10q8
  case hi10q8 => rfl
  case hg10q8 => rfl
  case' hy10q8 =>
    dsimp only [List.getElem?_toArray, List.getElem?_cons_succ, List.getElem?_cons_zero, List.getElem_cons_succ, List.getElem_cons_zero, List.getElem_toArray]
    intro w hSw
    try dsimp only at hSw
    go_simp
    try with_reducible rfl
  case' rest10q8 =>
    dsimp only [List.getElem?_toArray, List.getElem?_cons_succ, List.getElem?_cons_zero, List.getElem_cons_succ, List.getElem_cons_zero, List.getElem_toArray]
    try simp only [Act.put, List.setIfInBounds_toArray, List.set_cons_zero, List.set_cons_succ]
  refine wpAnyH_take (i := 11) (oi := ?o11q9) (v := ?v11q9) ?hi11q9 (by kernel_rfl) (by kernel_rfl) (by kernel_rfl) (fun _ _ _ h => h) (Or.inl ⟨?hg11q9, ?hy11q9⟩) (by assumption) ?rest11q9
  case hi11q9 => rfl
  case hg11q9 => rfl
  case' hy11q9 =>
    dsimp only [List.getElem?_toArray, List.getElem?_cons_succ, List.getElem?_cons_zero, List.getElem_cons_succ, List.getElem_cons_zero, List.getElem_toArray]
    intro w hSw
    try dsimp only at hSw
    go_simp
    try with_reducible rfl
  case' rest11q9 =>
    dsimp only [List.getElem?_toArray, List.getElem?_cons_succ, List.getElem?_cons_zero, List.getElem_cons_succ, List.getElem_cons_zero, List.getElem_toArray]
    try simp only [Act.put, List.setIfInBounds_toArray, List.set_cons_zero, List.set_cons_succ]
  have hB : Below W1.heap.size W1 W1.drew := (by repeat (first | exact Below.refl _ _ | refine Below.later ?_ _ | refine Below.box ?_ _ | refine Below.drew ?_ | refine Below.put ?_ (by dsimp only; omega) _))
  refine wpAnyH_ready (rs := [3]) (by kernel_rfl) (by simp) ?_
  refine AllReadyH.cons rfl (fun K hK => ?_) AllReadyH.nil
  dsimp only [List.getElem?_toArray, List.getElem?_cons_succ, List.getElem?_cons_zero, List.getElem_cons_succ, List.getElem_cons_zero, List.getElem_toArray]
  go_simp
  go_at_call 13
  refine (cem.out (ax, ay) X7 _ kua.out (by have := hB.size; omega) (hS.out _ hB).1).mono ?_
  rintro e w2 ⟨BMa, rfl, hMa, hBn⟩
  replace hB := Below.next hB hBn
  clear hBn
  go_wp2
  refine hK.out _ _ ?_ (fun hHeld => ?_)
  · exact hS.out _ (hB)
  clear hK K
  try simp only [Act.put, List.setIfInBounds_toArray, List.set_cons_zero, List.set_cons_succ]
  refine wpAnyH_ready (rs := [6]) (by kernel_rfl) (by simp) ?_
  refine AllReadyH.cons rfl (fun K hK => ?_) AllReadyH.nil
  dsimp only [List.getElem?_toArray, List.getElem?_cons_succ, List.getElem?_cons_zero, List.getElem_cons_succ, List.getElem_cons_zero, List.getElem_toArray]
  go_simp
  go_at_call 13
  refine (cem.out (bx, by') X7 _ kub.out (by have := hB.size; omega) (hS.out _ hB).1).mono ?_
  rintro e w3 ⟨BMb, rfl, hMb, hBn⟩
  replace hMa := hMa.below (Nat.le_refl _) hBn
  replace hB := Below.next hB hBn
  clear hBn
  go_wp2
  refine hK.out _ _ ?_ (fun hHeld => ?_)
  · exact hS.out _ (hB)
  clear hK K
  try simp only [Act.put, List.setIfInBounds_toArray, List.set_cons_zero, List.set_cons_succ]
  refine wpAnyH_ready (rs := [7]) (by kernel_rfl) (by simp) ?_
  refine AllReadyH.cons rfl (fun K hK => ?_) AllReadyH.nil
  dsimp only [List.getElem?_toArray, List.getElem?_cons_succ, List.getElem?_cons_zero, List.getElem_cons_succ, List.getElem_cons_zero, List.getElem_toArray]
  go_simp
  go_at_call 18
  refine (cmu.out _ _ _ _ _ hMa hMb).mono ?_
  rintro e w4 ⟨Bm, rfl, hMm, hBn⟩
  replace hB := Below.next hB hBn
  clear hBn hMa hMb
  go_wp2
  refine hK.out _ _ ?_ (fun hHeld => ?_)
  · exact hS.out _ (hB)
  clear hK K
  try simp only [Act.put, List.setIfInBounds_toArray, List.set_cons_zero, List.set_cons_succ]
  refine wpAnyH_ready (rs := [12]) (by kernel_rfl) (by simp) ?_
  refine AllReadyH.cons rfl (fun K hK => ?_) AllReadyH.nil
  dsimp only [List.getElem?_toArray, List.getElem?_cons_succ, List.getElem?_cons_zero, List.getElem_cons_succ, List.getElem_cons_zero, List.getElem_toArray]
  go_simp
  go_at_call 19
  refine use (cxm.out _) ?_
  intro pd
  go_wp2
  replace hMm := hMm.below (Nat.le_refl _) (after_below w4 pd)
  replace hB := Below.later hB pd
  generalize after w4 pd = w5 at hB hK hMm ⊢
  refine hK.out _ _ ?_ (fun hHeld => ?_)
  · exact hS.out _ (hB)
  clear hK K
  try simp only [Act.put, List.setIfInBounds_toArray, List.set_cons_zero, List.set_cons_succ]
  refine wpAnyH_ready (rs := [13]) (by kernel_rfl) (by simp) ?_
  refine AllReadyH.cons rfl (fun K hK => ?_) AllReadyH.nil
  dsimp only [List.getElem?_toArray, List.getElem?_cons_succ, List.getElem?_cons_zero, List.getElem_cons_succ, List.getElem_cons_zero, List.getElem_toArray]
  go_simp
  go_at_call 13
  refine (cem.out (xmul p (ax, ay) (bx, by')) X7 _ xmul_U (by have := hB.size; omega) (hS.out _ hB).1).mono ?_
  rintro e w6 ⟨BMx, rfl, hMx, hBn⟩
  replace hMm := hMm.below (Nat.le_refl _) hBn
  replace hB := Below.next hB hBn
  clear hBn
  go_wp2
  refine hK.out _ _ ?_ (fun hHeld => ?_)
  · exact hS.out _ (hB)
  clear hK K
  try simp only [Act.put, List.setIfInBounds_toArray, List.set_cons_zero, List.set_cons_succ]
  refine wpAnyH_ready (rs := [14]) (by kernel_rfl) (by simp) ?_
  refine AllReadyH.cons rfl (fun K hK => ?_) AllReadyH.nil
  dsimp only [List.getElem?_toArray, List.getElem?_cons_succ, List.getElem?_cons_zero, List.getElem_cons_succ, List.getElem_cons_zero, List.getElem_toArray]
  go_simp
  go_at_call 17
  refine use (csa.out _ _ _ _ _ _ hMm hMx) ?_
  intro pd
  go_wp2
  replace hB := Below.later hB pd
  clear hMm hMx
  generalize after w6 pd = w7 at hB hK ⊢
  refine hK.out _ _ ?_ (fun hHeld => ?_)
  · exact hS.out _ (hB)
  clear hK K
  try simp only [Act.put, List.setIfInBounds_toArray, List.set_cons_zero, List.set_cons_succ]
  refine wpAnyH_take (i := 15) (oi := ?o15q10) (v := ?v15q10) ?hi15q10 (by kernel_rfl) (by kernel_rfl) (by kernel_rfl) (fun _ _ _ h => h) (Or.inl ⟨?hg15q10, ?hy15q10⟩) (by assumption) ?rest15q10
  case hi15q10 => rfl
  case hg15q10 => rfl
  case' hy15q10 =>
    dsimp only [List.getElem?_toArray, List.getElem?_cons_succ, List.getElem?_cons_zero, List.getElem_cons_succ, List.getElem_cons_zero, List.getElem_toArray]
    intro w hSw
    try dsimp only at hSw
    go_simp
    try with_reducible rfl
  case' rest15q10 =>
    dsimp only [List.getElem?_toArray, List.getElem?_cons_succ, List.getElem?_cons_zero, List.getElem_cons_succ, List.getElem_cons_zero, List.getElem_toArray]
    try simp only [Act.put, List.setIfInBounds_toArray, List.set_cons_zero, List.set_cons_succ]
  refine wpAnyH_take (i := 16) (oi := ?o16q11) (v := ?v16q11) ?hi16q11 (by kernel_rfl) (by kernel_rfl) (by kernel_rfl) (fun _ _ _ h => h) (Or.inl ⟨?hg16q11, ?hy16q11⟩) (by assumption) ?rest16q11
  case hi16q11 => rfl
  case hg16q11 => rfl
  case' hy16q11 =>
    dsimp only [List.getElem?_toArray, List.getElem?_cons_succ, List.getElem?_cons_zero, List.getElem_cons_succ, List.getElem_cons_zero, List.getElem_toArray]
    intro w hSw
    try dsimp only at hSw
    go_simp
    try with_reducible rfl
  case' rest16q11 =>
    dsimp only [List.getElem?_toArray, List.getElem?_cons_succ, List.getElem?_cons_zero, List.getElem_cons_succ, List.getElem_cons_zero, List.getElem_toArray]
    try simp only [Act.put, List.setIfInBounds_toArray, List.set_cons_zero, List.set_cons_succ]
  refine wpAnyH_take (i := 17) (oi := ?o17q12) (v := ?v17q12) ?hi17q12 (by kernel_rfl) (by kernel_rfl) (by kernel_rfl) (fun _ _ _ h => h) (Or.inl ⟨?hg17q12, ?hy17q12⟩) (by assumption) ?rest17q12
  case hi17q12 => rfl
  case hg17q12 => rfl
  case' hy17q12 =>
    dsimp only [List.getElem?_toArray, List.getElem?_cons_succ, List.getElem?_cons_zero, List.getElem_cons_succ, List.getElem_cons_zero, List.getElem_toArray]
    intro w hSw
    try dsimp only at hSw
    go_simp
    try with_reducible rfl
  case' rest17q12 =>
    dsimp only [List.getElem?_toArray, List.getElem?_cons_succ, List.getElem?_cons_zero, List.getElem_cons_succ, List.getElem_cons_zero, List.getElem_toArray]
    try simp only [Act.put, List.setIfInBounds_toArray, List.set_cons_zero, List.set_cons_succ]
  refine wpAnyH_take (i := 18) (oi := ?o18q13) (v := ?v18q13) ?hi18q13 (by kernel_rfl) (by kernel_rfl) (by kernel_rfl) (fun _ _ _ h => h) (Or.inl ⟨?hg18q13, ?hy18q13⟩) (by assumption) ?rest18q13
  case hi18q13 => rfl
  case hg18q13 => rfl
  case' hy18q13 =>
    dsimp only [List.getElem?_toArray, List.getElem?_cons_succ, List.getElem?_cons_zero, List.getElem_cons_succ, List.getElem_cons_zero, List.getElem_toArray]
    intro w hSw
    try dsimp only at hSw
    go_simp
    try with_reducible rfl
  case' rest18q13 =>
    dsimp only [List.getElem?_toArray, List.getElem?_cons_succ, List.getElem?_cons_zero, List.getElem_cons_succ, List.getElem_cons_zero, List.getElem_toArray]
    try simp only [Act.put, List.setIfInBounds_toArray, List.set_cons_zero, List.set_cons_succ]
  refine wpAnyH_take (i := 19) (oi := ?o19q14) (v := ?v19q14) ?hi19q14 (by kernel_rfl) (by kernel_rfl) (by kernel_rfl) (fun _ _ _ h => h) (Or.inl ⟨?hg19q14, ?hy19q14⟩) (by assumption) ?rest19q14
  case hi19q14 => rfl
  case hg19q14 => rfl
  case' hy19q14 =>
    dsimp only [List.getElem?_toArray, List.getElem?_cons_succ, List.getElem?_cons_zero, List.getElem_cons_succ, List.getElem_cons_zero, List.getElem_toArray]
    intro w hSw
    try dsimp only at hSw
    go_simp
    try with_reducible rfl
  case' rest19q14 =>
    dsimp only [List.getElem?_toArray, List.getElem?_cons_succ, List.getElem?_cons_zero, List.getElem_cons_succ, List.getElem_cons_zero, List.getElem_toArray]
    try simp only [Act.put, List.setIfInBounds_toArray, List.set_cons_zero, List.set_cons_succ]
  refine wpAnyH_take (i := 22) (oi := ?o22q15) (v := ?v22q15) ?hi22q15 (by kernel_rfl) (by kernel_rfl) (by kernel_rfl) (fun _ _ _ h => h) (Or.inl ⟨?hg22q15, ?hy22q15⟩) (by assumption) ?rest22q15
  case hi22q15 => rfl
  case hg22q15 => rfl
  case' hy22q15 =>
    dsimp only [List.getElem?_toArray, List.getElem?_cons_succ, List.getElem?_cons_zero, List.getElem_cons_succ, List.getElem_cons_zero, List.getElem_toArray]
    intro w hSw
    try dsimp only at hSw
    go_simp
    try with_reducible rfl
  case' rest22q15 =>
    dsimp only [List.getElem?_toArray, List.getElem?_cons_succ, List.getElem?_cons_zero, List.getElem_cons_succ, List.getElem_cons_zero, List.getElem_toArray]
    try simp only [Act.put, List.setIfInBounds_toArray, List.set_cons_zero, List.set_cons_succ]
  refine wpAnyH_take (i := 23) (oi := ?o23q16) (v := ?v23q16) ?hi23q16 (by kernel_rfl) (by kernel_rfl) (by kernel_rfl) (fun _ _ _ h => h) (Or.inl ⟨?hg23q16, ?hy23q16⟩) (by assumption) ?rest23q16
  case hi23q16 => rfl
  case hg23q16 => rfl
  case' hy23q16 =>
    dsimp only [List.getElem?_toArray, List.getElem?_cons_succ, List.getElem?_cons_zero, List.getElem_cons_succ, List.getElem_cons_zero, List.getElem_toArray]
    intro w hSw
    try dsimp only at hSw
    go_simp
    try with_reducible rfl
  case' rest23q16 =>
    dsimp only [List.getElem?_toArray, List.getElem?_cons_succ, List.getElem?_cons_zero, List.getElem_cons_succ, List.getElem_cons_zero, List.getElem_toArray]
    try simp only [Act.put, List.setIfInBounds_toArray, List.set_cons_zero, List.set_cons_succ]
  refine wpAnyH_ready (rs := [20]) (by kernel_rfl) (by simp) ?_
  refine AllReadyH.cons rfl (fun K hK => ?_) AllReadyH.nil
  dsimp only [List.getElem?_toArray, List.getElem?_cons_succ, List.getElem?_cons_zero, List.getElem_cons_succ, List.getElem_cons_zero, List.getElem_toArray]
  rw [if_pos (by rfl)]
  go_simp
  go_at_call 13
  refine (cem.out (ax, ay) X7 _ kua.out (by have := hB.size; omega) (hS.out _ hB).1).mono ?_
  rintro e w8 ⟨BMa, rfl, hMa, hBn⟩
  replace hB := Below.next hB hBn
  clear hBn
  go_wp2
  refine hK.out _ _ ?_ (fun hHeld => ?_)
  · exact hS.out _ (hB)
  clear hK K
  try simp only [Act.put, List.setIfInBounds_toArray, List.set_cons_zero, List.set_cons_succ]
  refine wpAnyH_ready (rs := [21]) (by kernel_rfl) (by simp) ?_
  refine AllReadyH.cons rfl (fun K hK => ?_) AllReadyH.nil
  dsimp only [List.getElem?_toArray, List.getElem?_cons_succ, List.getElem?_cons_zero, List.getElem_cons_succ, List.getElem_cons_zero, List.getElem_toArray]
  rw [if_pos (by rfl)]
  go_simp
  go_at_call 20
  refine (cdt.out _ _ _ hMa).mono ?_
  rintro e w9 ⟨rfl, hBn⟩
  replace hB := Below.next hB hBn
  clear hBn hMa
  go_wp2
  refine hK.out _ _ ?_ (fun hHeld => ?_)
  · exact hS.out _ (hB)
  clear hK K
  try simp only [Act.put, List.setIfInBounds_toArray, List.set_cons_zero, List.set_cons_succ]
  refine wpAnyH_ready (rs := [24]) (by kernel_rfl) (by simp) ?_
  refine AllReadyH.cons rfl (fun K hK => ?_) AllReadyH.nil
  dsimp only [List.getElem?_toArray, List.getElem?_cons_succ, List.getElem?_cons_zero, List.getElem_cons_succ, List.getElem_cons_zero, List.getElem_toArray]
  rw [if_pos (by rfl)]
  go_simp
  go_at_call 21
  refine use (cxn.out _) ?_
  intro pd
  go_wp2
  replace hB := Below.later hB pd
  generalize after w9 pd = w10 at hB hK ⊢
  refine hK.out _ _ ?_ (fun hHeld => ?_)
  · exact hS.out _ (hB)
  clear hK K
  try simp only [Act.put, List.setIfInBounds_toArray, List.set_cons_zero, List.set_cons_succ]
  generalize xnorm p (ax, ay) = xn
  refine wpAnyH_take (i := 25) (oi := ?o25q17) (v := ?v25q17) ?hi25q17 (by kernel_rfl) (by kernel_rfl) (by kernel_rfl) (fun _ _ _ h => h) (Or.inl ⟨?hg25q17, ?hy25q17⟩) (by assumption) ?rest25q17
  case hi25q17 => rfl
  case hg25q17 => rfl
  case' hy25q17 =>
    dsimp only [List.getElem?_toArray, List.getElem?_cons_succ, List.getElem?_cons_zero, List.getElem_cons_succ, List.getElem_cons_zero, List.getElem_toArray]
    intro w hSw
    try dsimp only at hSw
    go_simp
    try with_reducible rfl
  case' rest25q17 =>
    dsimp only [List.getElem?_toArray, List.getElem?_cons_succ, List.getElem?_cons_zero, List.getElem_cons_succ, List.getElem_cons_zero, List.getElem_toArray]
    try simp only [Act.put, List.setIfInBounds_toArray, List.set_cons_zero, List.set_cons_succ]
  refine wpAnyH_take (i := 26) (oi := ?o26q18) (v := ?v26q18) ?hi26q18 (by kernel_rfl) (by kernel_rfl) (by kernel_rfl) (fun _ _ _ h => h) (Or.inl ⟨?hg26q18, ?hy26q18⟩) (by assumption) ?rest26q18
  case hi26q18 => rfl
  case hg26q18 => rfl
  case' hy26q18 =>
    dsimp only [List.getElem?_toArray, List.getElem?_cons_succ, List.getElem?_cons_zero, List.getElem_cons_succ, List.getElem_cons_zero, List.getElem_toArray]
    intro w hSw
    try dsimp only at hSw
    go_simp
    try with_reducible rfl
  case' rest26q18 =>
    dsimp only [List.getElem?_toArray, List.getElem?_cons_succ, List.getElem?_cons_zero, List.getElem_cons_succ, List.getElem_cons_zero, List.getElem_toArray]
    try simp only [Act.put, List.setIfInBounds_toArray, List.set_cons_zero, List.set_cons_succ]
  refine wpAnyH_done (by kernel_rfl) ?_ _
  refine NoPanic.normal ?_
  have kB10 := (⟨hB⟩ : Kept _)
  have hS10 : Kept (∀ w', Below w10.heap.size w10 w' → w'.cell? ⟨X7, 0, none⟩ = some (.int .u64 p) ∧ w'.cell? ⟨w.heap.size, 0, none⟩ = some (.int .u64 ax) ∧ w'.cell? ⟨w.heap.size, 1, none⟩ = some (.int .u64 ay) ∧ w'.cell? ⟨w.heap.size + 1, 0, none⟩ = some (.int .u64 bx) ∧ w'.cell? ⟨w.heap.size + 1, 1, none⟩ = some (.int .u64 by')) := ⟨fun w' hw => hS.out w' (Below.next kB10.out hw)⟩
  have hXs10 : X7 < w10.heap.size := by have := hB.size; omega
  clear hB hHeld hS hXs
  have hS := hS10
  clear hS10
  by_cases hz : ax % p = 0 ∧ ay % p = 0
  · have hok : decide ((elR p 2 2 (iF p 2 (emL p (ax, ay)))).piv.length = 2) = false := decide_eq_false (fun h => (em_ok kvd.out (ax, ay)).1 h hz)
    have e1 : fred p ax = 0 := by rw [kfr.out]; exact hz.1
    have e2 : fred p ay = 0 := by rw [kfr.out]; exact hz.2
    go_wp2
    refine wp_region_noPanic ?_
    refine wp_region_held_drew (S := (fun w' => w'.cell? ⟨X7, 0, none⟩ = some (.int .u64 p) ∧ w'.cell? ⟨w.heap.size, 0, none⟩ = some (.int .u64 ax) ∧ w'.cell? ⟨w.heap.size, 1, none⟩ = some (.int .u64 ay) ∧ w'.cell? ⟨w.heap.size + 1, 0, none⟩ = some (.int .u64 bx) ∧ w'.cell? ⟨w.heap.size + 1, 1, none⟩ = some (.int .u64 by'))) (by kernel_rfl) (hS.out _ (by repeat (first | exact Below.refl _ _ | refine Below.later ?_ _ | refine Below.box ?_ _ | refine Below.drew ?_ | refine Below.put ?_ (by dsimp only; omega) _))) (fun hHeld => ?_)
    refine wpAnyH_take (i := 0) (oi := ?o0q19) (v := ?v0q19) ?hi0q19 (by kernel_rfl) (by kernel_rfl) (by kernel_rfl) (fun _ _ _ h => h) (Or.inl ⟨?hg0q19, ?hy0q19⟩) (by assumption) ?rest0q19
    case hi0q19 => rfl
    case hg0q19 => rfl
    case' hy0q19 =>
      dsimp only [List.getElem?_toArray, List.getElem?_cons_succ, List.getElem?_cons_zero, List.getElem_cons_succ, List.getElem_cons_zero, List.getElem_toArray]
      intro w hSw
      try dsimp only at hSw
      go_simp
      try with_reducible rfl
    case' rest0q19 =>
      dsimp only [List.getElem?_toArray, List.getElem?_cons_succ, List.getElem?_cons_zero, List.getElem_cons_succ, List.getElem_cons_zero, List.getElem_toArray]
      try simp only [Act.put, List.setIfInBounds_toArray, List.set_cons_zero, List.set_cons_succ]
    refine wpAnyH_take (i := 1) (oi := ?o1q20) (v := ?v1q20) ?hi1q20 (by kernel_rfl) (by kernel_rfl) (by kernel_rfl) (fun _ _ _ h => h) (Or.inl ⟨?hg1q20, ?hy1q20⟩) (by assumption) ?rest1q20
    case hi1q20 => rfl
    case hg1q20 => rfl
    case' hy1q20 =>
      dsimp only [List.getElem?_toArray, List.getElem?_cons_succ, List.getElem?_cons_zero, List.getElem_cons_succ, List.getElem_cons_zero, List.getElem_toArray]
      intro w hSw
      try dsimp only at hSw
      go_simp
      try with_reducible rfl
    case' rest1q20 =>
      dsimp only [List.getElem?_toArray, List.getElem?_cons_succ, List.getElem?_cons_zero, List.getElem_cons_succ, List.getElem_cons_zero, List.getElem_toArray]
      try simp only [Act.put, List.setIfInBounds_toArray, List.set_cons_zero, List.set_cons_succ]
    refine wpAnyH_take (i := 2) (oi := ?o2q21) (v := ?v2q21) ?hi2q21 (by kernel_rfl) (by kernel_rfl) (by kernel_rfl) (fun _ _ _ h => h) (Or.inl ⟨?hg2q21, ?hy2q21⟩) (by assumption) ?rest2q21
    case hi2q21 => rfl
    case hg2q21 => rfl
    case' hy2q21 =>
      dsimp only [List.getElem?_toArray, List.getElem?_cons_succ, List.getElem?_cons_zero, List.getElem_cons_succ, List.getElem_cons_zero, List.getElem_toArray]
      intro w hSw
      try dsimp only at hSw
      go_simp
      try with_reducible rfl
    case' rest2q21 =>
      dsimp only [List.getElem?_toArray, List.getElem?_cons_succ, List.getElem?_cons_zero, List.getElem_cons_succ, List.getElem_cons_zero, List.getElem_toArray]
      try simp only [Act.put, List.setIfInBounds_toArray, List.set_cons_zero, List.set_cons_succ]
    have hB : Below w10.heap.size w10 w10.drew := (by repeat (first | exact Below.refl _ _ | refine Below.later ?_ _ | refine Below.box ?_ _ | refine Below.drew ?_ | refine Below.put ?_ (by dsimp only; omega) _))
    refine wpAnyH_ready (rs := [3]) (by kernel_rfl) (by simp) ?_
    refine AllReadyH.cons rfl (fun K hK => ?_) AllReadyH.nil
    dsimp only [List.getElem?_toArray, List.getElem?_cons_succ, List.getElem?_cons_zero, List.getElem_cons_succ, List.getElem_cons_zero, List.getElem_toArray]
    go_simp
    go_at_call 13
    refine (cem.out (ax, ay) X7 _ kua.out (by have := hB.size; omega) (hS.out _ hB).1).mono ?_
    rintro e w11 ⟨BMa, rfl, hMa, hBn⟩
    replace hB := Below.next hB hBn
    clear hBn
    go_wp2
    refine hK.out _ _ ?_ (fun hHeld => ?_)
    · exact hS.out _ (hB)
    clear hK K
    try simp only [Act.put, List.setIfInBounds_toArray, List.set_cons_zero, List.set_cons_succ]
    refine wpAnyH_ready (rs := [4]) (by kernel_rfl) (by simp) ?_
    refine AllReadyH.cons rfl (fun K hK => ?_) AllReadyH.nil
    dsimp only [List.getElem?_toArray, List.getElem?_cons_succ, List.getElem?_cons_zero, List.getElem_cons_succ, List.getElem_cons_zero, List.getElem_toArray]
    go_simp
    go_at_call 22
    refine (civ.out _ _ _ hMa).mono ?_
    rintro e w12 ⟨hBn, hno, hyes⟩
    replace hB := Below.next hB hBn
    obtain rfl := hno hok
    clear hno hyes hBn hMa
    go_wp2
    refine hK.out _ _ ?_ (fun hHeld => ?_)
    · exact hS.out _ (hB)
    clear hK K
    try simp only [Act.put, List.setIfInBounds_toArray, List.set_cons_zero, List.set_cons_succ]
    refine wpAnyH_take (i := 5) (oi := ?o5q22) (v := ?v5q22) ?hi5q22 (by kernel_rfl) (by kernel_rfl) (by kernel_rfl) (fun _ _ _ h => h) (Or.inl ⟨?hg5q22, ?hy5q22⟩) (by assumption) ?rest5q22
    case hi5q22 => rfl
    case hg5q22 => rfl
    case' hy5q22 =>
      dsimp only [List.getElem?_toArray, List.getElem?_cons_succ, List.getElem?_cons_zero, List.getElem_cons_succ, List.getElem_cons_zero, List.getElem_toArray]
      intro w hSw
      try dsimp only at hSw
      go_simp
      try with_reducible rfl
    case' rest5q22 =>
      dsimp only [List.getElem?_toArray, List.getElem?_cons_succ, List.getElem?_cons_zero, List.getElem_cons_succ, List.getElem_cons_zero, List.getElem_toArray]
      try simp only [Act.put, List.setIfInBounds_toArray, List.set_cons_zero, List.set_cons_succ]
    refine wpAnyH_take (i := 6) (oi := ?o6q23) (v := ?v6q23) ?hi6q23 (by kernel_rfl) (by kernel_rfl) (by kernel_rfl) (fun _ _ _ h => h) (Or.inl ⟨?hg6q23, ?hy6q23⟩) (by assumption) ?rest6q23
    case hi6q23 => rfl
    case hg6q23 => rfl
    case' hy6q23 =>
      dsimp only [List.getElem?_toArray, List.getElem?_cons_succ, List.getElem?_cons_zero, List.getElem_cons_succ, List.getElem_cons_zero, List.getElem_toArray]
      intro w hSw
      try dsimp only at hSw
      go_simp
      try with_reducible rfl
    case' rest6q23 =>
      dsimp only [List.getElem?_toArray, List.getElem?_cons_succ, List.getElem?_cons_zero, List.getElem_cons_succ, List.getElem_cons_zero, List.getElem_toArray]
      try simp only [Act.put, List.setIfInBounds_toArray, List.set_cons_zero, List.set_cons_succ]
    refine wpAnyH_take (i := 7) (oi := ?o7q24) (v := ?v7q24) ?hi7q24 (by kernel_rfl) (by kernel_rfl) (by kernel_rfl) (fun _ _ _ h => h) (Or.inl ⟨?hg7q24, ?hy7q24⟩) (by assumption) ?rest7q24
    case hi7q24 => rfl
    case hg7q24 => rfl
    case' hy7q24 =>
      dsimp only [List.getElem?_toArray, List.getElem?_cons_succ, List.getElem?_cons_zero, List.getElem_cons_succ, List.getElem_cons_zero, List.getElem_toArray]
      intro w hSw
      try dsimp only at hSw
      go_simp
      try with_reducible rfl
    case' rest7q24 =>
      dsimp only [List.getElem?_toArray, List.getElem?_cons_succ, List.getElem?_cons_zero, List.getElem_cons_succ, List.getElem_cons_zero, List.getElem_toArray]
      try simp only [Act.put, List.setIfInBounds_toArray, List.set_cons_zero, List.set_cons_succ]
    refine wpAnyH_take (i := 8) (oi := ?o8q25) (v := ?v8q25) ?hi8q25 (by kernel_rfl) (by kernel_rfl) (by kernel_rfl) (fun _ _ _ h => h) (Or.inl ⟨?hg8q25, ?hy8q25⟩) (by assumption) ?rest8q25
    case hi8q25 => rfl
    case hg8q25 => rfl
    case' hy8q25 =>
      dsimp only [List.getElem?_toArray, List.getElem?_cons_succ, List.getElem?_cons_zero, List.getElem_cons_succ, List.getElem_cons_zero, List.getElem_toArray]
      intro w hSw
      try dsimp only at hSw
      go_simp
      try with_reducible rfl
    case' rest8q25 =>
      dsimp only [List.getElem?_toArray, List.getElem?_cons_succ, List.getElem?_cons_zero, List.getElem_cons_succ, List.getElem_cons_zero, List.getElem_toArray]
      try simp only [Act.put, List.setIfInBounds_toArray, List.set_cons_zero, List.set_cons_succ]
    refine wpAnyH_take (i := 9) (oi := ?o9q26) (v := ?v9q26) ?hi9q26 (by kernel_rfl) (by kernel_rfl) (by kernel_rfl) (fun _ _ _ h => h) (Or.inl ⟨?hg9q26, ?hy9q26⟩) (by assumption) ?rest9q26
    case hi9q26 => rfl
    case hg9q26 => rfl
    case' hy9q26 =>
      dsimp only [List.getElem?_toArray, List.getElem?_cons_succ, List.getElem?_cons_zero, List.getElem_cons_succ, List.getElem_cons_zero, List.getElem_toArray]
      intro w hSw
      try dsimp only at hSw
      go_simp
      try with_reducible rfl
    case' rest9q26 =>
      dsimp only [List.getElem?_toArray, List.getElem?_cons_succ, List.getElem?_cons_zero, List.getElem_cons_succ, List.getElem_cons_zero, List.getElem_toArray]
      try simp only [Act.put, List.setIfInBounds_toArray, List.set_cons_zero, List.set_cons_succ]
    refine wpAnyH_done (by kernel_rfl) ?_ _
    refine NoPanic.normal ?_
    have kB12 : Kept (Below w.heap.size w w12) := ⟨Below.next kB1.out (Below.next kB10.out hB)⟩
    obtain ⟨d0, d1, d2, _, _⟩ := hS.out w12 hB
    have l0 : X7 < w12.heap.size := by have := hB.size; omega
    have l1 : w.heap.size < w12.heap.size := by omega
    clear hB hHeld
    rw [e1] at cr1
    rw [e2] at cr2
    go_wp2_with (first | (go_at_call 14; (first | with_reducible refine use1 (cr1.out _) ?_ | with_reducible refine use (cr1.out _) ?_); intro pw) | (go_at_call 14; (first | with_reducible refine use1 (cr2.out _) ?_ | with_reducible refine use (cr2.out _) ?_); intro pw))
    go_ret
    exact ⟨rfl, Below.later kB12.out _⟩
  · have hok : decide ((elR p 2 2 (iF p 2 (emL p (ax, ay)))).piv.length = 2) = true := decide_eq_true ((em_ok kvd.out (ax, ay)).2 hz)
    go_wp2
    refine wp_region_noPanic ?_
    refine wp_region_held_drew (S := (fun w' => w'.cell? ⟨X7, 0, none⟩ = some (.int .u64 p) ∧ w'.cell? ⟨w.heap.size, 0, none⟩ = some (.int .u64 ax) ∧ w'.cell? ⟨w.heap.size, 1, none⟩ = some (.int .u64 ay) ∧ w'.cell? ⟨w.heap.size + 1, 0, none⟩ = some (.int .u64 bx) ∧ w'.cell? ⟨w.heap.size + 1, 1, none⟩ = some (.int .u64 by'))) (by kernel_rfl) (hS.out _ (by repeat (first | exact Below.refl _ _ | refine Below.later ?_ _ | refine Below.box ?_ _ | refine Below.drew ?_ | refine Below.put ?_ (by dsimp only; omega) _))) (fun hHeld => ?_)
    refine wpAnyH_take (i := 0) (oi := ?o0q27) (v := ?v0q27) ?hi0q27 (by kernel_rfl) (by kernel_rfl) (by kernel_rfl) (fun _ _ _ h => h) (Or.inl ⟨?hg0q27, ?hy0q27⟩) (by assumption) ?rest0q27
    case hi0q27 => rfl
    case hg0q27 => rfl
    case' hy0q27 =>
      dsimp only [List.getElem?_toArray, List.getElem?_cons_succ, List.getElem?_cons_zero, List.getElem_cons_succ, List.getElem_cons_zero, List.getElem_toArray]
      intro w hSw
      try dsimp only at hSw
      go_simp
      try with_reducible rfl
    case' rest0q27 =>
      dsimp only [List.getElem?_toArray, List.getElem?_cons_succ, List.getElem?_cons_zero, List.getElem_cons_succ, List.getElem_cons_zero, List.getElem_toArray]
      try simp only [Act.put, List.setIfInBounds_toArray, List.set_cons_zero, List.set_cons_succ]
    refine wpAnyH_take (i := 1) (oi := ?o1q28) (v := ?v1q28) ?hi1q28 (by kernel_rfl) (by kernel_rfl) (by kernel_rfl) (fun _ _ _ h => h) (Or.inl ⟨?hg1q28, ?hy1q28⟩) (by assumption) ?rest1q28
    case hi1q28 => rfl
    case hg1q28 => rfl
    case' hy1q28 =>
      dsimp only [List.getElem?_toArray, List.getElem?_cons_succ, List.getElem?_cons_zero, List.getElem_cons_succ, List.getElem_cons_zero, List.getElem_toArray]
      intro w hSw
      try dsimp only at hSw
      go_simp
      try with_reducible rfl
    case' rest1q28 =>
      dsimp only [List.getElem?_toArray, List.getElem?_cons_succ, List.getElem?_cons_zero, List.getElem_cons_succ, List.getElem_cons_zero, List.getElem_toArray]
      try simp only [Act.put, List.setIfInBounds_toArray, List.set_cons_zero, List.set_cons_succ]
    refine wpAnyH_take (i := 2) (oi := ?o2q29) (v := ?v2q29) ?hi2q29 (by kernel_rfl) (by kernel_rfl) (by kernel_rfl) (fun _ _ _ h => h) (Or.inl ⟨?hg2q29, ?hy2q29⟩) (by assumption) ?rest2q29
    case hi2q29 => rfl
    case hg2q29 => rfl
    case' hy2q29 =>
      dsimp only [List.getElem?_toArray, List.getElem?_cons_succ, List.getElem?_cons_zero, List.getElem_cons_succ, List.getElem_cons_zero, List.getElem_toArray]
      intro w hSw
      try dsimp only at hSw
      go_simp
      try with_reducible rfl
    case' rest2q29 =>
      dsimp only [List.getElem?_toArray, List.getElem?_cons_succ, List.getElem?_cons_zero, List.getElem_cons_succ, List.getElem_cons_zero, List.getElem_toArray]
      try simp only [Act.put, List.setIfInBounds_toArray, List.set_cons_zero, List.set_cons_succ]
    have hB : Below w10.heap.size w10 w10.drew := (by repeat (first | exact Below.refl _ _ | refine Below.later ?_ _ | refine Below.box ?_ _ | refine Below.drew ?_ | refine Below.put ?_ (by dsimp only; omega) _))
    refine wpAnyH_ready (rs := [3]) (by kernel_rfl) (by simp) ?_
    refine AllReadyH.cons rfl (fun K hK => ?_) AllReadyH.nil
    dsimp only [List.getElem?_toArray, List.getElem?_cons_succ, List.getElem?_cons_zero, List.getElem_cons_succ, List.getElem_cons_zero, List.getElem_toArray]
    go_simp
    go_at_call 13
    refine (cem.out (ax, ay) X7 _ kua.out (by have := hB.size; omega) (hS.out _ hB).1).mono ?_
    rintro e w11 ⟨BMa, rfl, hMa, hBn⟩
    replace hB := Below.next hB hBn
    clear hBn
    go_wp2
    refine hK.out _ _ ?_ (fun hHeld => ?_)
    · exact hS.out _ (hB)
    clear hK K
    try simp only [Act.put, List.setIfInBounds_toArray, List.set_cons_zero, List.set_cons_succ]
    refine wpAnyH_ready (rs := [4]) (by kernel_rfl) (by simp) ?_
    refine AllReadyH.cons rfl (fun K hK => ?_) AllReadyH.nil
    dsimp only [List.getElem?_toArray, List.getElem?_cons_succ, List.getElem?_cons_zero, List.getElem_cons_succ, List.getElem_cons_zero, List.getElem_toArray]
    go_simp
    go_at_call 22
    refine (civ.out _ _ _ hMa).mono ?_
    rintro e w12 ⟨hBn, hno, hyes⟩
    replace hB := Below.next hB hBn
    obtain ⟨BV, bfv, cfv, rfl, hMx⟩ := hyes hok
    have kMv : Kept (Mt w12 (some ⟨BV, 0, none⟩) (emL p (xinv p (ax, ay)))) := ⟨by
      have h4 := elR_ok (n := 2) (m := 4) (f := iF p 2 (emL p (ax, ay))) kvd.out (fun i j _ _ => iF_lt kvd.out 2 _ i j) 2
      have := hMx.mt (by omega) (by omega) (fun i j hi hj => ⟨(h4.el i (2 + j) hi (by omega)).1, by have := (h4.el i (2 + j) hi (by omega)).2; omega⟩)
      rw [em_inv kvd.out (ax, ay) hz] at this; exact this⟩
    clear hno hyes hBn hMa hMx
    go_wp2
    refine hK.out _ _ ?_ (fun hHeld => ?_)
    · exact hS.out _ (hB)
    clear hK K
    try simp only [Act.put, List.setIfInBounds_toArray, List.set_cons_zero, List.set_cons_succ]
    refine wpAnyH_take (i := 5) (oi := ?o5q30) (v := ?v5q30) ?hi5q30 (by kernel_rfl) (by kernel_rfl) (by kernel_rfl) (fun _ _ _ h => h) (Or.inl ⟨?hg5q30, ?hy5q30⟩) (by assumption) ?rest5q30
    case hi5q30 => rfl
    case hg5q30 => rfl
    case' hy5q30 =>
      dsimp only [List.getElem?_toArray, List.getElem?_cons_succ, List.getElem?_cons_zero, List.getElem_cons_succ, List.getElem_cons_zero, List.getElem_toArray]
      intro w hSw
      try dsimp only at hSw
      go_simp
      try with_reducible rfl
    case' rest5q30 =>
      dsimp only [List.getElem?_toArray, List.getElem?_cons_succ, List.getElem?_cons_zero, List.getElem_cons_succ, List.getElem_cons_zero, List.getElem_toArray]
      try simp only [Act.put, List.setIfInBounds_toArray, List.set_cons_zero, List.set_cons_succ]
    refine wpAnyH_take (i := 6) (oi := ?o6q31) (v := ?v6q31) ?hi6q31 (by kernel_rfl) (by kernel_rfl) (by kernel_rfl) (fun _ _ _ h => h) (Or.inl ⟨?hg6q31, ?hy6q31⟩) (by assumption) ?rest6q31
    case hi6q31 => rfl
    case hg6q31 => rfl
    case' hy6q31 =>
      dsimp only [List.getElem?_toArray, List.getElem?_cons_succ, List.getElem?_cons_zero, List.getElem_cons_succ, List.getElem_cons_zero, List.getElem_toArray]
      intro w hSw
      try dsimp only at hSw
      go_simp
      try with_reducible rfl
    case' rest6q31 =>
      dsimp only [List.getElem?_toArray, List.getElem?_cons_succ, List.getElem?_cons_zero, List.getElem_cons_succ, List.getElem_cons_zero, List.getElem_toArray]
      try simp only [Act.put, List.setIfInBounds_toArray, List.set_cons_zero, List.set_cons_succ]
    refine wpAnyH_take (i := 7) (oi := ?o7q32) (v := ?v7q32) ?hi7q32 (by kernel_rfl) (by kernel_rfl) (by kernel_rfl) (fun _ _ _ h => h) (Or.inl ⟨?hg7q32, ?hy7q32⟩) (by assumption) ?rest7q32
    case hi7q32 => rfl
    case hg7q32 => rfl
    case' hy7q32 =>
      dsimp only [List.getElem?_toArray, List.getElem?_cons_succ, List.getElem?_cons_zero, List.getElem_cons_succ, List.getElem_cons_zero, List.getElem_toArray]
      intro w hSw
      try dsimp only at hSw
      go_simp
      try with_reducible rfl
    case' rest7q32 =>
      dsimp only [List.getElem?_toArray, List.getElem?_cons_succ, List.getElem?_cons_zero, List.getElem_cons_succ, List.getElem_cons_zero, List.getElem_toArray]
      try simp only [Act.put, List.setIfInBounds_toArray, List.set_cons_zero, List.set_cons_succ]
    refine wpAnyH_take (i := 8) (oi := ?o8q33) (v := ?v8q33) ?hi8q33 (by kernel_rfl) (by kernel_rfl) (by kernel_rfl) (fun _ _ _ h => h) (Or.inl ⟨?hg8q33, ?hy8q33⟩) (by assumption) ?rest8q33
    case hi8q33 => rfl
    case hg8q33 => rfl
    case' hy8q33 =>
      dsimp only [List.getElem?_toArray, List.getElem?_cons_succ, List.getElem?_cons_zero, List.getElem_cons_succ, List.getElem_cons_zero, List.getElem_toArray]
      intro w hSw
      try dsimp only at hSw
      go_simp
      try with_reducible rfl
    case' rest8q33 =>
      dsimp only [List.getElem?_toArray, List.getElem?_cons_succ, List.getElem?_cons_zero, List.getElem_cons_succ, List.getElem_cons_zero, List.getElem_toArray]
      try simp only [Act.put, List.setIfInBounds_toArray, List.set_cons_zero, List.set_cons_succ]
    refine wpAnyH_take (i := 9) (oi := ?o9q34) (v := ?v9q34) ?hi9q34 (by kernel_rfl) (by kernel_rfl) (by kernel_rfl) (fun _ _ _ h => h) (Or.inl ⟨?hg9q34, ?hy9q34⟩) (by assumption) ?rest9q34
    case hi9q34 => rfl
    case hg9q34 => rfl
    case' hy9q34 =>
      dsimp only [List.getElem?_toArray, List.getElem?_cons_succ, List.getElem?_cons_zero, List.getElem_cons_succ, List.getElem_cons_zero, List.getElem_toArray]
      intro w hSw
      try dsimp only at hSw
      go_simp
      try with_reducible rfl
    case' rest9q34 =>
      dsimp only [List.getElem?_toArray, List.getElem?_cons_succ, List.getElem?_cons_zero, List.getElem_cons_succ, List.getElem_cons_zero, List.getElem_toArray]
      try simp only [Act.put, List.setIfInBounds_toArray, List.set_cons_zero, List.set_cons_succ]
    refine wpAnyH_done (by kernel_rfl) ?_ _
    refine NoPanic.normal ?_
    have kB12 : Kept (Below w.heap.size w w12) := ⟨Below.next kB1.out (Below.next kB10.out hB)⟩
    obtain ⟨d0, d1, d2, _, _⟩ := hS.out w12 hB
    have l0 : X7 < w12.heap.size := by have := hB.size; omega
    have l1 : w.heap.size < w12.heap.size := by omega
    clear hB hHeld
    by_cases e1 : fred p ax = 0
    · have hb2 : (fred p ay == 0) = false := by
        have : ¬ fred p ay = 0 := fun e2 => hz ⟨by rw [← kfr.out]; exact e1, by rw [← kfr.out]; exact e2⟩
        simpa using this
      rw [e1] at cr1
      clear hz hok
      generalize fred p ay = f1 at *
      go_wp2_with (first | (go_at_call 14; (first | with_reducible refine use1 (cr1.out _) ?_ | with_reducible refine use (cr1.out _) ?_); intro pw) | (go_at_call 14; (first | with_reducible refine use1 (cr2.out _) ?_ | with_reducible refine use (cr2.out _) ?_); intro pw) | (go_at_call 23; (first | with_reducible refine use1 (cxi.out _) ?_ | with_reducible refine use (cxi.out _) ?_); intro pw) | (go_at_call 13; refine Stop.out ?_))
      refine ⟨?_⟩
      refine call_genE (fun W' => Below w12.heap.size w12 W') ?fxa ?_
      case fxa => exact (by repeat (first | exact Below.refl _ _ | refine Below.later ?_ _ | refine Below.box ?_ _ | refine Below.drew ?_ | refine Below.put ?_ (by dsimp only; omega) _))
      intro W13 hB13
      refine (cem.out (xinv p (ax, ay)) X7 W13 xinv_U (by have := hB13.size; omega) (by rw [hB13.cell (p := ⟨X7, 0, none⟩) l0]; exact d0)).mono ?_
      rintro e w14 ⟨BI, rfl, hMi, hB14⟩
      have kMi := (⟨hMi⟩ : Kept _)
      have kMv2 := (⟨kMv.out.below (Nat.le_refl _) (Below.next hB13 hB14)⟩ : Kept _)
      have kB14 : Kept (Below w.heap.size w w14) := ⟨Below.next kB12.out (Below.next hB13 hB14)⟩
      clear hMi hB13 hB14 d0 d1 d2 l0 l1 kMv
      go_wp2_with (first | (go_at_call 17; (first | with_reducible refine use1 (csa.out _ _ _ _ _ _ kMv2.out kMi.out) ?_ | with_reducible refine use (csa.out _ _ _ _ _ _ kMv2.out kMi.out) ?_); intro pw))
      go_ret
      exact ⟨rfl, Below.later kB14.out _⟩
    · have hb1 : (fred p ax == 0) = false := by simpa using e1
      clear hz hok e1
      generalize fred p ax = f0 at *
      go_wp2_with (first | (go_at_call 14; (first | with_reducible refine use1 (cr1.out _) ?_ | with_reducible refine use (cr1.out _) ?_); intro pw) | (go_at_call 14; (first | with_reducible refine use1 (cr2.out _) ?_ | with_reducible refine use (cr2.out _) ?_); intro pw) | (go_at_call 23; (first | with_reducible refine use1 (cxi.out _) ?_ | with_reducible refine use (cxi.out _) ?_); intro pw) | (go_at_call 13; refine Stop.out ?_))
      refine ⟨?_⟩
      refine call_genE (fun W' => Below w12.heap.size w12 W') ?fxb ?_
      case fxb => exact (by repeat (first | exact Below.refl _ _ | refine Below.later ?_ _ | refine Below.box ?_ _ | refine Below.drew ?_ | refine Below.put ?_ (by dsimp only; omega) _))
      intro W13 hB13
      refine (cem.out (xinv p (ax, ay)) X7 W13 xinv_U (by have := hB13.size; omega) (by rw [hB13.cell (p := ⟨X7, 0, none⟩) l0]; exact d0)).mono ?_
      rintro e w14 ⟨BI, rfl, hMi, hB14⟩
      have kMi := (⟨hMi⟩ : Kept _)
      have kMv2 := (⟨kMv.out.below (Nat.le_refl _) (Below.next hB13 hB14)⟩ : Kept _)
      have kB14 : Kept (Below w.heap.size w w14) := ⟨Below.next kB12.out (Below.next hB13 hB14)⟩
      clear hMi hB13 hB14 d0 d1 d2 l0 l1 kMv
      go_wp2_with (first | (go_at_call 17; (first | with_reducible refine use1 (csa.out _ _ _ _ _ _ kMv2.out kMi.out) ?_ | with_reducible refine use (csa.out _ _ _ _ _ _ kMv2.out kMi.out) ?_); intro pw))
      go_ret
      exact ⟨rfl, Below.later kB14.out _⟩
set_option maxRecDepth 100000 in
theorem lifted (os : Os) (started : os.Started) (H : Type) (enc : TypeId × Value → H) :
    ReturnsInHanded {} Try.checked os 3 .any (Rows.topExtensionMatrixSpec.pre6 enc Try.prog Try.f3 Rows.topExtensionMatrixRow.domain false) (Rows.topExtensionMatrixSpec.post enc Try.prog Try.f3 false true false false) := by
  refine returnsInHanded_of_change (C := Try.checked) own started (by kernel_rfl) Try.func3
    (ChangeSpec.witness6 (enc := enc) (C := Try.checked) false ⟨#[], #[.int .u8 0, .agg #[.int .u64 0, .int .u64 0], .agg #[.int .u64 0, .int .u64 0]], []⟩ 8 (by kernel_rfl) (by kernel_rfl) (by kernel_rfl) (by kernel_rfl)) ?_
  intro W base args ds gs before hval0 hW hcnd _
  have hval : ∀ (j : Nat) t v, Try.f3.params[j]? = some t → args[j]? = some v → Value.okWide Try.prog W .any base t v := hval0
  have hW0 : DataW.Whole enc Try.prog Try.f3.params.toList Rows.topExtensionMatrixSpec.vars false W args.toList ds gs before := hW
  obtain ⟨p, q, hA0, hV, rfl, _, _⟩ := hW
  have hA : DataW.TrodAll enc Try.prog W 0 (fun _ => true) true Try.f3.params.toList args.toList ds p := hA0
  rw [Try.params3] at hA hval
  obtain ⟨v0, vs0, d0, ds0, p0, q0, hargs, rfl, rfl, h0, r0⟩ := trodAll_cons hA
  obtain ⟨v1, vs1, d1, ds1, p1, q1, rfl, rfl, rfl, h1, r1⟩ := trodAll_cons r0
  obtain ⟨v2, vs2, d2, ds2, p2, q2, rfl, rfl, rfl, h2, r2⟩ := trodAll_cons r1
  obtain ⟨rfl, rfl, rfl⟩ := trodAll_nil r2
  obtain rfl : args = #[v0, v1, v2] := by cases args; simp_all
  obtain ⟨rfl, rfl⟩ := trodVars_none hV
  obtain ⟨a0, rfl, u0⟩ := open_u8 (hval 0 5 v0 rfl rfl)
  obtain ⟨a1x, a1y, rfl, u1⟩ := open_pair (hval 1 23 v1 rfl rfl)
  obtain ⟨a2x, a2y, rfl, u2⟩ := open_pair (hval 2 23 v2 rfl rfl)
  clear hA0 hval0
  refine (walk a0 u0 a1x a1y u1 a2x a2y u2 W).mono fun e W' ⟨he, hb⟩ => ⟨.bool true, he, ?_⟩
  exact law_post (fun t ht => by have ht' : t ∈ [5, 23, 23] := ht; simp only [List.mem_cons, List.not_mem_nil, or_false] at ht'; rcases ht' with rfl | rfl | rfl <;> exact ⟨by kernel_rfl, of_decide_eq_true (by kernel_rfl)⟩) rfl rfl hW0 rfl hb

theorem over : Rows.topExtensionMatrixRow.holds Try.pinned (OpenSpec.ofChange Rows.topExtensionMatrixSpec) :=
  OpenClaim.holds_of_wide 3 Try.f3 rfl rfl rfl rfl rfl rfl rfl ⟨rfl, rfl, rfl, rfl, rfl⟩ rfl rfl rfl rfl rfl (by kernel_rfl) Try.func3 (by kernel_rfl)
    (of_decide_eq_true (by kernel_rfl)) (by unfold Func.isWrapper; first | (rw [if_pos (by decide +kernel)]; kernel_rfl) | (rw [if_neg (by decide +kernel)]; exact ⟨rfl, rfl⟩))
    (fun os started H enc _ => lifted os started H enc)

/-- The statement. -/
theorem proved : Rows.TopExtensionMatrixSaid := over
#print axioms proved
end Go.Proofs.Ytjnlnbkdnjainaa.topExtensionMatrix
