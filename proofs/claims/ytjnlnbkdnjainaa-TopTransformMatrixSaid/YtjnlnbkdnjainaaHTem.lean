/- TopExtensionMatrix's own function: the matrix of an element. -/
import Derived.Test.YtjnlnbkdnjainaaHTaw
namespace Go.Proofs.Ytjnlnbkdnjainaa
open Go.RowKit Go.Sort

set_option maxRecDepth 100000
/-- The matrix of an element of the extension. -/
def emL (p : Int) (x : Int × Int) : List (List Int) := [[fred p x.1, fmul p x.2 (gen p)], [fred p x.2, fred p x.1]]
def GivesEm (p : Int) (x : Int × Int) (w : World) (e : Ending) (w' : World) : Prop := ∃ B, e = .returned (.slice (some ⟨B, 0, none⟩) 2 2) ∧ Mt w' (some ⟨B, 0, none⟩) (emL p x) ∧ Below w.heap.size w w'
theorem fred_U5 {p a : Int} : U (fred p a) := fred_U
set_option maxHeartbeats 16000000 in
theorem em_c (p : Int) (x : Int × Int) (X : Nat) (w : World) (hx : U2 x) (hX : X < w.heap.size) (hc : w.cell? ⟨X, 0, none⟩ = some (.int .u64 p)) : Calls Try.prog 13 #[.agg #[.int .u64 x.1, .int .u64 x.2], .pointer (some ⟨X, 0, none⟩)] w (GivesEm p x w) := by
  have c1 : Kept (∀ w, Calls Try.prog 14 #[.agg #[.int .u64 p], .int .u64 x.1] w (Gives (.int .u64 (fred p x.1)) w)) := ⟨fun w => red_c p x.1 w hx.1⟩
  have c2 : Kept (∀ w, Calls Try.prog 14 #[.agg #[.int .u64 p], .int .u64 x.2] w (Gives (.int .u64 (fred p x.2)) w)) := ⟨fun w => red_c p x.2 w hx.2⟩
  have c3 : Kept (∀ w, Calls Try.prog 16 #[.agg #[.int .u64 p]] w (Gives (.int .u64 (gen p)) w)) := ⟨fun w => gen_c p w⟩
  have c4 : Kept (∀ w, Calls Try.prog 15 #[.agg #[.int .u64 p], .int .u64 x.2, .int .u64 (gen p)] w (Gives (.int .u64 (fmul p x.2 (gen p))) w)) := ⟨fun w => mul_c p x.2 (gen p) w hx.2 gen_U⟩
  have kem : Kept (emL p x = [[fred p x.1, fmul p x.2 (gen p)], [fred p x.2, fred p x.1]]) := ⟨rfl⟩
  have hu1 : U (fred p x.1) := fred_U
  have hu2 : U (fred p x.2) := fred_U
  have hu3 : U (fmul p x.2 (gen p)) := fmul_U
  unfold GivesEm
  obtain ⟨x0, x1⟩ := x
  simp only at *
  generalize fred p x0 = r0 at *
  generalize fred p x1 = r1 at *
  generalize fmul p x1 (gen p) = r2 at *
  generalize gen p = gg at *
  clear hx
  go_enter Try.func13, Try.ntmps13
  go_wp2
  obtain ⟨W1, hW1⟩ : ∃ W1, W1 = w.alloc (.cells #[.int .u64 x0, .int .u64 x1] 23) := ⟨_, rfl⟩
  have hB1 : Below w.heap.size w W1 := by rw [hW1]; exact (by repeat (first | exact Below.refl _ _ | refine Below.later ?_ _ | refine Below.box ?_ _ | refine Below.drew ?_ | refine Below.put ?_ (by dsimp only; omega) _))
  have hs1 : W1.heap.size = w.heap.size + 1 := by rw [hW1]; simp
  have d1 : W1.cell? ⟨w.heap.size, 0, none⟩ = some (.int .u64 x0) := by rw [hW1]; simp [go_sem]
  have d2 : W1.cell? ⟨w.heap.size, 1, none⟩ = some (.int .u64 x1) := by rw [hW1]; simp [go_sem]
  have d3 : W1.cell? ⟨X, 0, none⟩ = some (.int .u64 p) := by rw [hB1.cell (p := ⟨X, 0, none⟩) hX]; exact hc
  rw [← hW1]
  have hS : Kept (∀ w', Below W1.heap.size W1 w' → w'.cell? ⟨X, 0, none⟩ = some (.int .u64 p) ∧ w'.cell? ⟨w.heap.size, 0, none⟩ = some (.int .u64 x0) ∧ w'.cell? ⟨w.heap.size, 1, none⟩ = some (.int .u64 x1)) := ⟨fun w' hw => ⟨by rw [hw.cell (p := ⟨X, 0, none⟩) (by show X < _; omega)]; exact d3, by rw [hw.cell (p := ⟨w.heap.size, 0, none⟩) (by show w.heap.size < _; omega)]; exact d1, by rw [hw.cell (p := ⟨w.heap.size, 1, none⟩) (by show w.heap.size < _; omega)]; exact d2⟩⟩
  have kB1 := (⟨hB1⟩ : Kept _)
  clear hB1 hW1 d1 d2 d3 hc hX hs1
  refine wp_region_noPanic ?_
  refine wp_region_held_drew (S := (fun w' => w'.cell? ⟨X, 0, none⟩ = some (.int .u64 p) ∧ w'.cell? ⟨w.heap.size, 0, none⟩ = some (.int .u64 x0) ∧ w'.cell? ⟨w.heap.size, 1, none⟩ = some (.int .u64 x1))) (by kernel_rfl) (hS.out _ (by repeat (first | exact Below.refl _ _ | refine Below.later ?_ _ | refine Below.box ?_ _ | refine Below.drew ?_ | refine Below.put ?_ (by dsimp only; omega) _))) (fun hHeld => ?_)
  refine wpAnyH_take (i := 0) (oi := ?o0q1) (v := ?v0q1) ?hi0q1 (by kernel_rfl) (by kernel_rfl) (by kernel_rfl) (fun _ _ _ h => h) (Or.inl ⟨?hg0q1, ?hy0q1⟩) (by assumption) ?rest0q1
  case hi0q1 => rfl
  case hg0q1 => rfl
  case' hy0q1 =>
    dsimp only [List.getElem?_toArray, List.getElem?_cons_succ, List.getElem?_cons_zero, List.getElem_cons_succ, List.getElem_cons_zero, List.getElem_toArray]
    intro w hSw
    try dsimp only at hSw
    go_simp
    try with_reducible rfl
  case' rest0q1 =>
    dsimp only [List.getElem?_toArray, List.getElem?_cons_succ, List.getElem?_cons_zero, List.getElem_cons_succ, List.getElem_cons_zero, List.getElem_toArray]
    try simp only [Act.put, List.setIfInBounds_toArray, List.set_cons_zero, List.set_cons_succ]
  refine wpAnyH_take (i := 1) (oi := ?o1q2) (v := ?v1q2) ?hi1q2 (by kernel_rfl) (by kernel_rfl) (by kernel_rfl) (fun _ _ _ h => h) (Or.inl ⟨?hg1q2, ?hy1q2⟩) (by assumption) ?rest1q2
  case hi1q2 => rfl
  case hg1q2 => rfl
  case' hy1q2 =>
    dsimp only [List.getElem?_toArray, List.getElem?_cons_succ, List.getElem?_cons_zero, List.getElem_cons_succ, List.getElem_cons_zero, List.getElem_toArray]
    intro w hSw
    try dsimp only at hSw
    go_simp
    try with_reducible rfl
  case' rest1q2 =>
    dsimp only [List.getElem?_toArray, List.getElem?_cons_succ, List.getElem?_cons_zero, List.getElem_cons_succ, List.getElem_cons_zero, List.getElem_toArray]
    try simp only [Act.put, List.setIfInBounds_toArray, List.set_cons_zero, List.set_cons_succ]
  refine wpAnyH_take (i := 2) (oi := ?o2q3) (v := ?v2q3) ?hi2q3 (by kernel_rfl) (by kernel_rfl) (by kernel_rfl) (fun _ _ _ h => h) (Or.inl ⟨?hg2q3, ?hy2q3⟩) (by assumption) ?rest2q3
  case hi2q3 => rfl
  case hg2q3 => rfl
  case' hy2q3 =>
    dsimp only [List.getElem?_toArray, List.getElem?_cons_succ, List.getElem?_cons_zero, List.getElem_cons_succ, List.getElem_cons_zero, List.getElem_toArray]
    intro w hSw
    try dsimp only at hSw
    go_simp
    try with_reducible rfl
  case' rest2q3 =>
    dsimp only [List.getElem?_toArray, List.getElem?_cons_succ, List.getElem?_cons_zero, List.getElem_cons_succ, List.getElem_cons_zero, List.getElem_toArray]
    try simp only [Act.put, List.setIfInBounds_toArray, List.set_cons_zero, List.set_cons_succ]
  refine wpAnyH_take (i := 4) (oi := ?o4q4) (v := ?v4q4) ?hi4q4 (by kernel_rfl) (by kernel_rfl) (by kernel_rfl) (fun _ _ _ h => h) (Or.inl ⟨?hg4q4, ?hy4q4⟩) (by assumption) ?rest4q4
  case hi4q4 => rfl
  case hg4q4 => rfl
  case' hy4q4 =>
    dsimp only [List.getElem?_toArray, List.getElem?_cons_succ, List.getElem?_cons_zero, List.getElem_cons_succ, List.getElem_cons_zero, List.getElem_toArray]
    intro w hSw
    try dsimp only at hSw
    go_simp
    try with_reducible rfl
  case' rest4q4 =>
    dsimp only [List.getElem?_toArray, List.getElem?_cons_succ, List.getElem?_cons_zero, List.getElem_cons_succ, List.getElem_cons_zero, List.getElem_toArray]
    try simp only [Act.put, List.setIfInBounds_toArray, List.set_cons_zero, List.set_cons_succ]
  refine wpAnyH_take (i := 5) (oi := ?o5q5) (v := ?v5q5) ?hi5q5 (by kernel_rfl) (by kernel_rfl) (by kernel_rfl) (fun _ _ _ h => h) (Or.inl ⟨?hg5q5, ?hy5q5⟩) (by assumption) ?rest5q5
  case hi5q5 => rfl
  case hg5q5 => rfl
  case' hy5q5 =>
    dsimp only [List.getElem?_toArray, List.getElem?_cons_succ, List.getElem?_cons_zero, List.getElem_cons_succ, List.getElem_cons_zero, List.getElem_toArray]
    intro w hSw
    try dsimp only at hSw
    go_simp
    try with_reducible rfl
  case' rest5q5 =>
    dsimp only [List.getElem?_toArray, List.getElem?_cons_succ, List.getElem?_cons_zero, List.getElem_cons_succ, List.getElem_cons_zero, List.getElem_toArray]
    try simp only [Act.put, List.setIfInBounds_toArray, List.set_cons_zero, List.set_cons_succ]
  refine wpAnyH_take (i := 6) (oi := ?o6q6) (v := ?v6q6) ?hi6q6 (by kernel_rfl) (by kernel_rfl) (by kernel_rfl) (fun _ _ _ h => h) (Or.inl ⟨?hg6q6, ?hy6q6⟩) (by assumption) ?rest6q6
  case hi6q6 => rfl
  case hg6q6 => rfl
  case' hy6q6 =>
    dsimp only [List.getElem?_toArray, List.getElem?_cons_succ, List.getElem?_cons_zero, List.getElem_cons_succ, List.getElem_cons_zero, List.getElem_toArray]
    intro w hSw
    try dsimp only at hSw
    go_simp
    try with_reducible rfl
  case' rest6q6 =>
    dsimp only [List.getElem?_toArray, List.getElem?_cons_succ, List.getElem?_cons_zero, List.getElem_cons_succ, List.getElem_cons_zero, List.getElem_toArray]
    try simp only [Act.put, List.setIfInBounds_toArray, List.set_cons_zero, List.set_cons_succ]
  refine wpAnyH_take (i := 7) (oi := ?o7q7) (v := ?v7q7) ?hi7q7 (by kernel_rfl) (by kernel_rfl) (by kernel_rfl) (fun _ _ _ h => h) (Or.inl ⟨?hg7q7, ?hy7q7⟩) (by assumption) ?rest7q7
  case hi7q7 => rfl
  case hg7q7 => rfl
  case' hy7q7 =>
    dsimp only [List.getElem?_toArray, List.getElem?_cons_succ, List.getElem?_cons_zero, List.getElem_cons_succ, List.getElem_cons_zero, List.getElem_toArray]
    intro w hSw
    try dsimp only at hSw
    go_simp
    try with_reducible rfl
  case' rest7q7 =>
    dsimp only [List.getElem?_toArray, List.getElem?_cons_succ, List.getElem?_cons_zero, List.getElem_cons_succ, List.getElem_cons_zero, List.getElem_toArray]
    try simp only [Act.put, List.setIfInBounds_toArray, List.set_cons_zero, List.set_cons_succ]
  refine wpAnyH_take (i := 11) (oi := ?o11q8) (v := ?v11q8) ?hi11q8 (by kernel_rfl) (by kernel_rfl) (by kernel_rfl) (fun _ _ _ h => h) (Or.inl ⟨?hg11q8, ?hy11q8⟩) (by assumption) ?rest11q8
  case hi11q8 => rfl
  case hg11q8 => rfl
  case' hy11q8 =>
    dsimp only [List.getElem?_toArray, List.getElem?_cons_succ, List.getElem?_cons_zero, List.getElem_cons_succ, List.getElem_cons_zero, List.getElem_toArray]
    intro w hSw
    try dsimp only at hSw
    go_simp
    try with_reducible rfl
  case' rest11q8 =>
    dsimp only [List.getElem?_toArray, List.getElem?_cons_succ, List.getElem?_cons_zero, List.getElem_cons_succ, List.getElem_cons_zero, List.getElem_toArray]
    try simp only [Act.put, List.setIfInBounds_toArray, List.set_cons_zero, List.set_cons_succ]
  refine wpAnyH_take (i := 12) (oi := ?o12q9) (v := ?v12q9) ?hi12q9 (by kernel_rfl) (by kernel_rfl) (by kernel_rfl) (fun _ _ _ h => h) (Or.inl ⟨?hg12q9, ?hy12q9⟩) (by assumption) ?rest12q9
  case hi12q9 => rfl
  case hg12q9 => rfl
  case' hy12q9 =>
    dsimp only [List.getElem?_toArray, List.getElem?_cons_succ, List.getElem?_cons_zero, List.getElem_cons_succ, List.getElem_cons_zero, List.getElem_toArray]
    intro w hSw
    try dsimp only at hSw
    go_simp
    try with_reducible rfl
  case' rest12q9 =>
    dsimp only [List.getElem?_toArray, List.getElem?_cons_succ, List.getElem?_cons_zero, List.getElem_cons_succ, List.getElem_cons_zero, List.getElem_toArray]
    try simp only [Act.put, List.setIfInBounds_toArray, List.set_cons_zero, List.set_cons_succ]
  refine wpAnyH_take (i := 13) (oi := ?o13q10) (v := ?v13q10) ?hi13q10 (by kernel_rfl) (by kernel_rfl) (by kernel_rfl) (fun _ _ _ h => h) (Or.inl ⟨?hg13q10, ?hy13q10⟩) (by assumption) ?rest13q10
  case hi13q10 => rfl
  case hg13q10 => rfl
  case' hy13q10 =>
    dsimp only [List.getElem?_toArray, List.getElem?_cons_succ, List.getElem?_cons_zero, List.getElem_cons_succ, List.getElem_cons_zero, List.getElem_toArray]
    intro w hSw
    try dsimp only at hSw
    go_simp
    try with_reducible rfl
  case' rest13q10 =>
    dsimp only [List.getElem?_toArray, List.getElem?_cons_succ, List.getElem?_cons_zero, List.getElem_cons_succ, List.getElem_cons_zero, List.getElem_toArray]
    try simp only [Act.put, List.setIfInBounds_toArray, List.set_cons_zero, List.set_cons_succ]
  refine wpAnyH_take (i := 15) (oi := ?o15q11) (v := ?v15q11) ?hi15q11 (by kernel_rfl) (by kernel_rfl) (by kernel_rfl) (fun _ _ _ h => h) (Or.inl ⟨?hg15q11, ?hy15q11⟩) (by assumption) ?rest15q11
  case hi15q11 => rfl
  case hg15q11 => rfl
  case' hy15q11 =>
    dsimp only [List.getElem?_toArray, List.getElem?_cons_succ, List.getElem?_cons_zero, List.getElem_cons_succ, List.getElem_cons_zero, List.getElem_toArray]
    intro w hSw
    try dsimp only at hSw
    go_simp
    try with_reducible rfl
  case' rest15q11 =>
    dsimp only [List.getElem?_toArray, List.getElem?_cons_succ, List.getElem?_cons_zero, List.getElem_cons_succ, List.getElem_cons_zero, List.getElem_toArray]
    try simp only [Act.put, List.setIfInBounds_toArray, List.set_cons_zero, List.set_cons_succ]
  refine wpAnyH_take (i := 16) (oi := ?o16q12) (v := ?v16q12) ?hi16q12 (by kernel_rfl) (by kernel_rfl) (by kernel_rfl) (fun _ _ _ h => h) (Or.inl ⟨?hg16q12, ?hy16q12⟩) (by assumption) ?rest16q12
  case hi16q12 => rfl
  case hg16q12 => rfl
  case' hy16q12 =>
    dsimp only [List.getElem?_toArray, List.getElem?_cons_succ, List.getElem?_cons_zero, List.getElem_cons_succ, List.getElem_cons_zero, List.getElem_toArray]
    intro w hSw
    try dsimp only at hSw
    go_simp
    try with_reducible rfl
  case' rest16q12 =>
    dsimp only [List.getElem?_toArray, List.getElem?_cons_succ, List.getElem?_cons_zero, List.getElem_cons_succ, List.getElem_cons_zero, List.getElem_toArray]
    try simp only [Act.put, List.setIfInBounds_toArray, List.set_cons_zero, List.set_cons_succ]
  refine wpAnyH_take (i := 17) (oi := ?o17q13) (v := ?v17q13) ?hi17q13 (by kernel_rfl) (by kernel_rfl) (by kernel_rfl) (fun _ _ _ h => h) (Or.inl ⟨?hg17q13, ?hy17q13⟩) (by assumption) ?rest17q13
  case hi17q13 => rfl
  case hg17q13 => rfl
  case' hy17q13 =>
    dsimp only [List.getElem?_toArray, List.getElem?_cons_succ, List.getElem?_cons_zero, List.getElem_cons_succ, List.getElem_cons_zero, List.getElem_toArray]
    intro w hSw
    try dsimp only at hSw
    go_simp
    try with_reducible rfl
  case' rest17q13 =>
    dsimp only [List.getElem?_toArray, List.getElem?_cons_succ, List.getElem?_cons_zero, List.getElem_cons_succ, List.getElem_cons_zero, List.getElem_toArray]
    try simp only [Act.put, List.setIfInBounds_toArray, List.set_cons_zero, List.set_cons_succ]
  refine wpAnyH_ready (rs := [3]) (by kernel_rfl) (by simp) ?_
  refine AllReadyH.cons rfl (fun K hK => ?_) AllReadyH.nil
  dsimp only [List.getElem?_toArray, List.getElem?_cons_succ, List.getElem?_cons_zero, List.getElem_cons_succ, List.getElem_cons_zero, List.getElem_toArray]
  go_simp
  go_at_call 14
  refine use (c1.out _) ?_
  intro pa
  go_wp2
  refine hK.out _ _ ?_ (fun hHeld => ?_)
  · exact hS.out _ ((by repeat (first | exact Below.refl _ _ | refine Below.later ?_ _ | refine Below.box ?_ _ | refine Below.drew ?_ | refine Below.put ?_ (by dsimp only; omega) _)))
  clear hK K
  try simp only [Act.put, List.setIfInBounds_toArray, List.set_cons_zero, List.set_cons_succ]
  refine wpAnyH_ready (rs := [8]) (by kernel_rfl) (by simp) ?_
  refine AllReadyH.cons rfl (fun K hK => ?_) AllReadyH.nil
  dsimp only [List.getElem?_toArray, List.getElem?_cons_succ, List.getElem?_cons_zero, List.getElem_cons_succ, List.getElem_cons_zero, List.getElem_toArray]
  go_simp
  go_at_call 16
  refine use (c3.out _) ?_
  intro pb
  go_wp2
  refine hK.out _ _ ?_ (fun hHeld => ?_)
  · exact hS.out _ ((by repeat (first | exact Below.refl _ _ | refine Below.later ?_ _ | refine Below.box ?_ _ | refine Below.drew ?_ | refine Below.put ?_ (by dsimp only; omega) _)))
  clear hK K
  try simp only [Act.put, List.setIfInBounds_toArray, List.set_cons_zero, List.set_cons_succ]
  refine wpAnyH_ready (rs := [9]) (by kernel_rfl) (by simp) ?_
  refine AllReadyH.cons rfl (fun K hK => ?_) AllReadyH.nil
  dsimp only [List.getElem?_toArray, List.getElem?_cons_succ, List.getElem?_cons_zero, List.getElem_cons_succ, List.getElem_cons_zero, List.getElem_toArray]
  go_simp
  go_at_call 15
  refine use (c4.out _) ?_
  intro pc
  go_wp2
  have hB : Below W1.heap.size W1 (after (after (after W1.drew pa) pb) pc) := (by repeat (first | exact Below.refl _ _ | refine Below.later ?_ _ | refine Below.box ?_ _ | refine Below.drew ?_ | refine Below.put ?_ (by dsimp only; omega) _))
  generalize after (after (after W1.drew pa) pb) pc = w3 at hB hK ⊢
  refine hK.out _ _ ?_ (fun hHeld => ?_)
  · exact hS.out _ (hB)
  clear hK K
  try simp only [Act.put, List.setIfInBounds_toArray, List.set_cons_zero, List.set_cons_succ]
  refine wpAnyH_ready (rs := [10, 14]) (by kernel_rfl) (by simp) ?_
  refine AllReadyH.cons rfl (fun K hK => ?br1A) (AllReadyH.cons rfl (fun K hK => ?br1B) AllReadyH.nil)
  case' br1A =>
    dsimp only [List.getElem?_toArray, List.getElem?_cons_succ, List.getElem?_cons_zero, List.getElem_cons_succ, List.getElem_cons_zero, List.getElem_toArray]
    go_simp
    have hr1 := Ls.new w3 22 #[.int .u64 r0, .int .u64 r2] [r0, r2] rfl (by simp) (by intro z hz; simp only [List.mem_cons, List.not_mem_nil, or_false] at hz; rcases hz with rfl | rfl <;> assumption)
    obtain ⟨b1, hb1⟩ : ∃ b1, w3.heap.size = b1 := ⟨_, rfl⟩
    rw [hb1] at hr1 ⊢
    replace hB := Below.box hB (.cells #[.int .u64 r0, .int .u64 r2] 22)
    generalize w3.alloc (.cells #[.int .u64 r0, .int .u64 r2] 22) = w4 at hB hK hr1  ⊢
    clear hb1
    refine hK.out _ _ ?_ (fun hHeld => ?_)
    · exact hS.out _ (hB)
    clear hK K
    try simp only [Act.put, List.setIfInBounds_toArray, List.set_cons_zero, List.set_cons_succ]
    refine wpAnyH_ready (rs := [14]) (by kernel_rfl) (by simp) ?_
    refine AllReadyH.cons rfl (fun K hK => ?_) AllReadyH.nil
    dsimp only [List.getElem?_toArray, List.getElem?_cons_succ, List.getElem?_cons_zero, List.getElem_cons_succ, List.getElem_cons_zero, List.getElem_toArray]
    go_simp
    go_at_call 14
    refine use (c2.out _) ?_
    intro pd
    go_wp2
    replace hr1 := hr1.below (Nat.le_refl _) (after_below w4 pd)
    replace hB := Below.later hB pd
    generalize after w4 pd = w5 at hB hK hr1 ⊢
    refine hK.out _ _ ?_ (fun hHeld => ?_)
    · exact hS.out _ (hB)
    clear hK K
    try simp only [Act.put, List.setIfInBounds_toArray, List.set_cons_zero, List.set_cons_succ]
    refine wpAnyH_ready (rs := [18]) (by kernel_rfl) (by simp) ?_
    refine AllReadyH.cons rfl (fun K hK => ?_) AllReadyH.nil
    dsimp only [List.getElem?_toArray, List.getElem?_cons_succ, List.getElem?_cons_zero, List.getElem_cons_succ, List.getElem_cons_zero, List.getElem_toArray]
    go_simp
    go_at_call 14
    refine use (c1.out _) ?_
    intro pd
    go_wp2
    replace hr1 := hr1.below (Nat.le_refl _) (after_below w5 pd)
    replace hB := Below.later hB pd
    generalize after w5 pd = w6 at hB hK hr1 ⊢
    refine hK.out _ _ ?_ (fun hHeld => ?_)
    · exact hS.out _ (hB)
    clear hK K
    try simp only [Act.put, List.setIfInBounds_toArray, List.set_cons_zero, List.set_cons_succ]
    refine wpAnyH_ready (rs := [19]) (by kernel_rfl) (by simp) ?_
    refine AllReadyH.cons rfl (fun K hK => ?_) AllReadyH.nil
    dsimp only [List.getElem?_toArray, List.getElem?_cons_succ, List.getElem?_cons_zero, List.getElem_cons_succ, List.getElem_cons_zero, List.getElem_toArray]
    go_simp
    have hr2 := Ls.new w6 22 #[.int .u64 r1, .int .u64 r0] [r1, r0] rfl (by simp) (by intro z hz; simp only [List.mem_cons, List.not_mem_nil, or_false] at hz; rcases hz with rfl | rfl <;> assumption)
    obtain ⟨b2, hb2⟩ : ∃ b2, w6.heap.size = b2 := ⟨_, rfl⟩
    rw [hb2] at hr2 ⊢
    replace hr1 := hr1.box (.cells #[.int .u64 r1, .int .u64 r0] 22)
    replace hB := Below.box hB (.cells #[.int .u64 r1, .int .u64 r0] 22)
    generalize w6.alloc (.cells #[.int .u64 r1, .int .u64 r0] 22) = w7 at hB hK hr2 hr1 ⊢
    clear hb2
    refine hK.out _ _ ?_ (fun hHeld => ?_)
    · exact hS.out _ (hB)
    clear hK K
    try simp only [Act.put, List.setIfInBounds_toArray, List.set_cons_zero, List.set_cons_succ]
    refine wpAnyH_ready (rs := [20]) (by kernel_rfl) (by simp) ?_
    refine AllReadyH.cons rfl (fun K hK => ?_) AllReadyH.nil
    dsimp only [List.getElem?_toArray, List.getElem?_cons_succ, List.getElem?_cons_zero, List.getElem_cons_succ, List.getElem_cons_zero, List.getElem_toArray]
    go_simp
    have hM := Mt.lit w7 [(some ⟨b1, 0, none⟩, 2, [r0, r2]), (some ⟨b2, 0, none⟩, 2, [r1, r0])] #[.slice (some ⟨b1, 0, none⟩) 2 2, .slice (some ⟨b2, 0, none⟩) 2 2] rfl (by simp) (by intro r hr; simp only [List.mem_cons, List.not_mem_nil, or_false] at hr; rcases hr with rfl | rfl <;> assumption)
    replace hB := Below.box hB (.cells #[.slice (some ⟨b1, 0, none⟩) 2 2, .slice (some ⟨b2, 0, none⟩) 2 2] 32)
    obtain ⟨b3, hb3⟩ : ∃ b3, w7.heap.size = b3 := ⟨_, rfl⟩
    rw [hb3] at hM ⊢
    generalize w7.alloc (.cells #[.slice (some ⟨b1, 0, none⟩) 2 2, .slice (some ⟨b2, 0, none⟩) 2 2] 32) = w9 at hB hK hM ⊢
    clear hb3
    refine hK.out _ _ ?_ (fun hHeld => ?_)
    · exact hS.out _ (hB)
    clear hK K
    try simp only [Act.put, List.setIfInBounds_toArray, List.set_cons_zero, List.set_cons_succ]
    refine wpAnyH_take (i := 21) (oi := ?o21q14) (v := ?v21q14) ?hi21q14 (by kernel_rfl) (by kernel_rfl) (by kernel_rfl) (fun _ _ _ h => h) (Or.inl ⟨?hg21q14, ?hy21q14⟩) (by assumption) ?rest21q14
    case hi21q14 => rfl
    case hg21q14 => rfl
    case' hy21q14 =>
      dsimp only [List.getElem?_toArray, List.getElem?_cons_succ, List.getElem?_cons_zero, List.getElem_cons_succ, List.getElem_cons_zero, List.getElem_toArray]
      intro w hSw
      try dsimp only at hSw
      go_simp
      try with_reducible rfl
    case' rest21q14 =>
      dsimp only [List.getElem?_toArray, List.getElem?_cons_succ, List.getElem?_cons_zero, List.getElem_cons_succ, List.getElem_cons_zero, List.getElem_toArray]
      try simp only [Act.put, List.setIfInBounds_toArray, List.set_cons_zero, List.set_cons_succ]
    refine wpAnyH_done (by kernel_rfl) ?_ _
    refine NoPanic.normal ?_
    have kM := (⟨hM⟩ : Kept _)
    have kB9 : Kept (Below w.heap.size w w9) := ⟨Below.next kB1.out hB⟩
    clear hM hB hr1 hr2 hHeld
    go_wp2
    exact bodyPost_ret (v := .slice (some ⟨b3, 0, none⟩) 2 2) (by simp [results, Try.results13, go_sem]) rfl ⟨b3, rfl, by rw [kem.out]; exact kM.out, kB9.out⟩
  case' br1B =>
    dsimp only [List.getElem?_toArray, List.getElem?_cons_succ, List.getElem?_cons_zero, List.getElem_cons_succ, List.getElem_cons_zero, List.getElem_toArray]
    go_simp
    go_at_call 14
    refine use (c2.out _) ?_
    intro pd
    go_wp2
    replace hB := Below.later hB pd
    generalize after w3 pd = w4 at hB hK  ⊢
    refine hK.out _ _ ?_ (fun hHeld => ?_)
    · exact hS.out _ (hB)
    clear hK K
    try simp only [Act.put, List.setIfInBounds_toArray, List.set_cons_zero, List.set_cons_succ]
    refine wpAnyH_ready (rs := [10, 18]) (by kernel_rfl) (by simp) ?_
    refine AllReadyH.cons rfl (fun K hK => ?br2A) (AllReadyH.cons rfl (fun K hK => ?br2B) AllReadyH.nil)
    case' br2A =>
      dsimp only [List.getElem?_toArray, List.getElem?_cons_succ, List.getElem?_cons_zero, List.getElem_cons_succ, List.getElem_cons_zero, List.getElem_toArray]
      go_simp
      have hr1 := Ls.new w4 22 #[.int .u64 r0, .int .u64 r2] [r0, r2] rfl (by simp) (by intro z hz; simp only [List.mem_cons, List.not_mem_nil, or_false] at hz; rcases hz with rfl | rfl <;> assumption)
      obtain ⟨b1, hb1⟩ : ∃ b1, w4.heap.size = b1 := ⟨_, rfl⟩
      rw [hb1] at hr1 ⊢
      replace hB := Below.box hB (.cells #[.int .u64 r0, .int .u64 r2] 22)
      generalize w4.alloc (.cells #[.int .u64 r0, .int .u64 r2] 22) = w5 at hB hK hr1  ⊢
      clear hb1
      refine hK.out _ _ ?_ (fun hHeld => ?_)
      · exact hS.out _ (hB)
      clear hK K
      try simp only [Act.put, List.setIfInBounds_toArray, List.set_cons_zero, List.set_cons_succ]
      refine wpAnyH_ready (rs := [18]) (by kernel_rfl) (by simp) ?_
      refine AllReadyH.cons rfl (fun K hK => ?_) AllReadyH.nil
      dsimp only [List.getElem?_toArray, List.getElem?_cons_succ, List.getElem?_cons_zero, List.getElem_cons_succ, List.getElem_cons_zero, List.getElem_toArray]
      go_simp
      go_at_call 14
      refine use (c1.out _) ?_
      intro pd
      go_wp2
      replace hr1 := hr1.below (Nat.le_refl _) (after_below w5 pd)
      replace hB := Below.later hB pd
      generalize after w5 pd = w6 at hB hK hr1 ⊢
      refine hK.out _ _ ?_ (fun hHeld => ?_)
      · exact hS.out _ (hB)
      clear hK K
      try simp only [Act.put, List.setIfInBounds_toArray, List.set_cons_zero, List.set_cons_succ]
      refine wpAnyH_ready (rs := [19]) (by kernel_rfl) (by simp) ?_
      refine AllReadyH.cons rfl (fun K hK => ?_) AllReadyH.nil
      dsimp only [List.getElem?_toArray, List.getElem?_cons_succ, List.getElem?_cons_zero, List.getElem_cons_succ, List.getElem_cons_zero, List.getElem_toArray]
      go_simp
      have hr2 := Ls.new w6 22 #[.int .u64 r1, .int .u64 r0] [r1, r0] rfl (by simp) (by intro z hz; simp only [List.mem_cons, List.not_mem_nil, or_false] at hz; rcases hz with rfl | rfl <;> assumption)
      obtain ⟨b2, hb2⟩ : ∃ b2, w6.heap.size = b2 := ⟨_, rfl⟩
      rw [hb2] at hr2 ⊢
      replace hr1 := hr1.box (.cells #[.int .u64 r1, .int .u64 r0] 22)
      replace hB := Below.box hB (.cells #[.int .u64 r1, .int .u64 r0] 22)
      generalize w6.alloc (.cells #[.int .u64 r1, .int .u64 r0] 22) = w7 at hB hK hr2 hr1 ⊢
      clear hb2
      refine hK.out _ _ ?_ (fun hHeld => ?_)
      · exact hS.out _ (hB)
      clear hK K
      try simp only [Act.put, List.setIfInBounds_toArray, List.set_cons_zero, List.set_cons_succ]
      refine wpAnyH_ready (rs := [20]) (by kernel_rfl) (by simp) ?_
      refine AllReadyH.cons rfl (fun K hK => ?_) AllReadyH.nil
      dsimp only [List.getElem?_toArray, List.getElem?_cons_succ, List.getElem?_cons_zero, List.getElem_cons_succ, List.getElem_cons_zero, List.getElem_toArray]
      go_simp
      have hM := Mt.lit w7 [(some ⟨b1, 0, none⟩, 2, [r0, r2]), (some ⟨b2, 0, none⟩, 2, [r1, r0])] #[.slice (some ⟨b1, 0, none⟩) 2 2, .slice (some ⟨b2, 0, none⟩) 2 2] rfl (by simp) (by intro r hr; simp only [List.mem_cons, List.not_mem_nil, or_false] at hr; rcases hr with rfl | rfl <;> assumption)
      replace hB := Below.box hB (.cells #[.slice (some ⟨b1, 0, none⟩) 2 2, .slice (some ⟨b2, 0, none⟩) 2 2] 32)
      obtain ⟨b3, hb3⟩ : ∃ b3, w7.heap.size = b3 := ⟨_, rfl⟩
      rw [hb3] at hM ⊢
      generalize w7.alloc (.cells #[.slice (some ⟨b1, 0, none⟩) 2 2, .slice (some ⟨b2, 0, none⟩) 2 2] 32) = w9 at hB hK hM ⊢
      clear hb3
      refine hK.out _ _ ?_ (fun hHeld => ?_)
      · exact hS.out _ (hB)
      clear hK K
      try simp only [Act.put, List.setIfInBounds_toArray, List.set_cons_zero, List.set_cons_succ]
      refine wpAnyH_take (i := 21) (oi := ?o21q15) (v := ?v21q15) ?hi21q15 (by kernel_rfl) (by kernel_rfl) (by kernel_rfl) (fun _ _ _ h => h) (Or.inl ⟨?hg21q15, ?hy21q15⟩) (by assumption) ?rest21q15
      case hi21q15 => rfl
      case hg21q15 => rfl
      case' hy21q15 =>
        dsimp only [List.getElem?_toArray, List.getElem?_cons_succ, List.getElem?_cons_zero, List.getElem_cons_succ, List.getElem_cons_zero, List.getElem_toArray]
        intro w hSw
        try dsimp only at hSw
        go_simp
        try with_reducible rfl
      case' rest21q15 =>
        dsimp only [List.getElem?_toArray, List.getElem?_cons_succ, List.getElem?_cons_zero, List.getElem_cons_succ, List.getElem_cons_zero, List.getElem_toArray]
        try simp only [Act.put, List.setIfInBounds_toArray, List.set_cons_zero, List.set_cons_succ]
      refine wpAnyH_done (by kernel_rfl) ?_ _
      refine NoPanic.normal ?_
      have kM := (⟨hM⟩ : Kept _)
      have kB9 : Kept (Below w.heap.size w w9) := ⟨Below.next kB1.out hB⟩
      clear hM hB hr1 hr2 hHeld
      go_wp2
      exact bodyPost_ret (v := .slice (some ⟨b3, 0, none⟩) 2 2) (by simp [results, Try.results13, go_sem]) rfl ⟨b3, rfl, by rw [kem.out]; exact kM.out, kB9.out⟩
    case' br2B =>
      dsimp only [List.getElem?_toArray, List.getElem?_cons_succ, List.getElem?_cons_zero, List.getElem_cons_succ, List.getElem_cons_zero, List.getElem_toArray]
      go_simp
      go_at_call 14
      refine use (c1.out _) ?_
      intro pd
      go_wp2
      replace hB := Below.later hB pd
      generalize after w4 pd = w5 at hB hK  ⊢
      refine hK.out _ _ ?_ (fun hHeld => ?_)
      · exact hS.out _ (hB)
      clear hK K
      try simp only [Act.put, List.setIfInBounds_toArray, List.set_cons_zero, List.set_cons_succ]
      refine wpAnyH_ready (rs := [10, 19]) (by kernel_rfl) (by simp) ?_
      refine AllReadyH.cons rfl (fun K hK => ?br3A) (AllReadyH.cons rfl (fun K hK => ?br3B) AllReadyH.nil)
      case' br3A =>
        dsimp only [List.getElem?_toArray, List.getElem?_cons_succ, List.getElem?_cons_zero, List.getElem_cons_succ, List.getElem_cons_zero, List.getElem_toArray]
        go_simp
        have hr1 := Ls.new w5 22 #[.int .u64 r0, .int .u64 r2] [r0, r2] rfl (by simp) (by intro z hz; simp only [List.mem_cons, List.not_mem_nil, or_false] at hz; rcases hz with rfl | rfl <;> assumption)
        obtain ⟨b1, hb1⟩ : ∃ b1, w5.heap.size = b1 := ⟨_, rfl⟩
        rw [hb1] at hr1 ⊢
        replace hB := Below.box hB (.cells #[.int .u64 r0, .int .u64 r2] 22)
        generalize w5.alloc (.cells #[.int .u64 r0, .int .u64 r2] 22) = w6 at hB hK hr1  ⊢
        clear hb1
        refine hK.out _ _ ?_ (fun hHeld => ?_)
        · exact hS.out _ (hB)
        clear hK K
        try simp only [Act.put, List.setIfInBounds_toArray, List.set_cons_zero, List.set_cons_succ]
        refine wpAnyH_ready (rs := [19]) (by kernel_rfl) (by simp) ?_
        refine AllReadyH.cons rfl (fun K hK => ?_) AllReadyH.nil
        dsimp only [List.getElem?_toArray, List.getElem?_cons_succ, List.getElem?_cons_zero, List.getElem_cons_succ, List.getElem_cons_zero, List.getElem_toArray]
        go_simp
        have hr2 := Ls.new w6 22 #[.int .u64 r1, .int .u64 r0] [r1, r0] rfl (by simp) (by intro z hz; simp only [List.mem_cons, List.not_mem_nil, or_false] at hz; rcases hz with rfl | rfl <;> assumption)
        obtain ⟨b2, hb2⟩ : ∃ b2, w6.heap.size = b2 := ⟨_, rfl⟩
        rw [hb2] at hr2 ⊢
        replace hr1 := hr1.box (.cells #[.int .u64 r1, .int .u64 r0] 22)
        replace hB := Below.box hB (.cells #[.int .u64 r1, .int .u64 r0] 22)
        generalize w6.alloc (.cells #[.int .u64 r1, .int .u64 r0] 22) = w7 at hB hK hr2 hr1 ⊢
        clear hb2
        refine hK.out _ _ ?_ (fun hHeld => ?_)
        · exact hS.out _ (hB)
        clear hK K
        try simp only [Act.put, List.setIfInBounds_toArray, List.set_cons_zero, List.set_cons_succ]
        refine wpAnyH_ready (rs := [20]) (by kernel_rfl) (by simp) ?_
        refine AllReadyH.cons rfl (fun K hK => ?_) AllReadyH.nil
        dsimp only [List.getElem?_toArray, List.getElem?_cons_succ, List.getElem?_cons_zero, List.getElem_cons_succ, List.getElem_cons_zero, List.getElem_toArray]
        go_simp
        have hM := Mt.lit w7 [(some ⟨b1, 0, none⟩, 2, [r0, r2]), (some ⟨b2, 0, none⟩, 2, [r1, r0])] #[.slice (some ⟨b1, 0, none⟩) 2 2, .slice (some ⟨b2, 0, none⟩) 2 2] rfl (by simp) (by intro r hr; simp only [List.mem_cons, List.not_mem_nil, or_false] at hr; rcases hr with rfl | rfl <;> assumption)
        replace hB := Below.box hB (.cells #[.slice (some ⟨b1, 0, none⟩) 2 2, .slice (some ⟨b2, 0, none⟩) 2 2] 32)
        obtain ⟨b3, hb3⟩ : ∃ b3, w7.heap.size = b3 := ⟨_, rfl⟩
        rw [hb3] at hM ⊢
        generalize w7.alloc (.cells #[.slice (some ⟨b1, 0, none⟩) 2 2, .slice (some ⟨b2, 0, none⟩) 2 2] 32) = w9 at hB hK hM ⊢
        clear hb3
        refine hK.out _ _ ?_ (fun hHeld => ?_)
        · exact hS.out _ (hB)
        clear hK K
        try simp only [Act.put, List.setIfInBounds_toArray, List.set_cons_zero, List.set_cons_succ]
        refine wpAnyH_take (i := 21) (oi := ?o21q16) (v := ?v21q16) ?hi21q16 (by kernel_rfl) (by kernel_rfl) (by kernel_rfl) (fun _ _ _ h => h) (Or.inl ⟨?hg21q16, ?hy21q16⟩) (by assumption) ?rest21q16
        case hi21q16 => rfl
        case hg21q16 => rfl
        case' hy21q16 =>
          dsimp only [List.getElem?_toArray, List.getElem?_cons_succ, List.getElem?_cons_zero, List.getElem_cons_succ, List.getElem_cons_zero, List.getElem_toArray]
          intro w hSw
          try dsimp only at hSw
          go_simp
          try with_reducible rfl
        case' rest21q16 =>
          dsimp only [List.getElem?_toArray, List.getElem?_cons_succ, List.getElem?_cons_zero, List.getElem_cons_succ, List.getElem_cons_zero, List.getElem_toArray]
          try simp only [Act.put, List.setIfInBounds_toArray, List.set_cons_zero, List.set_cons_succ]
        refine wpAnyH_done (by kernel_rfl) ?_ _
        refine NoPanic.normal ?_
        have kM := (⟨hM⟩ : Kept _)
        have kB9 : Kept (Below w.heap.size w w9) := ⟨Below.next kB1.out hB⟩
        clear hM hB hr1 hr2 hHeld
        go_wp2
        exact bodyPost_ret (v := .slice (some ⟨b3, 0, none⟩) 2 2) (by simp [results, Try.results13, go_sem]) rfl ⟨b3, rfl, by rw [kem.out]; exact kM.out, kB9.out⟩
      case' br3B =>
        dsimp only [List.getElem?_toArray, List.getElem?_cons_succ, List.getElem?_cons_zero, List.getElem_cons_succ, List.getElem_cons_zero, List.getElem_toArray]
        go_simp
        have hr2 := Ls.new w5 22 #[.int .u64 r1, .int .u64 r0] [r1, r0] rfl (by simp) (by intro z hz; simp only [List.mem_cons, List.not_mem_nil, or_false] at hz; rcases hz with rfl | rfl <;> assumption)
        obtain ⟨b2, hb2⟩ : ∃ b2, w5.heap.size = b2 := ⟨_, rfl⟩
        rw [hb2] at hr2 ⊢
        replace hB := Below.box hB (.cells #[.int .u64 r1, .int .u64 r0] 22)
        generalize w5.alloc (.cells #[.int .u64 r1, .int .u64 r0] 22) = w6 at hB hK hr2  ⊢
        clear hb2
        refine hK.out _ _ ?_ (fun hHeld => ?_)
        · exact hS.out _ (hB)
        clear hK K
        try simp only [Act.put, List.setIfInBounds_toArray, List.set_cons_zero, List.set_cons_succ]
        refine wpAnyH_ready (rs := [10]) (by kernel_rfl) (by simp) ?_
        refine AllReadyH.cons rfl (fun K hK => ?_) AllReadyH.nil
        dsimp only [List.getElem?_toArray, List.getElem?_cons_succ, List.getElem?_cons_zero, List.getElem_cons_succ, List.getElem_cons_zero, List.getElem_toArray]
        go_simp
        have hr1 := Ls.new w6 22 #[.int .u64 r0, .int .u64 r2] [r0, r2] rfl (by simp) (by intro z hz; simp only [List.mem_cons, List.not_mem_nil, or_false] at hz; rcases hz with rfl | rfl <;> assumption)
        obtain ⟨b1, hb1⟩ : ∃ b1, w6.heap.size = b1 := ⟨_, rfl⟩
        rw [hb1] at hr1 ⊢
        replace hr2 := hr2.box (.cells #[.int .u64 r0, .int .u64 r2] 22)
        replace hB := Below.box hB (.cells #[.int .u64 r0, .int .u64 r2] 22)
        generalize w6.alloc (.cells #[.int .u64 r0, .int .u64 r2] 22) = w7 at hB hK hr1 hr2 ⊢
        clear hb1
        refine hK.out _ _ ?_ (fun hHeld => ?_)
        · exact hS.out _ (hB)
        clear hK K
        try simp only [Act.put, List.setIfInBounds_toArray, List.set_cons_zero, List.set_cons_succ]
        refine wpAnyH_ready (rs := [20]) (by kernel_rfl) (by simp) ?_
        refine AllReadyH.cons rfl (fun K hK => ?_) AllReadyH.nil
        dsimp only [List.getElem?_toArray, List.getElem?_cons_succ, List.getElem?_cons_zero, List.getElem_cons_succ, List.getElem_cons_zero, List.getElem_toArray]
        go_simp
        have hM := Mt.lit w7 [(some ⟨b1, 0, none⟩, 2, [r0, r2]), (some ⟨b2, 0, none⟩, 2, [r1, r0])] #[.slice (some ⟨b1, 0, none⟩) 2 2, .slice (some ⟨b2, 0, none⟩) 2 2] rfl (by simp) (by intro r hr; simp only [List.mem_cons, List.not_mem_nil, or_false] at hr; rcases hr with rfl | rfl <;> assumption)
        replace hB := Below.box hB (.cells #[.slice (some ⟨b1, 0, none⟩) 2 2, .slice (some ⟨b2, 0, none⟩) 2 2] 32)
        obtain ⟨b3, hb3⟩ : ∃ b3, w7.heap.size = b3 := ⟨_, rfl⟩
        rw [hb3] at hM ⊢
        generalize w7.alloc (.cells #[.slice (some ⟨b1, 0, none⟩) 2 2, .slice (some ⟨b2, 0, none⟩) 2 2] 32) = w9 at hB hK hM ⊢
        clear hb3
        refine hK.out _ _ ?_ (fun hHeld => ?_)
        · exact hS.out _ (hB)
        clear hK K
        try simp only [Act.put, List.setIfInBounds_toArray, List.set_cons_zero, List.set_cons_succ]
        refine wpAnyH_take (i := 21) (oi := ?o21q17) (v := ?v21q17) ?hi21q17 (by kernel_rfl) (by kernel_rfl) (by kernel_rfl) (fun _ _ _ h => h) (Or.inl ⟨?hg21q17, ?hy21q17⟩) (by assumption) ?rest21q17
        case hi21q17 => rfl
        case hg21q17 => rfl
        case' hy21q17 =>
          dsimp only [List.getElem?_toArray, List.getElem?_cons_succ, List.getElem?_cons_zero, List.getElem_cons_succ, List.getElem_cons_zero, List.getElem_toArray]
          intro w hSw
          try dsimp only at hSw
          go_simp
          try with_reducible rfl
        case' rest21q17 =>
          dsimp only [List.getElem?_toArray, List.getElem?_cons_succ, List.getElem?_cons_zero, List.getElem_cons_succ, List.getElem_cons_zero, List.getElem_toArray]
          try simp only [Act.put, List.setIfInBounds_toArray, List.set_cons_zero, List.set_cons_succ]
        refine wpAnyH_done (by kernel_rfl) ?_ _
        refine NoPanic.normal ?_
        have kM := (⟨hM⟩ : Kept _)
        have kB9 : Kept (Below w.heap.size w w9) := ⟨Below.next kB1.out hB⟩
        clear hM hB hr1 hr2 hHeld
        go_wp2
        exact bodyPost_ret (v := .slice (some ⟨b3, 0, none⟩) 2 2) (by simp [results, Try.results13, go_sem]) rfl ⟨b3, rfl, by rw [kem.out]; exact kM.out, kB9.out⟩
end Go.Proofs.Ytjnlnbkdnjainaa
