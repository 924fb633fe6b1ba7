/- transform.values. -/
import Derived.Test.YtjnlnbkdnjainaaHL5a
namespace Go.Proofs.Ytjnlnbkdnjainaa
open Go.RowKit Go.Sort

set_option maxRecDepth 100000
/-- Only block A is changed. -/
structure Upd (A : Nat) (w w' : World) : Prop where
  os : w'.os = w.os
  tape : w'.tape = w.tape
  output : w'.output = w.output
  size : w.heap.size ≤ w'.heap.size
  block : ∀ k, k < w.heap.size → k ≠ A → w'.heap[k]? = w.heap[k]?
theorem Upd.refl (A : Nat) (w : World) : Upd A w w := ⟨rfl, rfl, rfl, Nat.le_refl _, fun _ _ _ => rfl⟩
theorem Upd.trans {A : Nat} {w w1 w2 : World} (h : Upd A w w1) (h2 : Upd A w1 w2) : Upd A w w2 :=
  ⟨h2.os.trans h.os, h2.tape.trans h.tape, h2.output.trans h.output, Nat.le_trans h.size h2.size, fun k hk hne => (h2.block k (Nat.lt_of_lt_of_le hk h.size) hne).trans (h.block k hk hne)⟩
theorem Upd.of_below {A : Nat} {w w1 : World} (h : Below w.heap.size w w1) : Upd A w w1 := ⟨h.os, h.tape, h.output, h.size, fun k hk _ => h.block k hk⟩
theorem Upd.put {A : Nat} {w w1 : World} (h : Upd A w w1) (i : Nat) (v : Value) : Upd A w (w1.setCell ⟨A, i, none⟩ v) := by
  have h2 : Below 0 w1 (w1.setCell ⟨A, i, none⟩ v) := (Below.refl 0 w1).setCell (Nat.zero_le _) v
  exact ⟨h2.os.trans h.os, h2.tape.trans h.tape, h2.output.trans h.output, Nat.le_trans h.size h2.size, fun k hk hne => by
    rw [Go.Deep.blk_setCell_other _ _ _ _ (by exact hne)]; exact h.block k hk hne⟩
/-- Only a new block is changed: nothing that was there. -/
theorem Upd.below {A : Nat} {w w1 w2 : World} (h : Below w.heap.size w w1) (h2 : Upd A w1 w2) (hA : w.heap.size ≤ A) : Below w.heap.size w w2 :=
  ⟨h2.os.trans h.os, h2.tape.trans h.tape, h2.output.trans h.output, Nat.le_trans h.size h2.size, fun k hk => (h2.block k (Nat.lt_of_lt_of_le hk h.size) (by omega)).trans (h.block k hk)⟩
theorem Upd.cell {A : Nat} {w w' : World} (h : Upd A w w') {q : Addr} (hq : q.block < w.heap.size) (hne : q.block ≠ A) : w'.cell? q = w.cell? q := World.cell?_of_block (h.block _ hq hne)
theorem Pfx.upd {A : Nat} {w w' : World} {b : Nat} {t : TypeId} {n : Nat} {f : Nat → Value} (h : Pfx w b t n f) (hu : Upd A w w') (hne : b ≠ A) : Pfx w' b t n f := h.of_block (hu.block b h.lt hne)
theorem Pfx.later5 {w : World} {b : Nat} {t : TypeId} {n : Nat} {f : Nat → Value} (h : Pfx w b t n f) (q : Regrown) : Pfx (after w q) b t n f := h.of_block ((after_below w q).block b h.lt)
theorem Upd.later {A : Nat} {w w1 : World} (h : Upd A w w1) (q : Regrown) : Upd A w (after w1 q) := h.trans (Upd.of_below (after_below w1 q))
def pwF (p w : Int) : Nat → Int
  | 0 => 1
  | i + 1 => fmul p (pwF p w i) w
/-- The values that the recursion leaves. -/
def vlF (p : Int) : Nat → (Nat → Int) → Int → Nat → Int
  | 0, a, _ => a
  | d + 1, a, w => fun j =>
    if j < 2 ^ d then fadd p (vlF p d (fun i => a (2 * i)) (fmul p w w) j) (fmul p (pwF p w j) (vlF p d (fun i => a (2 * i + 1)) (fmul p w w) j))
    else fsub p (vlF p d (fun i => a (2 * i)) (fmul p w w) (j - 2 ^ d)) (fmul p (pwF p w (j - 2 ^ d)) (vlF p d (fun i => a (2 * i + 1)) (fmul p w w) (j - 2 ^ d)))
theorem fsub_U5 {p a b : Int} : U (fsub p a b) := by rw [fsub_eq]; exact fadd_U
theorem vlF_U {p : Int} : ∀ d a w, (∀ i, U (a i)) → ∀ j, U (vlF p d a w j)
  | 0, a, _, h, j => h j
  | d + 1, a, w, h, j => by
    unfold vlF
    split
    · exact fadd_U
    · exact fsub_U5
theorem pwF_U {p w : Int} : ∀ i, U (pwF p w i)
  | 0 => ⟨by show (0 : Int) ≤ 1; omega, by show (1 : Int) < _; decide⟩
  | i + 1 => fmul_U
set_option maxHeartbeats 16000000 in
theorem values_c (p : Int) : ∀ (d : Nat), d ≤ 12 → ∀ (w : World) (A c : Nat) (a : Nat → Int) (wv : Int), U wv → (∀ i, U (a i)) → Pfx w A 22 (2 ^ d) (fun j => .int .u64 (a j)) →
    Calls Try.prog 66 #[.agg #[.int .u64 p], .slice (some ⟨A, 0, none⟩) (2 ^ d) c, .int .u64 wv] w (fun e w' => e = .returned (.tuple #[]) ∧ Pfx w' A 22 (2 ^ d) (fun j => .int .u64 (vlF p d a wv j)) ∧ Upd A w w') := by
  intro d
  induction d with
  | zero =>
    intro _ w A c a wv hw ha hA
    have kA := (⟨hA⟩ : Kept _)
    clear hA ha
    rw [Nat.pow_zero] at *
    go_enter Try.func66, Try.ntmps66
    go_wp2
    exact bodyPost_ret (v := .tuple #[]) (by simp [results, Try.results66, go_sem]) rfl ⟨rfl, kA.out.of_block (Go.Deep.blk_alloc_lt _ _ _ kA.out.lt), Upd.of_below (by repeat (first | exact Below.refl _ _ | refine Below.later ?_ _ | refine Below.box ?_ _ | refine Below.drew ?_ | refine Below.put ?_ (by dsimp only; omega) _))⟩
  | succ d ih =>
    intro hd w A c a wv hw ha hA
    obtain ⟨h, hh⟩ : ∃ h, 2 ^ d = h := ⟨_, rfl⟩
    obtain ⟨n, hn⟩ : ∃ n, 2 ^ (d + 1) = n := ⟨_, rfl⟩
    have hnh : h + h = n := by rw [← hn, ← hh, Nat.pow_succ]; omega
    have hh1 : 1 ≤ h := by rw [← hh]; exact Nat.one_le_two_pow
    have hh6 : h ≤ 4096 := by rw [← hh]; exact Nat.pow_le_pow_right (by omega) (show d ≤ 12 by omega)
    rw [hn] at hA ⊢
    have kih : Kept (∀ (w : World) (A c : Nat) (a : Nat → Int) (wv : Int), U wv → (∀ i, U (a i)) → Pfx w A 22 h (fun j => .int .u64 (a j)) → Calls Try.prog 66 #[.agg #[.int .u64 p], .slice (some ⟨A, 0, none⟩) h c, .int .u64 wv] w (fun e w' => e = .returned (.tuple #[]) ∧ Pfx w' A 22 h (fun j => .int .u64 (vlF p d a wv j)) ∧ Upd A w w')) := ⟨by rw [← hh]; exact ih (by omega)⟩
    have kA := (⟨hA⟩ : Kept _)
    have knh := (⟨hnh⟩ : Kept _)
    have ka := (⟨ha⟩ : Kept _)
    have kw := (⟨hw⟩ : Kept _)
    have kvl : Kept (∀ j, vlF p (d + 1) a wv j = if j < h then fadd p (vlF p d (fun i => a (2 * i)) (fmul p wv wv) j) (fmul p (pwF p wv j) (vlF p d (fun i => a (2 * i + 1)) (fmul p wv wv) j)) else fsub p (vlF p d (fun i => a (2 * i)) (fmul p wv wv) (j - h)) (fmul p (pwF p wv (j - h)) (vlF p d (fun i => a (2 * i + 1)) (fmul p wv wv) (j - h)))) := ⟨fun j => by rw [← hh]; rfl⟩
    have hq1 : ((n : Nat) : Int).tdiv 2 = (h : Int) := by rw [Int.tdiv_eq_ediv_of_nonneg (by omega)]; omega
    have hwr : IntKind.i64.wrap ((h : Nat) : Int) = (h : Int) := by rw [IntKind.wrap_i64]; omega
    have hq2 : ((n : Nat) : Int) / 2 = (h : Int) := by omega
    have hmk := run_make_row' (P := Try.prog) 32 22 (.int .u64 0) 8 Try.underlying32 (by kernel_rfl) rfl .i64 .i64 h (by omega) (by omega)
    have hlt2 : ¬ ((n : Nat) : Int) < 2 := by omega
    have hAl := hA.lt
    clear ih hA ha hw hn
    go_enter Try.func66, Try.ntmps66
    go_wp2
    refine wp_region_noPanic ?_
    refine wp_region_held_drew (S := fun _ => True) (by kernel_rfl) trivial (fun hHeld => ?_)
    refine wpAnyH_take (i := 0) (oi := ?o0q1) (v := ?v0q1) ?hi0q1 (by kernel_rfl) (by kernel_rfl) (by kernel_rfl) (fun _ _ _ h => h) (Or.inl ⟨?hg0q1, ?hy0q1⟩) (by assumption) ?rest0q1
    case hi0q1 => rfl
    case hg0q1 => rfl
    case' hy0q1 =>
      dsimp only [List.getElem?_toArray, List.getElem?_cons_succ, List.getElem?_cons_zero, List.getElem_cons_succ, List.getElem_cons_zero, List.getElem_toArray]
      intro w hSw
      try dsimp only at hSw
      go_simp
      try with_reducible rfl
    case' rest0q1 =>
      dsimp only [List.getElem?_toArray, List.getElem?_cons_succ, List.getElem?_cons_zero, List.getElem_cons_succ, List.getElem_cons_zero, List.getElem_toArray]
      try simp only [Act.put, List.setIfInBounds_toArray, List.set_cons_zero, List.set_cons_succ]
    refine wpAnyH_take (i := 1) (oi := ?o1q2) (v := ?v1q2) ?hi1q2 (by kernel_rfl) (by kernel_rfl) (by kernel_rfl) (fun _ _ _ h => h) (Or.inl ⟨?hg1q2, ?hy1q2⟩) (by assumption) ?rest1q2
    case hi1q2 => rfl
    case hg1q2 => rfl
    case' hy1q2 =>
      dsimp only [List.getElem?_toArray, List.getElem?_cons_succ, List.getElem?_cons_zero, List.getElem_cons_succ, List.getElem_cons_zero, List.getElem_toArray]
      intro w hSw
      try dsimp only at hSw
      go_simp
      try with_reducible rfl
    case' rest1q2 =>
      dsimp only [List.getElem?_toArray, List.getElem?_cons_succ, List.getElem?_cons_zero, List.getElem_cons_succ, List.getElem_cons_zero, List.getElem_toArray]
      try simp only [Act.put, List.setIfInBounds_toArray, List.set_cons_zero, List.set_cons_succ]
    refine wpAnyH_take (i := 3) (oi := ?o3q3) (v := ?v3q3) ?hi3q3 (by kernel_rfl) (by kernel_rfl) (by kernel_rfl) (fun _ _ _ h => h) (Or.inl ⟨?hg3q3, ?hy3q3⟩) (by assumption) ?rest3q3
    case hi3q3 => rfl
    case hg3q3 => rfl
    case' hy3q3 =>
      dsimp only [List.getElem?_toArray, List.getElem?_cons_succ, List.getElem?_cons_zero, List.getElem_cons_succ, List.getElem_cons_zero, List.getElem_toArray]
      intro w hSw
      try dsimp only at hSw
      go_simp
      try with_reducible rfl
    case' rest3q3 =>
      dsimp only [List.getElem?_toArray, List.getElem?_cons_succ, List.getElem?_cons_zero, List.getElem_cons_succ, List.getElem_cons_zero, List.getElem_toArray]
      try simp only [Act.put, List.setIfInBounds_toArray, List.set_cons_zero, List.set_cons_succ]
    refine wpAnyH_take (i := 4) (oi := ?o4q4) (v := ?v4q4) ?hi4q4 (by kernel_rfl) (by kernel_rfl) (by kernel_rfl) (fun _ _ _ h => h) (Or.inl ⟨?hg4q4, ?hy4q4⟩) (by assumption) ?rest4q4
    case hi4q4 => rfl
    case hg4q4 => rfl
    case' hy4q4 =>
      dsimp only [List.getElem?_toArray, List.getElem?_cons_succ, List.getElem?_cons_zero, List.getElem_cons_succ, List.getElem_cons_zero, List.getElem_toArray]
      intro w hSw
      try dsimp only at hSw
      go_simp
      try with_reducible rfl
    case' rest4q4 =>
      dsimp only [List.getElem?_toArray, List.getElem?_cons_succ, List.getElem?_cons_zero, List.getElem_cons_succ, List.getElem_cons_zero, List.getElem_toArray]
      try simp only [Act.put, List.setIfInBounds_toArray, List.set_cons_zero, List.set_cons_succ]
    refine wpAnyH_ready (rs := [2, 5]) (by kernel_rfl) (by simp) ?_
    refine AllReadyH.cons rfl (fun K hK => ?brA) (AllReadyH.cons rfl (fun K hK => ?brB) AllReadyH.nil)
    case brA =>
      dsimp only [List.getElem?_toArray, List.getElem?_cons_succ, List.getElem?_cons_zero, List.getElem_cons_succ, List.getElem_cons_zero, List.getElem_toArray]
      go_simp
      try simp only [hmk, go_sem]
      refine hK.out _ _ ?_ (fun hHeld => ?_)
      · trivial
      clear hK K
      try simp only [Act.put, List.setIfInBounds_toArray, List.set_cons_zero, List.set_cons_succ]
      refine wpAnyH_take (i := 6) (oi := ?o6q5) (v := ?v6q5) ?hi6q5 (by kernel_rfl) (by kernel_rfl) (by kernel_rfl) (fun _ _ _ h => h) (Or.inl ⟨?hg6q5, ?hy6q5⟩) (by assumption) ?rest6q5
      case hi6q5 => rfl
      case hg6q5 => rfl
      case' hy6q5 =>
        dsimp only [List.getElem?_toArray, List.getElem?_cons_succ, List.getElem?_cons_zero, List.getElem_cons_succ, List.getElem_cons_zero, List.getElem_toArray]
        intro w hSw
        try dsimp only at hSw
        go_simp
        try with_reducible rfl
      case' rest6q5 =>
        dsimp only [List.getElem?_toArray, List.getElem?_cons_succ, List.getElem?_cons_zero, List.getElem_cons_succ, List.getElem_cons_zero, List.getElem_toArray]
        try simp only [Act.put, List.setIfInBounds_toArray, List.set_cons_zero, List.set_cons_succ]
      refine wpAnyH_ready (rs := [5]) (by kernel_rfl) (by simp) ?_
      refine AllReadyH.cons rfl (fun K hK => ?_) AllReadyH.nil
      dsimp only [List.getElem?_toArray, List.getElem?_cons_succ, List.getElem?_cons_zero, List.getElem_cons_succ, List.getElem_cons_zero, List.getElem_toArray]
      go_simp
      try simp only [hmk, go_sem]
      refine hK.out _ _ ?_ (fun hHeld => ?_)
      · trivial
      clear hK K
      try simp only [Act.put, List.setIfInBounds_toArray, List.set_cons_zero, List.set_cons_succ]
      refine wpAnyH_take (i := 7) (oi := ?o7q6) (v := ?v7q6) ?hi7q6 (by kernel_rfl) (by kernel_rfl) (by kernel_rfl) (fun _ _ _ h => h) (Or.inl ⟨?hg7q6, ?hy7q6⟩) (by assumption) ?rest7q6
      case hi7q6 => rfl
      case hg7q6 => rfl
      case' hy7q6 =>
        dsimp only [List.getElem?_toArray, List.getElem?_cons_succ, List.getElem?_cons_zero, List.getElem_cons_succ, List.getElem_cons_zero, List.getElem_toArray]
        intro w hSw
        try dsimp only at hSw
        go_simp
        try with_reducible rfl
      case' rest7q6 =>
        dsimp only [List.getElem?_toArray, List.getElem?_cons_succ, List.getElem?_cons_zero, List.getElem_cons_succ, List.getElem_cons_zero, List.getElem_toArray]
        try simp only [Act.put, List.setIfInBounds_toArray, List.set_cons_zero, List.set_cons_succ]
      refine wpAnyH_done (by kernel_rfl) ?_ _
      refine NoPanic.normal ?_
      have hm1 := World.rowIs_made (w.alloc (.cells #[.int .u64 p] 27)) (.int .u64 0) h 22
      have hm2 := World.rowIs_made ((w.alloc (.cells #[.int .u64 p] 27)).alloc (.cells (madeCells #[.int .u64 0] h) 22)) (.int .u64 0) h 22
      rw [World.size_alloc] at hm1
      rw [World.size_alloc, World.size_alloc] at hm2
      have hb3 : (((w.alloc (.cells #[.int .u64 p] 27)).alloc (.cells (madeCells #[.int .u64 0] h) 22)).alloc (.cells (madeCells #[.int .u64 0] h) 22)).drew.cell? ⟨w.heap.size, 0, none⟩ = some (.int .u64 p) := by simp [go_sem]
      have hB3 : Below w.heap.size w (((w.alloc (.cells #[.int .u64 p] 27)).alloc (.cells (madeCells #[.int .u64 0] h) 22)).alloc (.cells (madeCells #[.int .u64 0] h) 22)).drew := (by repeat (first | exact Below.refl _ _ | refine Below.later ?_ _ | refine Below.box ?_ _ | refine Below.drew ?_ | refine Below.put ?_ (by dsimp only; omega) _))
      have hm1' := hm1.alloc (.cells (madeCells #[.int .u64 0] h) 22)
      obtain ⟨E, hE⟩ : ∃ E, w.heap.size + 1 = E := ⟨_, rfl⟩
      obtain ⟨O, hO⟩ : ∃ O, w.heap.size + 1 + 1 = O := ⟨_, rfl⟩
      have kE0 : Kept (Pfx (((w.alloc (.cells #[.int .u64 p] 27)).alloc (.cells (madeCells #[.int .u64 0] h) 22)).alloc (.cells (madeCells #[.int .u64 0] h) 22)).drew E 22 h (fun _ => .int .u64 0)) := ⟨by rw [← hE]; exact Pfx.of_row hm1'⟩
      have kO0 : Kept (Pfx (((w.alloc (.cells #[.int .u64 p] 27)).alloc (.cells (madeCells #[.int .u64 0] h) 22)).alloc (.cells (madeCells #[.int .u64 0] h) 22)).drew O 22 h (fun _ => .int .u64 0)) := ⟨by rw [← hO]; exact Pfx.of_row hm2⟩
      have hEX : w.heap.size < E := by omega
      have hOX : w.heap.size < O := by omega
      have hEO : E ≠ O := by omega
      rw [hO, hE]
      clear hm1 hm2 hm1' hE hO hHeld
      generalize (((w.alloc (.cells #[.int .u64 p] 27)).alloc (.cells (madeCells #[.int .u64 0] h) 22)).alloc (.cells (madeCells #[.int .u64 0] h) 22)).drew = w3 at hb3 hB3 kE0 kO0 ⊢
      have kB3 := (⟨hB3⟩ : Kept _)
      have kb3 := (⟨hb3⟩ : Kept _)
      clear hb3 hB3
      go_wp2
      go_loopw [26] (fun v wr => ∃ (i : Nat), v = .int .i64 (i : Int) ∧ i ≤ h ∧ Kept (Pfx wr E 22 h (fun j => .int .u64 (if j < i then a (2 * j) else 0))) ∧ Kept (Pfx wr O 22 h (fun j => .int .u64 (if j < i then a (2 * j + 1) else 0))) ∧ Kept (Below w.heap.size w wr) ∧ Kept (wr.cell? ⟨w.heap.size, 0, none⟩ = some (.int .u64 p))) (fun v _ => ((h : Int) - intOf v).toNat)
      case atStart => exact ⟨0, rfl, by omega, ⟨kE0.out.congr fun j _ => by rw [if_neg (by omega)]⟩, ⟨kO0.out.congr fun j _ => by rw [if_neg (by omega)]⟩, kB3, kb3⟩
      case round =>
        clear kE0 kO0 kB3 kb3
        obtain ⟨i, rfl, hi, hE, hO, hB, hbx⟩ := hrel
        obtain ⟨w1, rfl⟩ : ∃ x, x = wr := ⟨wr, rfl⟩
        have hAw := kA.out.of_block (hB.out.block A kA.out.lt)
        by_cases h5 : i < h
        · obtain ⟨ei, hei⟩ : ∃ ei, 2 * i = ei := ⟨_, rfl⟩
          obtain ⟨oi, hoi⟩ : ∃ oi, ei + 1 = oi := ⟨_, rfl⟩
          have hw2 : IntKind.i64.wrap (2 * (i : Int)) = (ei : Int) := by rw [IntKind.wrap_i64]; omega
          have hw3 : IntKind.i64.wrap ((ei : Int) + 1) = (oi : Int) := by rw [IntKind.wrap_i64]; omega
          have hen : ei < n := by omega
          have hon : oi < n := by omega
          have hc1 := hAw.cell hen
          have hc2 := hAw.cell hon
          have hAwl := hAw.lt
          have hEc := hE.out.cell h5
          rw [if_neg (Nat.lt_irrefl _)] at hEc
          have hEf := hE.out.frozen i
          have hEl := hE.out.lt
          have hOc := hO.out.cell h5
          rw [if_neg (Nat.lt_irrefl _)] at hOc
          have hOf := hO.out.frozen i
          have hOl := hO.out.lt
          have hAE : A ≠ E := by omega
          have hAO : A ≠ O := by omega
          have kei : Kept (2 * i = ei ∧ ei + 1 = oi) := ⟨hei, hoi⟩
          obtain ⟨x, hx⟩ : ∃ x, a ei = x := ⟨_, rfl⟩
          obtain ⟨y, hy⟩ : ∃ y, a oi = y := ⟨_, rfl⟩
          rw [hx] at hc1
          rw [hy] at hc2
          have kxy : Kept (a ei = x ∧ a oi = y) := ⟨hx, hy⟩
          have hS : Kept (∀ w', Below w1.heap.size w1 w' → w'.cell? ⟨A, ei, none⟩ = some (.int .u64 x) ∧ w'.cell? ⟨A, oi, none⟩ = some (.int .u64 y)) := ⟨fun w' hw => ⟨by rw [hw.cell (p := ⟨A, ei, none⟩) hAwl]; exact hc1, by rw [hw.cell (p := ⟨A, oi, none⟩) hAwl]; exact hc2⟩⟩
          have kbx := (⟨hbx.out⟩ : Kept (w1.cell? ⟨w.heap.size, 0, none⟩ = some (.int .u64 p)))
          clear hAw hei hoi hx hy hbx
          go_wp2
          refine wp_region_noPanic ?_
          refine wp_region_held_drew (S := (fun w' => w'.cell? ⟨A, ei, none⟩ = some (.int .u64 x) ∧ w'.cell? ⟨A, oi, none⟩ = some (.int .u64 y))) (by kernel_rfl) (hS.out _ (by repeat (first | exact Below.refl _ _ | refine Below.later ?_ _ | refine Below.box ?_ _ | refine Below.drew ?_ | refine Below.put ?_ (by dsimp only; omega) _))) (fun hHeld => ?_)
          refine wpAnyH_take (i := 0) (oi := ?o0q7) (v := ?v0q7) ?hi0q7 (by kernel_rfl) (by kernel_rfl) (by kernel_rfl) (fun _ _ _ h => h) (Or.inl ⟨?hg0q7, ?hy0q7⟩) (by assumption) ?rest0q7
          case hi0q7 => rfl
          case hg0q7 => rfl
          case' hy0q7 =>
            dsimp only [List.getElem?_toArray, List.getElem?_cons_succ, List.getElem?_cons_zero, List.getElem_cons_succ, List.getElem_cons_zero, List.getElem_toArray]
            intro w hSw
            try dsimp only at hSw
            go_simp
            try with_reducible rfl
          case' rest0q7 =>
            dsimp only [List.getElem?_toArray, List.getElem?_cons_succ, List.getElem?_cons_zero, List.getElem_cons_succ, List.getElem_cons_zero, List.getElem_toArray]
            try simp only [Act.put, List.setIfInBounds_toArray, List.set_cons_zero, List.set_cons_succ]
          refine wpAnyH_take (i := 1) (oi := ?o1q8) (v := ?v1q8) ?hi1q8 (by kernel_rfl) (by kernel_rfl) (by kernel_rfl) (fun _ _ _ h => h) (Or.inl ⟨?hg1q8, ?hy1q8⟩) (by assumption) ?rest1q8
          case hi1q8 => rfl
          case hg1q8 => rfl
          case' hy1q8 =>
            dsimp only [List.getElem?_toArray, List.getElem?_cons_succ, List.getElem?_cons_zero, List.getElem_cons_succ, List.getElem_cons_zero, List.getElem_toArray]
            intro w hSw
            try dsimp only at hSw
            go_simp
            try with_reducible rfl
          case' rest1q8 =>
            dsimp only [List.getElem?_toArray, List.getElem?_cons_succ, List.getElem?_cons_zero, List.getElem_cons_succ, List.getElem_cons_zero, List.getElem_toArray]
            try simp only [Act.put, List.setIfInBounds_toArray, List.set_cons_zero, List.set_cons_succ]
          refine wpAnyH_take (i := 2) (oi := ?o2q9) (v := ?v2q9) ?hi2q9 (by kernel_rfl) (by kernel_rfl) (by kernel_rfl) (fun _ _ _ h => h) (Or.inl ⟨?hg2q9, ?hy2q9⟩) (by assumption) ?rest2q9
          case hi2q9 => rfl
          case hg2q9 => rfl
          case' hy2q9 =>
            dsimp only [List.getElem?_toArray, List.getElem?_cons_succ, List.getElem?_cons_zero, List.getElem_cons_succ, List.getElem_cons_zero, List.getElem_toArray]
            intro w hSw
            try dsimp only at hSw
            go_simp
            try with_reducible rfl
          case' rest2q9 =>
            dsimp only [List.getElem?_toArray, List.getElem?_cons_succ, List.getElem?_cons_zero, List.getElem_cons_succ, List.getElem_cons_zero, List.getElem_toArray]
            try simp only [Act.put, List.setIfInBounds_toArray, List.set_cons_zero, List.set_cons_succ]
          refine wpAnyH_take (i := 3) (oi := ?o3q10) (v := ?v3q10) ?hi3q10 (by kernel_rfl) (by kernel_rfl) (by kernel_rfl) (fun _ _ _ h => h) (Or.inl ⟨?hg3q10, ?hy3q10⟩) (by assumption) ?rest3q10
          case hi3q10 => rfl
          case hg3q10 => rfl
          case' hy3q10 =>
            dsimp only [List.getElem?_toArray, List.getElem?_cons_succ, List.getElem?_cons_zero, List.getElem_cons_succ, List.getElem_cons_zero, List.getElem_toArray]
            intro w hSw
            try dsimp only at hSw
            go_simp
            try with_reducible rfl
          case' rest3q10 =>
            dsimp only [List.getElem?_toArray, List.getElem?_cons_succ, List.getElem?_cons_zero, List.getElem_cons_succ, List.getElem_cons_zero, List.getElem_toArray]
            try simp only [Act.put, List.setIfInBounds_toArray, List.set_cons_zero, List.set_cons_succ]
          refine wpAnyH_take (i := 4) (oi := ?o4q11) (v := ?v4q11) ?hi4q11 (by kernel_rfl) (by kernel_rfl) (by kernel_rfl) (fun _ _ _ h => h) (Or.inl ⟨?hg4q11, ?hy4q11⟩) (by assumption) ?rest4q11
          case hi4q11 => rfl
          case hg4q11 => rfl
          case' hy4q11 =>
            dsimp only [List.getElem?_toArray, List.getElem?_cons_succ, List.getElem?_cons_zero, List.getElem_cons_succ, List.getElem_cons_zero, List.getElem_toArray]
            intro w hSw
            try dsimp only at hSw
            go_simp
            try with_reducible rfl
          case' rest4q11 =>
            dsimp only [List.getElem?_toArray, List.getElem?_cons_succ, List.getElem?_cons_zero, List.getElem_cons_succ, List.getElem_cons_zero, List.getElem_toArray]
            try simp only [Act.put, List.setIfInBounds_toArray, List.set_cons_zero, List.set_cons_succ]
          refine wpAnyH_take (i := 5) (oi := ?o5q12) (v := ?v5q12) ?hi5q12 (by kernel_rfl) (by kernel_rfl) (by kernel_rfl) (fun _ _ _ h => h) (Or.inl ⟨?hg5q12, ?hy5q12⟩) (by assumption) ?rest5q12
          case hi5q12 => rfl
          case hg5q12 => rfl
          case' hy5q12 =>
            dsimp only [List.getElem?_toArray, List.getElem?_cons_succ, List.getElem?_cons_zero, List.getElem_cons_succ, List.getElem_cons_zero, List.getElem_toArray]
            intro w hSw
            try dsimp only at hSw
            go_simp
            try with_reducible rfl
          case' rest5q12 =>
            dsimp only [List.getElem?_toArray, List.getElem?_cons_succ, List.getElem?_cons_zero, List.getElem_cons_succ, List.getElem_cons_zero, List.getElem_toArray]
            try simp only [Act.put, List.setIfInBounds_toArray, List.set_cons_zero, List.set_cons_succ]
          refine wpAnyH_take (i := 6) (oi := ?o6q13) (v := ?v6q13) ?hi6q13 (by kernel_rfl) (by kernel_rfl) (by kernel_rfl) (fun _ _ _ h => h) (Or.inl ⟨?hg6q13, ?hy6q13⟩) (by assumption) ?rest6q13
          case hi6q13 => rfl
          case hg6q13 => rfl
          case' hy6q13 =>
            dsimp only [List.getElem?_toArray, List.getElem?_cons_succ, List.getElem?_cons_zero, List.getElem_cons_succ, List.getElem_cons_zero, List.getElem_toArray]
            intro w hSw
            try dsimp only at hSw
            go_simp
            try with_reducible rfl
          case' rest6q13 =>
            dsimp only [List.getElem?_toArray, List.getElem?_cons_succ, List.getElem?_cons_zero, List.getElem_cons_succ, List.getElem_cons_zero, List.getElem_toArray]
            try simp only [Act.put, List.setIfInBounds_toArray, List.set_cons_zero, List.set_cons_succ]
          refine wpAnyH_take (i := 7) (oi := ?o7q14) (v := ?v7q14) ?hi7q14 (by kernel_rfl) (by kernel_rfl) (by kernel_rfl) (fun _ _ _ h => h) (Or.inl ⟨?hg7q14, ?hy7q14⟩) (by assumption) ?rest7q14
          case hi7q14 => rfl
          case hg7q14 => rfl
          case' hy7q14 =>
            dsimp only [List.getElem?_toArray, List.getElem?_cons_succ, List.getElem?_cons_zero, List.getElem_cons_succ, List.getElem_cons_zero, List.getElem_toArray]
            intro w hSw
            try dsimp only at hSw
            go_simp
            try with_reducible rfl
          case' rest7q14 =>
            dsimp only [List.getElem?_toArray, List.getElem?_cons_succ, List.getElem?_cons_zero, List.getElem_cons_succ, List.getElem_cons_zero, List.getElem_toArray]
            try simp only [Act.put, List.setIfInBounds_toArray, List.set_cons_zero, List.set_cons_succ]
          refine wpAnyH_take (i := 8) (oi := ?o8q15) (v := ?v8q15) ?hi8q15 (by kernel_rfl) (by kernel_rfl) (by kernel_rfl) (fun _ _ _ h => h) (Or.inl ⟨?hg8q15, ?hy8q15⟩) (by assumption) ?rest8q15
          case hi8q15 => rfl
          case hg8q15 => rfl
          case' hy8q15 =>
            dsimp only [List.getElem?_toArray, List.getElem?_cons_succ, List.getElem?_cons_zero, List.getElem_cons_succ, List.getElem_cons_zero, List.getElem_toArray]
            intro w hSw
            try dsimp only at hSw
            go_simp
            try with_reducible rfl
          case' rest8q15 =>
            dsimp only [List.getElem?_toArray, List.getElem?_cons_succ, List.getElem?_cons_zero, List.getElem_cons_succ, List.getElem_cons_zero, List.getElem_toArray]
            try simp only [Act.put, List.setIfInBounds_toArray, List.set_cons_zero, List.set_cons_succ]
          refine wpAnyH_take (i := 9) (oi := ?o9q16) (v := ?v9q16) ?hi9q16 (by kernel_rfl) (by kernel_rfl) (by kernel_rfl) (fun _ _ _ h => h) (Or.inl ⟨?hg9q16, ?hy9q16⟩) (by assumption) ?rest9q16
          case hi9q16 => rfl
          case hg9q16 => rfl
          case' hy9q16 =>
            dsimp only [List.getElem?_toArray, List.getElem?_cons_succ, List.getElem?_cons_zero, List.getElem_cons_succ, List.getElem_cons_zero, List.getElem_toArray]
            intro w hSw
            try dsimp only at hSw
            go_simp
            try with_reducible rfl
          case' rest9q16 =>
            dsimp only [List.getElem?_toArray, List.getElem?_cons_succ, List.getElem?_cons_zero, List.getElem_cons_succ, List.getElem_cons_zero, List.getElem_toArray]
            try simp only [Act.put, List.setIfInBounds_toArray, List.set_cons_zero, List.set_cons_succ]
          refine wpAnyH_take (i := 10) (oi := ?o10q17) (v := ?v10q17) ?hi10q17 (by kernel_rfl) (by kernel_rfl) (by kernel_rfl) (fun _ _ _ h => h) (Or.inl ⟨?hg10q17, ?hy10q17⟩) (by assumption) ?rest10q17
          case hi10q17 => rfl
          case hg10q17 => rfl
          case' hy10q17 =>
            dsimp only [List.getElem?_toArray, List.getElem?_cons_succ, List.getElem?_cons_zero, List.getElem_cons_succ, List.getElem_cons_zero, List.getElem_toArray]
            intro w hSw
            try dsimp only at hSw
            go_simp
            try with_reducible rfl
          case' rest10q17 =>
            dsimp only [List.getElem?_toArray, List.getElem?_cons_succ, List.getElem?_cons_zero, List.getElem_cons_succ, List.getElem_cons_zero, List.getElem_toArray]
            try simp only [Act.put, List.setIfInBounds_toArray, List.set_cons_zero, List.set_cons_succ]
          refine wpAnyH_take (i := 11) (oi := ?o11q18) (v := ?v11q18) ?hi11q18 (by kernel_rfl) (by kernel_rfl) (by kernel_rfl) (fun _ _ _ h => h) (Or.inl ⟨?hg11q18, ?hy11q18⟩) (by assumption) ?rest11q18
          case hi11q18 => rfl
          case hg11q18 => rfl
          case' hy11q18 =>
            dsimp only [List.getElem?_toArray, List.getElem?_cons_succ, List.getElem?_cons_zero, List.getElem_cons_succ, List.getElem_cons_zero, List.getElem_toArray]
            intro w hSw
            try dsimp only at hSw
            go_simp
            try with_reducible rfl
          case' rest11q18 =>
            dsimp only [List.getElem?_toArray, List.getElem?_cons_succ, List.getElem?_cons_zero, List.getElem_cons_succ, List.getElem_cons_zero, List.getElem_toArray]
            try simp only [Act.put, List.setIfInBounds_toArray, List.set_cons_zero, List.set_cons_succ]
          refine wpAnyH_take (i := 12) (oi := ?o12q19) (v := ?v12q19) ?hi12q19 (by kernel_rfl) (by kernel_rfl) (by kernel_rfl) (fun _ _ _ h => h) (Or.inl ⟨?hg12q19, ?hy12q19⟩) (by assumption) ?rest12q19
          case hi12q19 => rfl
          case hg12q19 => rfl
          case' hy12q19 =>
            dsimp only [List.getElem?_toArray, List.getElem?_cons_succ, List.getElem?_cons_zero, List.getElem_cons_succ, List.getElem_cons_zero, List.getElem_toArray]
            intro w hSw
            try dsimp only at hSw
            go_simp
            try with_reducible rfl
          case' rest12q19 =>
            dsimp only [List.getElem?_toArray, List.getElem?_cons_succ, List.getElem?_cons_zero, List.getElem_cons_succ, List.getElem_cons_zero, List.getElem_toArray]
            try simp only [Act.put, List.setIfInBounds_toArray, List.set_cons_zero, List.set_cons_succ]
          refine wpAnyH_take (i := 13) (oi := ?o13q20) (v := ?v13q20) ?hi13q20 (by kernel_rfl) (by kernel_rfl) (by kernel_rfl) (fun _ _ _ h => h) (Or.inl ⟨?hg13q20, ?hy13q20⟩) (by assumption) ?rest13q20
          case hi13q20 => rfl
          case hg13q20 => rfl
          case' hy13q20 =>
            dsimp only [List.getElem?_toArray, List.getElem?_cons_succ, List.getElem?_cons_zero, List.getElem_cons_succ, List.getElem_cons_zero, List.getElem_toArray]
            intro w hSw
            try dsimp only at hSw
            go_simp
            try with_reducible rfl
          case' rest13q20 =>
            dsimp only [List.getElem?_toArray, List.getElem?_cons_succ, List.getElem?_cons_zero, List.getElem_cons_succ, List.getElem_cons_zero, List.getElem_toArray]
            try simp only [Act.put, List.setIfInBounds_toArray, List.set_cons_zero, List.set_cons_succ]
          refine wpAnyH_take (i := 14) (oi := ?o14q21) (v := ?v14q21) ?hi14q21 (by kernel_rfl) (by kernel_rfl) (by kernel_rfl) (fun _ _ _ h => h) (Or.inl ⟨?hg14q21, ?hy14q21⟩) (by assumption) ?rest14q21
          case hi14q21 => rfl
          case hg14q21 => rfl
          case' hy14q21 =>
            dsimp only [List.getElem?_toArray, List.getElem?_cons_succ, List.getElem?_cons_zero, List.getElem_cons_succ, List.getElem_cons_zero, List.getElem_toArray]
            intro w hSw
            try dsimp only at hSw
            go_simp
            try with_reducible rfl
          case' rest14q21 =>
            dsimp only [List.getElem?_toArray, List.getElem?_cons_succ, List.getElem?_cons_zero, List.getElem_cons_succ, List.getElem_cons_zero, List.getElem_toArray]
            try simp only [Act.put, List.setIfInBounds_toArray, List.set_cons_zero, List.set_cons_succ]
          refine wpAnyH_take (i := 15) (oi := ?o15q22) (v := ?v15q22) ?hi15q22 (by kernel_rfl) (by kernel_rfl) (by kernel_rfl) (fun _ _ _ h => h) (Or.inl ⟨?hg15q22, ?hy15q22⟩) (by assumption) ?rest15q22
          case hi15q22 => rfl
          case hg15q22 => rfl
          case' hy15q22 =>
            dsimp only [List.getElem?_toArray, List.getElem?_cons_succ, List.getElem?_cons_zero, List.getElem_cons_succ, List.getElem_cons_zero, List.getElem_toArray]
            intro w hSw
            try dsimp only at hSw
            go_simp
            try with_reducible rfl
          case' rest15q22 =>
            dsimp only [List.getElem?_toArray, List.getElem?_cons_succ, List.getElem?_cons_zero, List.getElem_cons_succ, List.getElem_cons_zero, List.getElem_toArray]
            try simp only [Act.put, List.setIfInBounds_toArray, List.set_cons_zero, List.set_cons_succ]
          refine wpAnyH_ready (rs := [16]) (by kernel_rfl) (by simp) ?_
          refine AllReadyH.cons rfl (fun K hK => ?_) AllReadyH.nil
          dsimp only [List.getElem?_toArray, List.getElem?_cons_succ, List.getElem?_cons_zero, List.getElem_cons_succ, List.getElem_cons_zero, List.getElem_toArray]
          go_simp
          refine hK.out _ _ ?_ (fun hHeld => ?_)
          · exact ⟨by show (w1.setCell ⟨E, i, none⟩ (.int .u64 x)).cell? _ = _; rw [World.cell?_setCell_far _ _ _ _ (show E ≠ A from Ne.symm hAE)]; exact hc1, by show (w1.setCell ⟨E, i, none⟩ (.int .u64 x)).cell? _ = _; rw [World.cell?_setCell_far _ _ _ _ (show E ≠ A from Ne.symm hAE)]; exact hc2⟩
          clear hK K
          try simp only [Act.put, List.setIfInBounds_toArray, List.set_cons_zero, List.set_cons_succ]
          refine wpAnyH_take (i := 17) (oi := ?o17q23) (v := ?v17q23) ?hi17q23 (by kernel_rfl) (by kernel_rfl) (by kernel_rfl) (fun _ _ _ h => h) (Or.inl ⟨?hg17q23, ?hy17q23⟩) (by assumption) ?rest17q23
          case hi17q23 => rfl
          case hg17q23 => rfl
          case' hy17q23 =>
            dsimp only [List.getElem?_toArray, List.getElem?_cons_succ, List.getElem?_cons_zero, List.getElem_cons_succ, List.getElem_cons_zero, List.getElem_toArray]
            intro w hSw
            try dsimp only at hSw
            go_simp
            try with_reducible rfl
          case' rest17q23 =>
            dsimp only [List.getElem?_toArray, List.getElem?_cons_succ, List.getElem?_cons_zero, List.getElem_cons_succ, List.getElem_cons_zero, List.getElem_toArray]
            try simp only [Act.put, List.setIfInBounds_toArray, List.set_cons_zero, List.set_cons_succ]
          refine wpAnyH_ready (rs := [18]) (by kernel_rfl) (by simp) ?_
          refine AllReadyH.cons rfl (fun K hK => ?_) AllReadyH.nil
          dsimp only [List.getElem?_toArray, List.getElem?_cons_succ, List.getElem?_cons_zero, List.getElem_cons_succ, List.getElem_cons_zero, List.getElem_toArray]
          go_simp
          refine hK.out _ _ ?_ (fun hHeld => ?_)
          · exact ⟨by show ((w1.setCell ⟨E, i, none⟩ (.int .u64 x)).setCell ⟨O, i, none⟩ (.int .u64 y)).cell? _ = _; rw [World.cell?_setCell_far _ _ _ _ (show O ≠ A from Ne.symm hAO), World.cell?_setCell_far _ _ _ _ (show E ≠ A from Ne.symm hAE)]; exact hc1, by show ((w1.setCell ⟨E, i, none⟩ (.int .u64 x)).setCell ⟨O, i, none⟩ (.int .u64 y)).cell? _ = _; rw [World.cell?_setCell_far _ _ _ _ (show O ≠ A from Ne.symm hAO), World.cell?_setCell_far _ _ _ _ (show E ≠ A from Ne.symm hAE)]; exact hc2⟩
          clear hK K
          try simp only [Act.put, List.setIfInBounds_toArray, List.set_cons_zero, List.set_cons_succ]
          refine wpAnyH_done (by kernel_rfl) ?_ _
          refine NoPanic.normal ?_
          have kE2 : Kept (Pfx ((w1.setCell ⟨E, i, none⟩ (.int .u64 x)).setCell ⟨O, i, none⟩ (.int .u64 y)).drew E 22 h (fun j => .int .u64 (if j < i + 1 then a (2 * j) else 0))) := ⟨(hE.out.set i (.int .u64 x)).setOther (a := ⟨O, i, none⟩) hEO _ |>.congr fun j _ => by
            by_cases e : j = i
            · rw [if_pos e, if_pos (by omega), e, kei.out.1, kxy.out.1]
            · rw [if_neg e]
              by_cases e2 : j < i
              · rw [if_pos e2, if_pos (by omega)]
              · rw [if_neg e2, if_neg (by omega)]⟩
          have kO2 : Kept (Pfx ((w1.setCell ⟨E, i, none⟩ (.int .u64 x)).setCell ⟨O, i, none⟩ (.int .u64 y)).drew O 22 h (fun j => .int .u64 (if j < i + 1 then a (2 * j + 1) else 0))) := ⟨((hO.out.setOther (a := ⟨E, i, none⟩) (Ne.symm hEO) _).set i (.int .u64 y)).congr fun j _ => by
            by_cases e : j = i
            · rw [if_pos e, if_pos (by omega), e, kei.out.1, kei.out.2, kxy.out.2]
            · rw [if_neg e]
              by_cases e2 : j < i
              · rw [if_pos e2, if_pos (by omega)]
              · rw [if_neg e2, if_neg (by omega)]⟩
          have kB5 : Kept (Below w.heap.size w ((w1.setCell ⟨E, i, none⟩ (.int .u64 x)).setCell ⟨O, i, none⟩ (.int .u64 y)).drew) := ⟨Below.drew (Below.put (Below.put hB.out (Nat.le_of_lt hEX) _) (Nat.le_of_lt hOX) _)⟩
          have kb5 : Kept (((w1.setCell ⟨E, i, none⟩ (.int .u64 x)).setCell ⟨O, i, none⟩ (.int .u64 y)).drew.cell? ⟨w.heap.size, 0, none⟩ = some (.int .u64 p)) := ⟨by
            show ((w1.setCell ⟨E, i, none⟩ (.int .u64 x)).setCell ⟨O, i, none⟩ (.int .u64 y)).cell? _ = _
            rw [World.cell?_setCell_far _ _ _ _ (show O ≠ w.heap.size by omega), World.cell?_setCell_far _ _ _ _ (show E ≠ w.heap.size by omega)]; exact kbx.out⟩
          clear hE hO hB hS hHeld hEc hEf hEl hOc hOf hOl hc1 hc2
          go_wp2
          go_roundw
          case rel => exact ⟨i + 1, by go_num, by omega, kE2, kO2, kB5, kb5⟩
          case measure => first | (simp [intOf]; omega) | (simp [intOf]; done)
        · have hih : i = h := by omega
          have kE2 : Kept (Pfx w1 E 22 h (fun j => .int .u64 (a (2 * j)))) := ⟨hE.out.congr fun j hj => by rw [if_pos (by omega)]⟩
          have kO2 : Kept (Pfx w1 O 22 h (fun j => .int .u64 (a (2 * j + 1)))) := ⟨hO.out.congr fun j hj => by rw [if_pos (by omega)]⟩
          have csq : Kept (∀ w, Calls Try.prog 15 #[.agg #[.int .u64 p], .int .u64 wv, .int .u64 wv] w (Gives (.int .u64 (fmul p wv wv)) w)) := ⟨fun w => mul_c p wv wv w kw.out kw.out⟩
          have hsqU : Kept (U (fmul p wv wv)) := ⟨fmul_U⟩
          generalize fmul p wv wv = sq at *
          have hbx2 := hbx.out
          have hbl2 : w.heap.size < w1.heap.size := by have := hO.out.lt; omega
          have kB := (⟨hB.out⟩ : Kept _)
          clear hE hO hAw hih hbx hB
          go_wp2_with (first | (go_at_call 15; refine use (csq.out _) ?_; intro pw1; refine Stop.out ?_))
          refine ⟨?_⟩
          have kB4 : Kept (Below w.heap.size w (after w1 pw1)) := ⟨Below.later kB.out _⟩
          have kE3 : Kept (Pfx (after w1 pw1) E 22 h (fun j => .int .u64 (a (2 * j)))) := ⟨kE2.out.of_block ((after_below w1 pw1).block E kE2.out.lt)⟩
          have kO3 : Kept (Pfx (after w1 pw1) O 22 h (fun j => .int .u64 (a (2 * j + 1)))) := ⟨kO2.out.of_block ((after_below w1 pw1).block O kO2.out.lt)⟩
          have hbx3 : (after w1 pw1).cell? ⟨w.heap.size, 0, none⟩ = some (.int .u64 p) := by rw [(after_below w1 pw1).cell (p := ⟨w.heap.size, 0, none⟩) hbl2]; exact hbx2
          have hbl3 : w.heap.size < (after w1 pw1).heap.size := by have := (after_below w1 pw1).size; omega
          generalize after w1 pw1 = w4 at kB4 kE3 kO3 hbx3 hbl3 ⊢
          clear hbx2 hbl2 kE2 kO2 kB csq
          go_wp2_with (first | (go_at_call 66; refine (kih.out w4 E h _ sq hsqU.out (fun i => ka.out (2 * i)) kE3.out).mono ?_; rintro e w5 ⟨rfl, hE5, hU5⟩; refine Stop.out ?_))
          refine ⟨?_⟩
          have kE5 := (⟨hE5⟩ : Kept _)
          have kO5 : Kept (Pfx w5 O 22 h (fun j => .int .u64 (a (2 * j + 1)))) := ⟨kO3.out.upd hU5 (Ne.symm hEO)⟩
          have kB5 : Kept (Below w.heap.size w w5) := ⟨Upd.below kB4.out hU5 (Nat.le_of_lt hEX)⟩
          have hbx5 : w5.cell? ⟨w.heap.size, 0, none⟩ = some (.int .u64 p) := by rw [hU5.cell (q := ⟨w.heap.size, 0, none⟩) hbl3 (show w.heap.size ≠ E by omega)]; exact hbx3
          have hbl5 : w.heap.size < w5.heap.size := by have := hU5.size; omega
          clear hE5 hU5 kE3 kO3 hbx3 hbl3
          go_wp2_with (first | (go_at_call 66; refine (kih.out w5 O h _ sq hsqU.out (fun i => ka.out (2 * i + 1)) kO5.out).mono ?_; rintro e w6 ⟨rfl, hO6, hU6⟩; refine Stop.out ?_))
          refine ⟨?_⟩
          have kO6 := (⟨hO6⟩ : Kept _)
          have kE6 : Kept (Pfx w6 E 22 h (fun j => .int .u64 (vlF p d (fun i => a (2 * i)) sq j))) := ⟨kE5.out.upd hU6 hEO⟩
          have kB6 : Kept (Below w.heap.size w w6) := ⟨Upd.below kB5.out hU6 (Nat.le_of_lt hOX)⟩
          have hbx6 : w6.cell? ⟨w.heap.size, 0, none⟩ = some (.int .u64 p) := by rw [hU6.cell (q := ⟨w.heap.size, 0, none⟩) hbl5 (show w.heap.size ≠ O by omega)]; exact hbx5
          have hbl6 : w.heap.size < w6.heap.size := by have := hU6.size; omega
          have kA6 : Kept (Pfx w6 A 22 n (fun j => .int .u64 (a j))) := ⟨kA.out.of_block (kB6.out.block A kA.out.lt)⟩
          have kEU : Kept (∀ j, U (vlF p d (fun i => a (2 * i)) sq j)) := ⟨vlF_U d _ _ (fun i => ka.out _)⟩
          have kOU : Kept (∀ j, U (vlF p d (fun i => a (2 * i + 1)) sq j)) := ⟨vlF_U d _ _ (fun i => ka.out _)⟩
          have kpb : Kept (∀ w', Upd A w6 w' → w'.cell? ⟨w.heap.size, 0, none⟩ = some (.int .u64 p) ∧ w.heap.size < w'.heap.size) := ⟨fun w' hu => ⟨by rw [hu.cell (q := ⟨w.heap.size, 0, none⟩) hbl6 (show w.heap.size ≠ A by omega)]; exact hbx6, by have := hu.size; omega⟩⟩
          clear hO6 hU6 kE5 kO5 hbx5 hbl5 hbx6 hbl6
          generalize vlF p d (fun i => a (2 * i)) sq = FE at *
          generalize vlF p d (fun i => a (2 * i + 1)) sq = FO at *
          generalize hFR : vlF p (d + 1) a wv = FR at *
          have kFR := (⟨hFR⟩ : Kept _)
          clear hFR
          go_wp2
          go_loopw [11, 61] (fun vp v wr => ∃ (i : Nat) (pv : Int), v = .int .i64 (i : Int) ∧ vp = .int .u64 pv ∧ i ≤ h ∧ Kept (pv = pwF p wv i) ∧ Kept (Pfx wr A 22 n (fun j => .int .u64 (if j < i then FR j else if h ≤ j ∧ j < h + i then FR j else a j))) ∧ Kept (Upd A w6 wr)) (fun _ v _ => ((h : Int) - intOf v).toNat)
          case atStart => exact ⟨0, 1, rfl, rfl, by omega, ⟨rfl⟩, ⟨kA6.out.congr fun j _ => by rw [if_neg (by omega), if_neg (by omega)]⟩, ⟨Upd.refl _ _⟩⟩
          case round =>
            obtain ⟨k, pv, rfl, rfl, hk, hpv, hP, hU⟩ := hrel
            obtain ⟨w7, rfl⟩ : ∃ x, x = wr := ⟨wr, rfl⟩
            by_cases h6 : k < h
            · have hE7 := kE6.out.upd hU.out (show E ≠ A by omega)
              have hO7 := kO6.out.upd hU.out (show O ≠ A by omega)
              have hec := hE7.cell h6
              have hoc := hO7.cell h6
              have hel := hE7.lt
              have hol := hO7.lt
              obtain ⟨hpb, hpl⟩ := kpb.out w7 hU.out
              obtain ⟨kh, hkh⟩ : ∃ kh, k + h = kh := ⟨_, rfl⟩
              have hw4 : IntKind.i64.wrap ((k : Int) + (h : Int)) = (kh : Int) := by rw [IntKind.wrap_i64]; omega
              have hkn : k < n := by omega
              have hkhn : kh < n := by omega
              have hc1 := hP.out.cell hkn
              have hf1 := hP.out.frozen k
              have hc2 := hP.out.cell hkhn
              have hf2 := hP.out.frozen kh
              have hPl := hP.out.lt
              have hpvU : U pv := by rw [hpv.out]; exact pwF_U k
              have cm1 : Kept (∀ w, Calls Try.prog 15 #[.agg #[.int .u64 p], .int .u64 pv, .int .u64 (FO k)] w (Gives (.int .u64 (fmul p pv (FO k))) w)) := ⟨fun w => mul_c p _ _ w hpvU (kOU.out k)⟩
              have cad : Kept (∀ w, Calls Try.prog 56 #[.agg #[.int .u64 p], .int .u64 (FE k), .int .u64 (fmul p pv (FO k))] w (Gives (.int .u64 (fadd p (FE k) (fmul p pv (FO k)))) w)) := ⟨fun w => add_c p _ _ w (kEU.out k) fmul_U⟩
              have csb : Kept (∀ w, Calls Try.prog 59 #[.agg #[.int .u64 p], .int .u64 (FE k), .int .u64 (fmul p pv (FO k))] w (Gives (.int .u64 (fsub p (FE k) (fmul p pv (FO k)))) w)) := ⟨fun w => sub_c p _ _ w (kEU.out k) fmul_U⟩
              have cm2 : Kept (∀ w, Calls Try.prog 15 #[.agg #[.int .u64 p], .int .u64 pv, .int .u64 wv] w (Gives (.int .u64 (fmul p pv wv)) w)) := ⟨fun w => mul_c p _ _ w hpvU kw.out⟩
              have kf1 : Kept (FR k = fadd p (FE k) (fmul p pv (FO k))) := ⟨by rw [kvl.out, if_pos h6, hpv.out]⟩
              have kf2 : Kept (FR kh = fsub p (FE k) (fmul p pv (FO k))) := ⟨by rw [kvl.out, if_neg (by omega), show kh - h = k by omega, hpv.out]⟩
              have kpn : Kept (fmul p pv wv = pwF p wv (k + 1)) := ⟨by rw [pwF, ← hpv.out]⟩
              have kkh := (⟨hkh⟩ : Kept _)
              have hkk : k ≠ kh := by omega
              rw [← kf1.out] at cad
              rw [← kf2.out] at csb
              generalize hr1 : FR k = r1 at *
              generalize hr2 : FR kh = r2 at *
              have kr := (⟨⟨hr1, hr2⟩⟩ : Kept (FR k = r1 ∧ FR kh = r2))
              generalize fmul p pv (FO k) = tt at *
              generalize FE k = fe at *
              generalize FO k = fo at *
              generalize fmul p pv wv = pv2 at *
              clear hE7 hO7 hpvU hpv hr1 hr2 hkh kf1 kf2
              go_wp2
              first | refine region_quiet1 (by kernel_rfl) ?_ | refine region_quiet (by kernel_rfl) ?_
              repeat (go_big_quiet_step (first | (go_at_call 15; with_reducible exact quiet (cm1.out _))))
              refine wpQuiet_nil ?_
              intro _
              go_wp2
              first | refine region_tail1 (by kernel_rfl) (by kernel_rfl) (by kernel_rfl) ?_ | refine region_tail (by kernel_rfl) (by kernel_rfl) (by kernel_rfl) ?_
              simp only [initOf, lastOf]
              repeat (go_big_quiet_step (first | (go_at_call 56; with_reducible exact quiet (cad.out _))))
              refine wpQuiet_nil ?_
              intro _
              go_wp2
              first | refine region_tail1 (by kernel_rfl) (by kernel_rfl) (by kernel_rfl) ?_ | refine region_tail (by kernel_rfl) (by kernel_rfl) (by kernel_rfl) ?_
              simp only [initOf, lastOf]
              repeat (go_big_quiet_step (first | (go_at_call 59; with_reducible exact quiet (csb.out _))))
              refine wpQuiet_nil ?_
              intro _
              go_wp2_with (first | (go_at_call 15; (first | with_reducible refine use1 (cm2.out _) ?_ | with_reducible refine use (cm2.out _) ?_); intro pw))
              go_roundw
              case rel =>
                refine ⟨k + 1, pv2, by go_num, rfl, by omega, kpn, ⟨?_⟩, ⟨?_⟩⟩
                · refine Pfx.congr (Pfx.later5 (Pfx.set (Pfx.later5 (Pfx.set (Pfx.later5 hP.out _) k (.int .u64 r1)) _) kh (.int .u64 r2)) _) (fun j hj => ?_)
                  have hk2 := kkh.out
                  by_cases e1 : j = kh
                  · rw [if_pos e1, if_neg (by omega), if_pos (by omega), e1, kr.out.2]
                  · rw [if_neg e1]
                    by_cases e2 : j = k
                    · rw [if_pos e2, if_pos (by omega), e2, kr.out.1]
                    · rw [if_neg e2]
                      by_cases e3 : j < k
                      · rw [if_pos e3, if_pos (by omega)]
                      · rw [if_neg e3, if_neg (show ¬ j < k + 1 by omega)]
                        by_cases e4 : h ≤ j ∧ j < h + k
                        · rw [if_pos e4, if_pos (by omega)]
                        · rw [if_neg e4, if_neg (by omega)]
                · exact Upd.later (Upd.put (Upd.later (Upd.put (Upd.later hU.out _) k _) _) kh _) _
              case measure => first | (simp [intOf]; omega) | (simp [intOf]; done)
            · have hkh : k = h := by omega
              have kF : Kept (Pfx w7 A 22 n (fun j => .int .u64 (FR j))) := ⟨hP.out.congr fun j hj => by
                by_cases e3 : j < k
                · rw [if_pos e3]
                · rw [if_neg e3, if_pos (by omega)]⟩
              have kUU : Kept (Upd A w w7) := ⟨(Upd.of_below kB6.out).trans hU.out⟩
              clear hP hU
              go_wp2
              refine bodyPost_end (v := .tuple #[]) (by simp [results, Try.results66, go_sem]) rfl ⟨rfl, by rw [kFR.out]; exact kF.out, kUU.out⟩
    case brB =>
      dsimp only [List.getElem?_toArray, List.getElem?_cons_succ, List.getElem?_cons_zero, List.getElem_cons_succ, List.getElem_cons_zero, List.getElem_toArray]
      go_simp
      try simp only [hmk, go_sem]
      refine hK.out _ _ ?_ (fun hHeld => ?_)
      · trivial
      clear hK K
      try simp only [Act.put, List.setIfInBounds_toArray, List.set_cons_zero, List.set_cons_succ]
      refine wpAnyH_ready (rs := [2]) (by kernel_rfl) (by simp) ?_
      refine AllReadyH.cons rfl (fun K hK => ?_) AllReadyH.nil
      dsimp only [List.getElem?_toArray, List.getElem?_cons_succ, List.getElem?_cons_zero, List.getElem_cons_succ, List.getElem_cons_zero, List.getElem_toArray]
      go_simp
      try simp only [hmk, go_sem]
      refine hK.out _ _ ?_ (fun hHeld => ?_)
      · trivial
      clear hK K
      try simp only [Act.put, List.setIfInBounds_toArray, List.set_cons_zero, List.set_cons_succ]
      refine wpAnyH_take (i := 6) (oi := ?o6q24) (v := ?v6q24) ?hi6q24 (by kernel_rfl) (by kernel_rfl) (by kernel_rfl) (fun _ _ _ h => h) (Or.inl ⟨?hg6q24, ?hy6q24⟩) (by assumption) ?rest6q24
      case hi6q24 => rfl
      case hg6q24 => rfl
      case' hy6q24 =>
        dsimp only [List.getElem?_toArray, List.getElem?_cons_succ, List.getElem?_cons_zero, List.getElem_cons_succ, List.getElem_cons_zero, List.getElem_toArray]
        intro w hSw
        try dsimp only at hSw
        go_simp
        try with_reducible rfl
      case' rest6q24 =>
        dsimp only [List.getElem?_toArray, List.getElem?_cons_succ, List.getElem?_cons_zero, List.getElem_cons_succ, List.getElem_cons_zero, List.getElem_toArray]
        try simp only [Act.put, List.setIfInBounds_toArray, List.set_cons_zero, List.set_cons_succ]
      refine wpAnyH_take (i := 7) (oi := ?o7q25) (v := ?v7q25) ?hi7q25 (by kernel_rfl) (by kernel_rfl) (by kernel_rfl) (fun _ _ _ h => h) (Or.inl ⟨?hg7q25, ?hy7q25⟩) (by assumption) ?rest7q25
      case hi7q25 => rfl
      case hg7q25 => rfl
      case' hy7q25 =>
        dsimp only [List.getElem?_toArray, List.getElem?_cons_succ, List.getElem?_cons_zero, List.getElem_cons_succ, List.getElem_cons_zero, List.getElem_toArray]
        intro w hSw
        try dsimp only at hSw
        go_simp
        try with_reducible rfl
      case' rest7q25 =>
        dsimp only [List.getElem?_toArray, List.getElem?_cons_succ, List.getElem?_cons_zero, List.getElem_cons_succ, List.getElem_cons_zero, List.getElem_toArray]
        try simp only [Act.put, List.setIfInBounds_toArray, List.set_cons_zero, List.set_cons_succ]
      refine wpAnyH_done (by kernel_rfl) ?_ _
      refine NoPanic.normal ?_
      have hm1 := World.rowIs_made (w.alloc (.cells #[.int .u64 p] 27)) (.int .u64 0) h 22
      have hm2 := World.rowIs_made ((w.alloc (.cells #[.int .u64 p] 27)).alloc (.cells (madeCells #[.int .u64 0] h) 22)) (.int .u64 0) h 22
      rw [World.size_alloc] at hm1
      rw [World.size_alloc, World.size_alloc] at hm2
      have hb3 : (((w.alloc (.cells #[.int .u64 p] 27)).alloc (.cells (madeCells #[.int .u64 0] h) 22)).alloc (.cells (madeCells #[.int .u64 0] h) 22)).drew.cell? ⟨w.heap.size, 0, none⟩ = some (.int .u64 p) := by simp [go_sem]
      have hB3 : Below w.heap.size w (((w.alloc (.cells #[.int .u64 p] 27)).alloc (.cells (madeCells #[.int .u64 0] h) 22)).alloc (.cells (madeCells #[.int .u64 0] h) 22)).drew := (by repeat (first | exact Below.refl _ _ | refine Below.later ?_ _ | refine Below.box ?_ _ | refine Below.drew ?_ | refine Below.put ?_ (by dsimp only; omega) _))
      have hm1' := hm1.alloc (.cells (madeCells #[.int .u64 0] h) 22)
      obtain ⟨E, hE⟩ : ∃ E, w.heap.size + 1 + 1 = E := ⟨_, rfl⟩
      obtain ⟨O, hO⟩ : ∃ O, w.heap.size + 1 = O := ⟨_, rfl⟩
      have kE0 : Kept (Pfx (((w.alloc (.cells #[.int .u64 p] 27)).alloc (.cells (madeCells #[.int .u64 0] h) 22)).alloc (.cells (madeCells #[.int .u64 0] h) 22)).drew E 22 h (fun _ => .int .u64 0)) := ⟨by rw [← hE]; exact Pfx.of_row hm2⟩
      have kO0 : Kept (Pfx (((w.alloc (.cells #[.int .u64 p] 27)).alloc (.cells (madeCells #[.int .u64 0] h) 22)).alloc (.cells (madeCells #[.int .u64 0] h) 22)).drew O 22 h (fun _ => .int .u64 0)) := ⟨by rw [← hO]; exact Pfx.of_row hm1'⟩
      have hEX : w.heap.size < E := by omega
      have hOX : w.heap.size < O := by omega
      have hEO : E ≠ O := by omega
      rw [hE, hO]
      clear hm1 hm2 hm1' hE hO hHeld
      generalize (((w.alloc (.cells #[.int .u64 p] 27)).alloc (.cells (madeCells #[.int .u64 0] h) 22)).alloc (.cells (madeCells #[.int .u64 0] h) 22)).drew = w3 at hb3 hB3 kE0 kO0 ⊢
      have kB3 := (⟨hB3⟩ : Kept _)
      have kb3 := (⟨hb3⟩ : Kept _)
      clear hb3 hB3
      go_wp2
      go_loopw [26] (fun v wr => ∃ (i : Nat), v = .int .i64 (i : Int) ∧ i ≤ h ∧ Kept (Pfx wr E 22 h (fun j => .int .u64 (if j < i then a (2 * j) else 0))) ∧ Kept (Pfx wr O 22 h (fun j => .int .u64 (if j < i then a (2 * j + 1) else 0))) ∧ Kept (Below w.heap.size w wr) ∧ Kept (wr.cell? ⟨w.heap.size, 0, none⟩ = some (.int .u64 p))) (fun v _ => ((h : Int) - intOf v).toNat)
      case atStart => exact ⟨0, rfl, by omega, ⟨kE0.out.congr fun j _ => by rw [if_neg (by omega)]⟩, ⟨kO0.out.congr fun j _ => by rw [if_neg (by omega)]⟩, kB3, kb3⟩
      case round =>
        clear kE0 kO0 kB3 kb3
        obtain ⟨i, rfl, hi, hE, hO, hB, hbx⟩ := hrel
        obtain ⟨w1, rfl⟩ : ∃ x, x = wr := ⟨wr, rfl⟩
        have hAw := kA.out.of_block (hB.out.block A kA.out.lt)
        by_cases h5 : i < h
        · obtain ⟨ei, hei⟩ : ∃ ei, 2 * i = ei := ⟨_, rfl⟩
          obtain ⟨oi, hoi⟩ : ∃ oi, ei + 1 = oi := ⟨_, rfl⟩
          have hw2 : IntKind.i64.wrap (2 * (i : Int)) = (ei : Int) := by rw [IntKind.wrap_i64]; omega
          have hw3 : IntKind.i64.wrap ((ei : Int) + 1) = (oi : Int) := by rw [IntKind.wrap_i64]; omega
          have hen : ei < n := by omega
          have hon : oi < n := by omega
          have hc1 := hAw.cell hen
          have hc2 := hAw.cell hon
          have hAwl := hAw.lt
          have hEc := hE.out.cell h5
          rw [if_neg (Nat.lt_irrefl _)] at hEc
          have hEf := hE.out.frozen i
          have hEl := hE.out.lt
          have hOc := hO.out.cell h5
          rw [if_neg (Nat.lt_irrefl _)] at hOc
          have hOf := hO.out.frozen i
          have hOl := hO.out.lt
          have hAE : A ≠ E := by omega
          have hAO : A ≠ O := by omega
          have kei : Kept (2 * i = ei ∧ ei + 1 = oi) := ⟨hei, hoi⟩
          obtain ⟨x, hx⟩ : ∃ x, a ei = x := ⟨_, rfl⟩
          obtain ⟨y, hy⟩ : ∃ y, a oi = y := ⟨_, rfl⟩
          rw [hx] at hc1
          rw [hy] at hc2
          have kxy : Kept (a ei = x ∧ a oi = y) := ⟨hx, hy⟩
          have hS : Kept (∀ w', Below w1.heap.size w1 w' → w'.cell? ⟨A, ei, none⟩ = some (.int .u64 x) ∧ w'.cell? ⟨A, oi, none⟩ = some (.int .u64 y)) := ⟨fun w' hw => ⟨by rw [hw.cell (p := ⟨A, ei, none⟩) hAwl]; exact hc1, by rw [hw.cell (p := ⟨A, oi, none⟩) hAwl]; exact hc2⟩⟩
          have kbx := (⟨hbx.out⟩ : Kept (w1.cell? ⟨w.heap.size, 0, none⟩ = some (.int .u64 p)))
          clear hAw hei hoi hx hy hbx
          go_wp2
          refine wp_region_noPanic ?_
          refine wp_region_held_drew (S := (fun w' => w'.cell? ⟨A, ei, none⟩ = some (.int .u64 x) ∧ w'.cell? ⟨A, oi, none⟩ = some (.int .u64 y))) (by kernel_rfl) (hS.out _ (by repeat (first | exact Below.refl _ _ | refine Below.later ?_ _ | refine Below.box ?_ _ | refine Below.drew ?_ | refine Below.put ?_ (by dsimp only; omega) _))) (fun hHeld => ?_)
          refine wpAnyH_take (i := 0) (oi := ?o0q26) (v := ?v0q26) ?hi0q26 (by kernel_rfl) (by kernel_rfl) (by kernel_rfl) (fun _ _ _ h => h) (Or.inl ⟨?hg0q26, ?hy0q26⟩) (by assumption) ?rest0q26
          case hi0q26 => rfl
          case hg0q26 => rfl
          case' hy0q26 =>
            dsimp only [List.getElem?_toArray, List.getElem?_cons_succ, List.getElem?_cons_zero, List.getElem_cons_succ, List.getElem_cons_zero, List.getElem_toArray]
            intro w hSw
            try dsimp only at hSw
            go_simp
            try with_reducible rfl
          case' rest0q26 =>
            dsimp only [List.getElem?_toArray, List.getElem?_cons_succ, List.getElem?_cons_zero, List.getElem_cons_succ, List.getElem_cons_zero, List.getElem_toArray]
            try simp only [Act.put, List.setIfInBounds_toArray, List.set_cons_zero, List.set_cons_succ]
          refine wpAnyH_take (i := 1) (oi := ?o1q27) (v := ?v1q27) ?hi1q27 (by kernel_rfl) (by kernel_rfl) (by kernel_rfl) (fun _ _ _ h => h) (Or.inl ⟨?hg1q27, ?hy1q27⟩) (by assumption) ?rest1q27
          case hi1q27 => rfl
          case hg1q27 => rfl
          case' hy1q27 =>
            dsimp only [List.getElem?_toArray, List.getElem?_cons_succ, List.getElem?_cons_zero, List.getElem_cons_succ, List.getElem_cons_zero, List.getElem_toArray]
            intro w hSw
            try dsimp only at hSw
            go_simp
            try with_reducible rfl
          case' rest1q27 =>
            dsimp only [List.getElem?_toArray, List.getElem?_cons_succ, List.getElem?_cons_zero, List.getElem_cons_succ, List.getElem_cons_zero, List.getElem_toArray]
            try simp only [Act.put, List.setIfInBounds_toArray, List.set_cons_zero, List.set_cons_succ]
          refine wpAnyH_take (i := 2) (oi := ?o2q28) (v := ?v2q28) ?hi2q28 (by kernel_rfl) (by kernel_rfl) (by kernel_rfl) (fun _ _ _ h => h) (Or.inl ⟨?hg2q28, ?hy2q28⟩) (by assumption) ?rest2q28
          case hi2q28 => rfl
          case hg2q28 => rfl
          case' hy2q28 =>
            dsimp only [List.getElem?_toArray, List.getElem?_cons_succ, List.getElem?_cons_zero, List.getElem_cons_succ, List.getElem_cons_zero, List.getElem_toArray]
            intro w hSw
            try dsimp only at hSw
            go_simp
            try with_reducible rfl
          case' rest2q28 =>
            dsimp only [List.getElem?_toArray, List.getElem?_cons_succ, List.getElem?_cons_zero, List.getElem_cons_succ, List.getElem_cons_zero, List.getElem_toArray]
            try simp only [Act.put, List.setIfInBounds_toArray, List.set_cons_zero, List.set_cons_succ]
          refine wpAnyH_take (i := 3) (oi := ?o3q29) (v := ?v3q29) ?hi3q29 (by kernel_rfl) (by kernel_rfl) (by kernel_rfl) (fun _ _ _ h => h) (Or.inl ⟨?hg3q29, ?hy3q29⟩) (by assumption) ?rest3q29
          case hi3q29 => rfl
          case hg3q29 => rfl
          case' hy3q29 =>
            dsimp only [List.getElem?_toArray, List.getElem?_cons_succ, List.getElem?_cons_zero, List.getElem_cons_succ, List.getElem_cons_zero, List.getElem_toArray]
            intro w hSw
            try dsimp only at hSw
            go_simp
            try with_reducible rfl
          case' rest3q29 =>
            dsimp only [List.getElem?_toArray, List.getElem?_cons_succ, List.getElem?_cons_zero, List.getElem_cons_succ, List.getElem_cons_zero, List.getElem_toArray]
            try simp only [Act.put, List.setIfInBounds_toArray, List.set_cons_zero, List.set_cons_succ]
          refine wpAnyH_take (i := 4) (oi := ?o4q30) (v := ?v4q30) ?hi4q30 (by kernel_rfl) (by kernel_rfl) (by kernel_rfl) (fun _ _ _ h => h) (Or.inl ⟨?hg4q30, ?hy4q30⟩) (by assumption) ?rest4q30
          case hi4q30 => rfl
          case hg4q30 => rfl
          case' hy4q30 =>
            dsimp only [List.getElem?_toArray, List.getElem?_cons_succ, List.getElem?_cons_zero, List.getElem_cons_succ, List.getElem_cons_zero, List.getElem_toArray]
            intro w hSw
            try dsimp only at hSw
            go_simp
            try with_reducible rfl
          case' rest4q30 =>
            dsimp only [List.getElem?_toArray, List.getElem?_cons_succ, List.getElem?_cons_zero, List.getElem_cons_succ, List.getElem_cons_zero, List.getElem_toArray]
            try simp only [Act.put, List.setIfInBounds_toArray, List.set_cons_zero, List.set_cons_succ]
          refine wpAnyH_take (i := 5) (oi := ?o5q31) (v := ?v5q31) ?hi5q31 (by kernel_rfl) (by kernel_rfl) (by kernel_rfl) (fun _ _ _ h => h) (Or.inl ⟨?hg5q31, ?hy5q31⟩) (by assumption) ?rest5q31
          case hi5q31 => rfl
          case hg5q31 => rfl
          case' hy5q31 =>
            dsimp only [List.getElem?_toArray, List.getElem?_cons_succ, List.getElem?_cons_zero, List.getElem_cons_succ, List.getElem_cons_zero, List.getElem_toArray]
            intro w hSw
            try dsimp only at hSw
            go_simp
            try with_reducible rfl
          case' rest5q31 =>
            dsimp only [List.getElem?_toArray, List.getElem?_cons_succ, List.getElem?_cons_zero, List.getElem_cons_succ, List.getElem_cons_zero, List.getElem_toArray]
            try simp only [Act.put, List.setIfInBounds_toArray, List.set_cons_zero, List.set_cons_succ]
          refine wpAnyH_take (i := 6) (oi := ?o6q32) (v := ?v6q32) ?hi6q32 (by kernel_rfl) (by kernel_rfl) (by kernel_rfl) (fun _ _ _ h => h) (Or.inl ⟨?hg6q32, ?hy6q32⟩) (by assumption) ?rest6q32
          case hi6q32 => rfl
          case hg6q32 => rfl
          case' hy6q32 =>
            dsimp only [List.getElem?_toArray, List.getElem?_cons_succ, List.getElem?_cons_zero, List.getElem_cons_succ, List.getElem_cons_zero, List.getElem_toArray]
            intro w hSw
            try dsimp only at hSw
            go_simp
            try with_reducible rfl
          case' rest6q32 =>
            dsimp only [List.getElem?_toArray, List.getElem?_cons_succ, List.getElem?_cons_zero, List.getElem_cons_succ, List.getElem_cons_zero, List.getElem_toArray]
            try simp only [Act.put, List.setIfInBounds_toArray, List.set_cons_zero, List.set_cons_succ]
          refine wpAnyH_take (i := 7) (oi := ?o7q33) (v := ?v7q33) ?hi7q33 (by kernel_rfl) (by kernel_rfl) (by kernel_rfl) (fun _ _ _ h => h) (Or.inl ⟨?hg7q33, ?hy7q33⟩) (by assumption) ?rest7q33
          case hi7q33 => rfl
          case hg7q33 => rfl
          case' hy7q33 =>
            dsimp only [List.getElem?_toArray, List.getElem?_cons_succ, List.getElem?_cons_zero, List.getElem_cons_succ, List.getElem_cons_zero, List.getElem_toArray]
            intro w hSw
            try dsimp only at hSw
            go_simp
            try with_reducible rfl
          case' rest7q33 =>
            dsimp only [List.getElem?_toArray, List.getElem?_cons_succ, List.getElem?_cons_zero, List.getElem_cons_succ, List.getElem_cons_zero, List.getElem_toArray]
            try simp only [Act.put, List.setIfInBounds_toArray, List.set_cons_zero, List.set_cons_succ]
          refine wpAnyH_take (i := 8) (oi := ?o8q34) (v := ?v8q34) ?hi8q34 (by kernel_rfl) (by kernel_rfl) (by kernel_rfl) (fun _ _ _ h => h) (Or.inl ⟨?hg8q34, ?hy8q34⟩) (by assumption) ?rest8q34
          case hi8q34 => rfl
          case hg8q34 => rfl
          case' hy8q34 =>
            dsimp only [List.getElem?_toArray, List.getElem?_cons_succ, List.getElem?_cons_zero, List.getElem_cons_succ, List.getElem_cons_zero, List.getElem_toArray]
            intro w hSw
            try dsimp only at hSw
            go_simp
            try with_reducible rfl
          case' rest8q34 =>
            dsimp only [List.getElem?_toArray, List.getElem?_cons_succ, List.getElem?_cons_zero, List.getElem_cons_succ, List.getElem_cons_zero, List.getElem_toArray]
            try simp only [Act.put, List.setIfInBounds_toArray, List.set_cons_zero, List.set_cons_succ]
          refine wpAnyH_take (i := 9) (oi := ?o9q35) (v := ?v9q35) ?hi9q35 (by kernel_rfl) (by kernel_rfl) (by kernel_rfl) (fun _ _ _ h => h) (Or.inl ⟨?hg9q35, ?hy9q35⟩) (by assumption) ?rest9q35
          case hi9q35 => rfl
          case hg9q35 => rfl
          case' hy9q35 =>
            dsimp only [List.getElem?_toArray, List.getElem?_cons_succ, List.getElem?_cons_zero, List.getElem_cons_succ, List.getElem_cons_zero, List.getElem_toArray]
            intro w hSw
            try dsimp only at hSw
            go_simp
            try with_reducible rfl
          case' rest9q35 =>
            dsimp only [List.getElem?_toArray, List.getElem?_cons_succ, List.getElem?_cons_zero, List.getElem_cons_succ, List.getElem_cons_zero, List.getElem_toArray]
            try simp only [Act.put, List.setIfInBounds_toArray, List.set_cons_zero, List.set_cons_succ]
          refine wpAnyH_take (i := 10) (oi := ?o10q36) (v := ?v10q36) ?hi10q36 (by kernel_rfl) (by kernel_rfl) (by kernel_rfl) (fun _ _ _ h => h) (Or.inl ⟨?hg10q36, ?hy10q36⟩) (by assumption) ?rest10q36
          case hi10q36 => rfl
          case hg10q36 => rfl
          case' hy10q36 =>
            dsimp only [List.getElem?_toArray, List.getElem?_cons_succ, List.getElem?_cons_zero, List.getElem_cons_succ, List.getElem_cons_zero, List.getElem_toArray]
            intro w hSw
            try dsimp only at hSw
            go_simp
            try with_reducible rfl
          case' rest10q36 =>
            dsimp only [List.getElem?_toArray, List.getElem?_cons_succ, List.getElem?_cons_zero, List.getElem_cons_succ, List.getElem_cons_zero, List.getElem_toArray]
            try simp only [Act.put, List.setIfInBounds_toArray, List.set_cons_zero, List.set_cons_succ]
          refine wpAnyH_take (i := 11) (oi := ?o11q37) (v := ?v11q37) ?hi11q37 (by kernel_rfl) (by kernel_rfl) (by kernel_rfl) (fun _ _ _ h => h) (Or.inl ⟨?hg11q37, ?hy11q37⟩) (by assumption) ?rest11q37
          case hi11q37 => rfl
          case hg11q37 => rfl
          case' hy11q37 =>
            dsimp only [List.getElem?_toArray, List.getElem?_cons_succ, List.getElem?_cons_zero, List.getElem_cons_succ, List.getElem_cons_zero, List.getElem_toArray]
            intro w hSw
            try dsimp only at hSw
            go_simp
            try with_reducible rfl
          case' rest11q37 =>
            dsimp only [List.getElem?_toArray, List.getElem?_cons_succ, List.getElem?_cons_zero, List.getElem_cons_succ, List.getElem_cons_zero, List.getElem_toArray]
            try simp only [Act.put, List.setIfInBounds_toArray, List.set_cons_zero, List.set_cons_succ]
          refine wpAnyH_take (i := 12) (oi := ?o12q38) (v := ?v12q38) ?hi12q38 (by kernel_rfl) (by kernel_rfl) (by kernel_rfl) (fun _ _ _ h => h) (Or.inl ⟨?hg12q38, ?hy12q38⟩) (by assumption) ?rest12q38
          case hi12q38 => rfl
          case hg12q38 => rfl
          case' hy12q38 =>
            dsimp only [List.getElem?_toArray, List.getElem?_cons_succ, List.getElem?_cons_zero, List.getElem_cons_succ, List.getElem_cons_zero, List.getElem_toArray]
            intro w hSw
            try dsimp only at hSw
            go_simp
            try with_reducible rfl
          case' rest12q38 =>
            dsimp only [List.getElem?_toArray, List.getElem?_cons_succ, List.getElem?_cons_zero, List.getElem_cons_succ, List.getElem_cons_zero, List.getElem_toArray]
            try simp only [Act.put, List.setIfInBounds_toArray, List.set_cons_zero, List.set_cons_succ]
          refine wpAnyH_take (i := 13) (oi := ?o13q39) (v := ?v13q39) ?hi13q39 (by kernel_rfl) (by kernel_rfl) (by kernel_rfl) (fun _ _ _ h => h) (Or.inl ⟨?hg13q39, ?hy13q39⟩) (by assumption) ?rest13q39
          case hi13q39 => rfl
          case hg13q39 => rfl
          case' hy13q39 =>
            dsimp only [List.getElem?_toArray, List.getElem?_cons_succ, List.getElem?_cons_zero, List.getElem_cons_succ, List.getElem_cons_zero, List.getElem_toArray]
            intro w hSw
            try dsimp only at hSw
            go_simp
            try with_reducible rfl
          case' rest13q39 =>
            dsimp only [List.getElem?_toArray, List.getElem?_cons_succ, List.getElem?_cons_zero, List.getElem_cons_succ, List.getElem_cons_zero, List.getElem_toArray]
            try simp only [Act.put, List.setIfInBounds_toArray, List.set_cons_zero, List.set_cons_succ]
          refine wpAnyH_take (i := 14) (oi := ?o14q40) (v := ?v14q40) ?hi14q40 (by kernel_rfl) (by kernel_rfl) (by kernel_rfl) (fun _ _ _ h => h) (Or.inl ⟨?hg14q40, ?hy14q40⟩) (by assumption) ?rest14q40
          case hi14q40 => rfl
          case hg14q40 => rfl
          case' hy14q40 =>
            dsimp only [List.getElem?_toArray, List.getElem?_cons_succ, List.getElem?_cons_zero, List.getElem_cons_succ, List.getElem_cons_zero, List.getElem_toArray]
            intro w hSw
            try dsimp only at hSw
            go_simp
            try with_reducible rfl
          case' rest14q40 =>
            dsimp only [List.getElem?_toArray, List.getElem?_cons_succ, List.getElem?_cons_zero, List.getElem_cons_succ, List.getElem_cons_zero, List.getElem_toArray]
            try simp only [Act.put, List.setIfInBounds_toArray, List.set_cons_zero, List.set_cons_succ]
          refine wpAnyH_take (i := 15) (oi := ?o15q41) (v := ?v15q41) ?hi15q41 (by kernel_rfl) (by kernel_rfl) (by kernel_rfl) (fun _ _ _ h => h) (Or.inl ⟨?hg15q41, ?hy15q41⟩) (by assumption) ?rest15q41
          case hi15q41 => rfl
          case hg15q41 => rfl
          case' hy15q41 =>
            dsimp only [List.getElem?_toArray, List.getElem?_cons_succ, List.getElem?_cons_zero, List.getElem_cons_succ, List.getElem_cons_zero, List.getElem_toArray]
            intro w hSw
            try dsimp only at hSw
            go_simp
            try with_reducible rfl
          case' rest15q41 =>
            dsimp only [List.getElem?_toArray, List.getElem?_cons_succ, List.getElem?_cons_zero, List.getElem_cons_succ, List.getElem_cons_zero, List.getElem_toArray]
            try simp only [Act.put, List.setIfInBounds_toArray, List.set_cons_zero, List.set_cons_succ]
          refine wpAnyH_ready (rs := [16]) (by kernel_rfl) (by simp) ?_
          refine AllReadyH.cons rfl (fun K hK => ?_) AllReadyH.nil
          dsimp only [List.getElem?_toArray, List.getElem?_cons_succ, List.getElem?_cons_zero, List.getElem_cons_succ, List.getElem_cons_zero, List.getElem_toArray]
          go_simp
          refine hK.out _ _ ?_ (fun hHeld => ?_)
          · exact ⟨by show (w1.setCell ⟨E, i, none⟩ (.int .u64 x)).cell? _ = _; rw [World.cell?_setCell_far _ _ _ _ (show E ≠ A from Ne.symm hAE)]; exact hc1, by show (w1.setCell ⟨E, i, none⟩ (.int .u64 x)).cell? _ = _; rw [World.cell?_setCell_far _ _ _ _ (show E ≠ A from Ne.symm hAE)]; exact hc2⟩
          clear hK K
          try simp only [Act.put, List.setIfInBounds_toArray, List.set_cons_zero, List.set_cons_succ]
          refine wpAnyH_take (i := 17) (oi := ?o17q42) (v := ?v17q42) ?hi17q42 (by kernel_rfl) (by kernel_rfl) (by kernel_rfl) (fun _ _ _ h => h) (Or.inl ⟨?hg17q42, ?hy17q42⟩) (by assumption) ?rest17q42
          case hi17q42 => rfl
          case hg17q42 => rfl
          case' hy17q42 =>
            dsimp only [List.getElem?_toArray, List.getElem?_cons_succ, List.getElem?_cons_zero, List.getElem_cons_succ, List.getElem_cons_zero, List.getElem_toArray]
            intro w hSw
            try dsimp only at hSw
            go_simp
            try with_reducible rfl
          case' rest17q42 =>
            dsimp only [List.getElem?_toArray, List.getElem?_cons_succ, List.getElem?_cons_zero, List.getElem_cons_succ, List.getElem_cons_zero, List.getElem_toArray]
            try simp only [Act.put, List.setIfInBounds_toArray, List.set_cons_zero, List.set_cons_succ]
          refine wpAnyH_ready (rs := [18]) (by kernel_rfl) (by simp) ?_
          refine AllReadyH.cons rfl (fun K hK => ?_) AllReadyH.nil
          dsimp only [List.getElem?_toArray, List.getElem?_cons_succ, List.getElem?_cons_zero, List.getElem_cons_succ, List.getElem_cons_zero, List.getElem_toArray]
          go_simp
          refine hK.out _ _ ?_ (fun hHeld => ?_)
          · exact ⟨by show ((w1.setCell ⟨E, i, none⟩ (.int .u64 x)).setCell ⟨O, i, none⟩ (.int .u64 y)).cell? _ = _; rw [World.cell?_setCell_far _ _ _ _ (show O ≠ A from Ne.symm hAO), World.cell?_setCell_far _ _ _ _ (show E ≠ A from Ne.symm hAE)]; exact hc1, by show ((w1.setCell ⟨E, i, none⟩ (.int .u64 x)).setCell ⟨O, i, none⟩ (.int .u64 y)).cell? _ = _; rw [World.cell?_setCell_far _ _ _ _ (show O ≠ A from Ne.symm hAO), World.cell?_setCell_far _ _ _ _ (show E ≠ A from Ne.symm hAE)]; exact hc2⟩
          clear hK K
          try simp only [Act.put, List.setIfInBounds_toArray, List.set_cons_zero, List.set_cons_succ]
          refine wpAnyH_done (by kernel_rfl) ?_ _
          refine NoPanic.normal ?_
          have kE2 : Kept (Pfx ((w1.setCell ⟨E, i, none⟩ (.int .u64 x)).setCell ⟨O, i, none⟩ (.int .u64 y)).drew E 22 h (fun j => .int .u64 (if j < i + 1 then a (2 * j) else 0))) := ⟨(hE.out.set i (.int .u64 x)).setOther (a := ⟨O, i, none⟩) hEO _ |>.congr fun j _ => by
            by_cases e : j = i
            · rw [if_pos e, if_pos (by omega), e, kei.out.1, kxy.out.1]
            · rw [if_neg e]
              by_cases e2 : j < i
              · rw [if_pos e2, if_pos (by omega)]
              · rw [if_neg e2, if_neg (by omega)]⟩
          have kO2 : Kept (Pfx ((w1.setCell ⟨E, i, none⟩ (.int .u64 x)).setCell ⟨O, i, none⟩ (.int .u64 y)).drew O 22 h (fun j => .int .u64 (if j < i + 1 then a (2 * j + 1) else 0))) := ⟨((hO.out.setOther (a := ⟨E, i, none⟩) (Ne.symm hEO) _).set i (.int .u64 y)).congr fun j _ => by
            by_cases e : j = i
            · rw [if_pos e, if_pos (by omega), e, kei.out.1, kei.out.2, kxy.out.2]
            · rw [if_neg e]
              by_cases e2 : j < i
              · rw [if_pos e2, if_pos (by omega)]
              · rw [if_neg e2, if_neg (by omega)]⟩
          have kB5 : Kept (Below w.heap.size w ((w1.setCell ⟨E, i, none⟩ (.int .u64 x)).setCell ⟨O, i, none⟩ (.int .u64 y)).drew) := ⟨Below.drew (Below.put (Below.put hB.out (Nat.le_of_lt hEX) _) (Nat.le_of_lt hOX) _)⟩
          have kb5 : Kept (((w1.setCell ⟨E, i, none⟩ (.int .u64 x)).setCell ⟨O, i, none⟩ (.int .u64 y)).drew.cell? ⟨w.heap.size, 0, none⟩ = some (.int .u64 p)) := ⟨by
            show ((w1.setCell ⟨E, i, none⟩ (.int .u64 x)).setCell ⟨O, i, none⟩ (.int .u64 y)).cell? _ = _
            rw [World.cell?_setCell_far _ _ _ _ (show O ≠ w.heap.size by omega), World.cell?_setCell_far _ _ _ _ (show E ≠ w.heap.size by omega)]; exact kbx.out⟩
          clear hE hO hB hS hHeld hEc hEf hEl hOc hOf hOl hc1 hc2
          go_wp2
          go_roundw
          case rel => exact ⟨i + 1, by go_num, by omega, kE2, kO2, kB5, kb5⟩
          case measure => first | (simp [intOf]; omega) | (simp [intOf]; done)
        · have hih : i = h := by omega
          have kE2 : Kept (Pfx w1 E 22 h (fun j => .int .u64 (a (2 * j)))) := ⟨hE.out.congr fun j hj => by rw [if_pos (by omega)]⟩
          have kO2 : Kept (Pfx w1 O 22 h (fun j => .int .u64 (a (2 * j + 1)))) := ⟨hO.out.congr fun j hj => by rw [if_pos (by omega)]⟩
          have csq : Kept (∀ w, Calls Try.prog 15 #[.agg #[.int .u64 p], .int .u64 wv, .int .u64 wv] w (Gives (.int .u64 (fmul p wv wv)) w)) := ⟨fun w => mul_c p wv wv w kw.out kw.out⟩
          have hsqU : Kept (U (fmul p wv wv)) := ⟨fmul_U⟩
          generalize fmul p wv wv = sq at *
          have hbx2 := hbx.out
          have hbl2 : w.heap.size < w1.heap.size := by have := hO.out.lt; omega
          have kB := (⟨hB.out⟩ : Kept _)
          clear hE hO hAw hih hbx hB
          go_wp2_with (first | (go_at_call 15; refine use (csq.out _) ?_; intro pw1; refine Stop.out ?_))
          refine ⟨?_⟩
          have kB4 : Kept (Below w.heap.size w (after w1 pw1)) := ⟨Below.later kB.out _⟩
          have kE3 : Kept (Pfx (after w1 pw1) E 22 h (fun j => .int .u64 (a (2 * j)))) := ⟨kE2.out.of_block ((after_below w1 pw1).block E kE2.out.lt)⟩
          have kO3 : Kept (Pfx (after w1 pw1) O 22 h (fun j => .int .u64 (a (2 * j + 1)))) := ⟨kO2.out.of_block ((after_below w1 pw1).block O kO2.out.lt)⟩
          have hbx3 : (after w1 pw1).cell? ⟨w.heap.size, 0, none⟩ = some (.int .u64 p) := by rw [(after_below w1 pw1).cell (p := ⟨w.heap.size, 0, none⟩) hbl2]; exact hbx2
          have hbl3 : w.heap.size < (after w1 pw1).heap.size := by have := (after_below w1 pw1).size; omega
          generalize after w1 pw1 = w4 at kB4 kE3 kO3 hbx3 hbl3 ⊢
          clear hbx2 hbl2 kE2 kO2 kB csq
          go_wp2_with (first | (go_at_call 66; refine (kih.out w4 E h _ sq hsqU.out (fun i => ka.out (2 * i)) kE3.out).mono ?_; rintro e w5 ⟨rfl, hE5, hU5⟩; refine Stop.out ?_))
          refine ⟨?_⟩
          have kE5 := (⟨hE5⟩ : Kept _)
          have kO5 : Kept (Pfx w5 O 22 h (fun j => .int .u64 (a (2 * j + 1)))) := ⟨kO3.out.upd hU5 (Ne.symm hEO)⟩
          have kB5 : Kept (Below w.heap.size w w5) := ⟨Upd.below kB4.out hU5 (Nat.le_of_lt hEX)⟩
          have hbx5 : w5.cell? ⟨w.heap.size, 0, none⟩ = some (.int .u64 p) := by rw [hU5.cell (q := ⟨w.heap.size, 0, none⟩) hbl3 (show w.heap.size ≠ E by omega)]; exact hbx3
          have hbl5 : w.heap.size < w5.heap.size := by have := hU5.size; omega
          clear hE5 hU5 kE3 kO3 hbx3 hbl3
          go_wp2_with (first | (go_at_call 66; refine (kih.out w5 O h _ sq hsqU.out (fun i => ka.out (2 * i + 1)) kO5.out).mono ?_; rintro e w6 ⟨rfl, hO6, hU6⟩; refine Stop.out ?_))
          refine ⟨?_⟩
          have kO6 := (⟨hO6⟩ : Kept _)
          have kE6 : Kept (Pfx w6 E 22 h (fun j => .int .u64 (vlF p d (fun i => a (2 * i)) sq j))) := ⟨kE5.out.upd hU6 hEO⟩
          have kB6 : Kept (Below w.heap.size w w6) := ⟨Upd.below kB5.out hU6 (Nat.le_of_lt hOX)⟩
          have hbx6 : w6.cell? ⟨w.heap.size, 0, none⟩ = some (.int .u64 p) := by rw [hU6.cell (q := ⟨w.heap.size, 0, none⟩) hbl5 (show w.heap.size ≠ O by omega)]; exact hbx5
          have hbl6 : w.heap.size < w6.heap.size := by have := hU6.size; omega
          have kA6 : Kept (Pfx w6 A 22 n (fun j => .int .u64 (a j))) := ⟨kA.out.of_block (kB6.out.block A kA.out.lt)⟩
          have kEU : Kept (∀ j, U (vlF p d (fun i => a (2 * i)) sq j)) := ⟨vlF_U d _ _ (fun i => ka.out _)⟩
          have kOU : Kept (∀ j, U (vlF p d (fun i => a (2 * i + 1)) sq j)) := ⟨vlF_U d _ _ (fun i => ka.out _)⟩
          have kpb : Kept (∀ w', Upd A w6 w' → w'.cell? ⟨w.heap.size, 0, none⟩ = some (.int .u64 p) ∧ w.heap.size < w'.heap.size) := ⟨fun w' hu => ⟨by rw [hu.cell (q := ⟨w.heap.size, 0, none⟩) hbl6 (show w.heap.size ≠ A by omega)]; exact hbx6, by have := hu.size; omega⟩⟩
          clear hO6 hU6 kE5 kO5 hbx5 hbl5 hbx6 hbl6
          generalize vlF p d (fun i => a (2 * i)) sq = FE at *
          generalize vlF p d (fun i => a (2 * i + 1)) sq = FO at *
          generalize hFR : vlF p (d + 1) a wv = FR at *
          have kFR := (⟨hFR⟩ : Kept _)
          clear hFR
          go_wp2
          go_loopw [11, 61] (fun vp v wr => ∃ (i : Nat) (pv : Int), v = .int .i64 (i : Int) ∧ vp = .int .u64 pv ∧ i ≤ h ∧ Kept (pv = pwF p wv i) ∧ Kept (Pfx wr A 22 n (fun j => .int .u64 (if j < i then FR j else if h ≤ j ∧ j < h + i then FR j else a j))) ∧ Kept (Upd A w6 wr)) (fun _ v _ => ((h : Int) - intOf v).toNat)
          case atStart => exact ⟨0, 1, rfl, rfl, by omega, ⟨rfl⟩, ⟨kA6.out.congr fun j _ => by rw [if_neg (by omega), if_neg (by omega)]⟩, ⟨Upd.refl _ _⟩⟩
          case round =>
            obtain ⟨k, pv, rfl, rfl, hk, hpv, hP, hU⟩ := hrel
            obtain ⟨w7, rfl⟩ : ∃ x, x = wr := ⟨wr, rfl⟩
            by_cases h6 : k < h
            · have hE7 := kE6.out.upd hU.out (show E ≠ A by omega)
              have hO7 := kO6.out.upd hU.out (show O ≠ A by omega)
              have hec := hE7.cell h6
              have hoc := hO7.cell h6
              have hel := hE7.lt
              have hol := hO7.lt
              obtain ⟨hpb, hpl⟩ := kpb.out w7 hU.out
              obtain ⟨kh, hkh⟩ : ∃ kh, k + h = kh := ⟨_, rfl⟩
              have hw4 : IntKind.i64.wrap ((k : Int) + (h : Int)) = (kh : Int) := by rw [IntKind.wrap_i64]; omega
              have hkn : k < n := by omega
              have hkhn : kh < n := by omega
              have hc1 := hP.out.cell hkn
              have hf1 := hP.out.frozen k
              have hc2 := hP.out.cell hkhn
              have hf2 := hP.out.frozen kh
              have hPl := hP.out.lt
              have hpvU : U pv := by rw [hpv.out]; exact pwF_U k
              have cm1 : Kept (∀ w, Calls Try.prog 15 #[.agg #[.int .u64 p], .int .u64 pv, .int .u64 (FO k)] w (Gives (.int .u64 (fmul p pv (FO k))) w)) := ⟨fun w => mul_c p _ _ w hpvU (kOU.out k)⟩
              have cad : Kept (∀ w, Calls Try.prog 56 #[.agg #[.int .u64 p], .int .u64 (FE k), .int .u64 (fmul p pv (FO k))] w (Gives (.int .u64 (fadd p (FE k) (fmul p pv (FO k)))) w)) := ⟨fun w => add_c p _ _ w (kEU.out k) fmul_U⟩
              have csb : Kept (∀ w, Calls Try.prog 59 #[.agg #[.int .u64 p], .int .u64 (FE k), .int .u64 (fmul p pv (FO k))] w (Gives (.int .u64 (fsub p (FE k) (fmul p pv (FO k)))) w)) := ⟨fun w => sub_c p _ _ w (kEU.out k) fmul_U⟩
              have cm2 : Kept (∀ w, Calls Try.prog 15 #[.agg #[.int .u64 p], .int .u64 pv, .int .u64 wv] w (Gives (.int .u64 (fmul p pv wv)) w)) := ⟨fun w => mul_c p _ _ w hpvU kw.out⟩
              have kf1 : Kept (FR k = fadd p (FE k) (fmul p pv (FO k))) := ⟨by rw [kvl.out, if_pos h6, hpv.out]⟩
              have kf2 : Kept (FR kh = fsub p (FE k) (fmul p pv (FO k))) := ⟨by rw [kvl.out, if_neg (by omega), show kh - h = k by omega, hpv.out]⟩
              have kpn : Kept (fmul p pv wv = pwF p wv (k + 1)) := ⟨by rw [pwF, ← hpv.out]⟩
              have kkh := (⟨hkh⟩ : Kept _)
              have hkk : k ≠ kh := by omega
              rw [← kf1.out] at cad
              rw [← kf2.out] at csb
              generalize hr1 : FR k = r1 at *
              generalize hr2 : FR kh = r2 at *
              have kr := (⟨⟨hr1, hr2⟩⟩ : Kept (FR k = r1 ∧ FR kh = r2))
              generalize fmul p pv (FO k) = tt at *
              generalize FE k = fe at *
              generalize FO k = fo at *
              generalize fmul p pv wv = pv2 at *
              clear hE7 hO7 hpvU hpv hr1 hr2 hkh kf1 kf2
              go_wp2
              first | refine region_quiet1 (by kernel_rfl) ?_ | refine region_quiet (by kernel_rfl) ?_
              repeat (go_big_quiet_step (first | (go_at_call 15; with_reducible exact quiet (cm1.out _))))
              refine wpQuiet_nil ?_
              intro _
              go_wp2
              first | refine region_tail1 (by kernel_rfl) (by kernel_rfl) (by kernel_rfl) ?_ | refine region_tail (by kernel_rfl) (by kernel_rfl) (by kernel_rfl) ?_
              simp only [initOf, lastOf]
              repeat (go_big_quiet_step (first | (go_at_call 56; with_reducible exact quiet (cad.out _))))
              refine wpQuiet_nil ?_
              intro _
              go_wp2
              first | refine region_tail1 (by kernel_rfl) (by kernel_rfl) (by kernel_rfl) ?_ | refine region_tail (by kernel_rfl) (by kernel_rfl) (by kernel_rfl) ?_
              simp only [initOf, lastOf]
              repeat (go_big_quiet_step (first | (go_at_call 59; with_reducible exact quiet (csb.out _))))
              refine wpQuiet_nil ?_
              intro _
              go_wp2_with (first | (go_at_call 15; (first | with_reducible refine use1 (cm2.out _) ?_ | with_reducible refine use (cm2.out _) ?_); intro pw))
              go_roundw
              case rel =>
                refine ⟨k + 1, pv2, by go_num, rfl, by omega, kpn, ⟨?_⟩, ⟨?_⟩⟩
                · refine Pfx.congr (Pfx.later5 (Pfx.set (Pfx.later5 (Pfx.set (Pfx.later5 hP.out _) k (.int .u64 r1)) _) kh (.int .u64 r2)) _) (fun j hj => ?_)
                  have hk2 := kkh.out
                  by_cases e1 : j = kh
                  · rw [if_pos e1, if_neg (by omega), if_pos (by omega), e1, kr.out.2]
                  · rw [if_neg e1]
                    by_cases e2 : j = k
                    · rw [if_pos e2, if_pos (by omega), e2, kr.out.1]
                    · rw [if_neg e2]
                      by_cases e3 : j < k
                      · rw [if_pos e3, if_pos (by omega)]
                      · rw [if_neg e3, if_neg (show ¬ j < k + 1 by omega)]
                        by_cases e4 : h ≤ j ∧ j < h + k
                        · rw [if_pos e4, if_pos (by omega)]
                        · rw [if_neg e4, if_neg (by omega)]
                · exact Upd.later (Upd.put (Upd.later (Upd.put (Upd.later hU.out _) k _) _) kh _) _
              case measure => first | (simp [intOf]; omega) | (simp [intOf]; done)
            · have hkh : k = h := by omega
              have kF : Kept (Pfx w7 A 22 n (fun j => .int .u64 (FR j))) := ⟨hP.out.congr fun j hj => by
                by_cases e3 : j < k
                · rw [if_pos e3]
                · rw [if_neg e3, if_pos (by omega)]⟩
              have kUU : Kept (Upd A w w7) := ⟨(Upd.of_below kB6.out).trans hU.out⟩
              clear hP hU
              go_wp2
              refine bodyPost_end (v := .tuple #[]) (by simp [results, Try.results66, go_sem]) rfl ⟨rfl, by rw [kFR.out]; exact kF.out, kUU.out⟩
end Go.Proofs.Ytjnlnbkdnjainaa
