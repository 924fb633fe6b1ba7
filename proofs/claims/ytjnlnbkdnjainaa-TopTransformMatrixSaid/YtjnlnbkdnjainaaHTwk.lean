/- The functions of TopTransformMatrix. -/
import Derived.Test.YtjnlnbkdnjainaaHTaw
import Derived.Test.YtjnlnbkdnjainaaHRap
namespace Go.Proofs.Ytjnlnbkdnjainaa
open Go.RowKit Go.Sort

set_option maxRecDepth 100000
theorem troot0_c (p : Int) (w : World) : Calls Try.prog 63 #[.agg #[.int .u64 p], .int .i64 0] w (Gives (.tuple #[.int .u64 0, .bool false]) w) := by
  go_enter Try.func63, Try.ntmps63
  go_wp2
  go_ret2
  exact ⟨rfl, (by repeat (first | exact Below.refl _ _ | refine Below.later ?_ _ | refine Below.box ?_ _ | refine Below.drew ?_ | refine Below.put ?_ (by dsimp only; omega) _))⟩
theorem rootOk0 (p : Int) : rootOk p ((0 : Nat) : Int) = false := by
  unfold rootOk; simp
theorem ldomain_no (p : Int) (n : Nat) (w : World) (hv : vld p = true) (h2 : n ≤ 4096) (ho : rootOk p n = false) : Calls Try.prog 24 #[.agg #[.int .u64 p], .int .u64 1, .int .i64 (n : Int)] w (Gives (.tuple #[.slice none 0 0, .int .i64 1]) w) := by
  have cv : Kept (∀ w, Calls Try.prog 50 #[.agg #[.int .u64 p]] w (Gives (.bool true) w)) := ⟨fun w => by have := valid_c p w; rw [hv] at this; exact this⟩
  have cr : Kept (∀ w, Calls Try.prog 63 #[.agg #[.int .u64 p], .int .i64 (n : Int)] w (Gives (.tuple #[.int .u64 0, .bool false]) w)) := ⟨fun w => by
    rcases Nat.eq_zero_or_pos n with e | e
    · subst e; exact troot0_c p w
    · have := troot_c p n w e h2
      rw [ho, root_not ho] at this; exact this⟩
  have cd : Kept (∀ w, Calls Try.prog 14 #[.agg #[.int .u64 p], .int .u64 1] w (Gives (.int .u64 (fred p 1)) w)) := ⟨fun w => red_c p 1 w ⟨by decide, by decide⟩⟩
  generalize fred p 1 = r at *
  clear ho hv h2
  go_enter Try.func24, Try.ntmps24
  go_wp2_with (first | (go_at_call 50; (first | with_reducible refine use1 (cv.out _) ?_ | with_reducible refine use (cv.out _) ?_); intro pw) | (go_at_call 63; (first | with_reducible refine use1 (cr.out _) ?_ | with_reducible refine use (cr.out _) ?_); intro pw) | (go_at_call 14; (first | with_reducible refine use1 (cd.out _) ?_ | with_reducible refine use (cd.out _) ?_); intro pw))
  go_ret2
  exact ⟨rfl, (by repeat (first | exact Below.refl _ _ | refine Below.later ?_ _ | refine Below.box ?_ _ | refine Below.drew ?_ | refine Below.put ?_ (by dsimp only; omega) _))⟩
set_option maxHeartbeats 8000000 in
theorem tinverse_lc (p : Int) (d n : Nat) (u : Option Addr) (c : Nat) (l : List Int) (w : World) (hv : vld p = true) (hd : d ≤ 12) (hnd : 2 ^ d = n) (hok : rootOk p n = true) (h1 : Ls w u l) (hn : l.length = n) : Calls Try.prog 27 #[.agg #[.int .u64 p], .slice u n c] w (GivesF n (fun i => fmul p (vlF p d (fun j => (l.getD j 0) % p) (finv p (rootV p n)) i) (finv p n)) w) := by
  have hn1 : 1 ≤ n := by rw [← hnd]; exact Nat.one_le_two_pow
  have hn6 : n ≤ 4096 := by rw [← hnd]; exact Nat.pow_le_pow_right (by omega) hd
  have hp := vld_pos hv
  have cva : Kept (∀ w, Calls Try.prog 50 #[.agg #[.int .u64 p]] w (Gives (.bool true) w)) := ⟨fun w => by have := valid_c p w; rw [hv] at this; exact this⟩
  have cro : Kept (∀ w, Calls Try.prog 63 #[.agg #[.int .u64 p], .int .i64 (n : Int)] w (Gives (.tuple #[.int .u64 (rootV p n), .bool true]) w)) := ⟨fun w => by have := troot_c p n w hn1 hn6; rw [hok] at this; exact this⟩
  have cre : Kept (∀ w', Below w.heap.size w w' → Calls Try.prog 65 #[.agg #[.int .u64 p], .slice u n c] w' (GivesP n (fun j => (l.getD j 0) % p) w')) := ⟨fun w' hw => treduced_lc p u n c l w' hv (h1.below (Nat.le_refl _) hw) hn (by omega)⟩
  have hrU : U (rootV p n) := rootV_U
  have hUp : U p := ⟨by omega, by omega⟩
  have ci1 : Kept (∀ w, Calls Try.prog 62 #[.agg #[.int .u64 p], .int .u64 (rootV p n)] w (Gives (.int .u64 (finv p (rootV p n))) w)) := ⟨fun w => inv_c p (rootV p n) w hUp hrU⟩
  have ci2 : Kept (∀ w, Calls Try.prog 62 #[.agg #[.int .u64 p], .int .u64 (n : Int)] w (Gives (.int .u64 (finv p n)) w)) := ⟨fun w => inv_c p n w hUp ⟨by omega, by omega⟩⟩
  have hiU : U (finv p (rootV p n)) := finv_U
  have hnU : U (finv p n) := finv_U
  have cvl : Kept (∀ w A, Pfx w A 22 n (fun j => .int .u64 ((l.getD j 0) % p)) → Calls Try.prog 66 #[.agg #[.int .u64 p], .slice (some ⟨A, 0, none⟩) n n, .int .u64 (finv p (rootV p n))] w (fun e w' => e = .returned (.tuple #[]) ∧ Pfx w' A 22 n (fun j => .int .u64 (vlF p d (fun j => (l.getD j 0) % p) (finv p (rootV p n)) j)) ∧ Upd A w w')) := ⟨fun w A hA => by
    have := values_c p d hd w A n (fun j => (l.getD j 0) % p) (finv p (rootV p n)) hiU (fun i => ⟨Int.emod_nonneg _ (by omega), by have := Int.emod_lt_of_pos (l.getD i 0) (show 0 < p by omega); omega⟩)
    rw [hnd] at this
    exact this hA⟩
  have kFU : Kept (∀ j, U (vlF p d (fun j => (l.getD j 0) % p) (finv p (rootV p n)) j)) := ⟨vlF_U d _ _ (fun i => ⟨Int.emod_nonneg _ (by omega), by have := Int.emod_lt_of_pos (l.getD i 0) (show 0 < p by omega); omega⟩)⟩
  have hs := h1.small
  rw [hn] at hs
  generalize vlF p d (fun j => (l.getD j 0) % p) (finv p (rootV p n)) = FR at *
  generalize finv p (rootV p n) = ri at *
  generalize rootV p n = rt at *
  generalize finv p n = ni at *
  have cmu : Kept (∀ w j, Calls Try.prog 15 #[.agg #[.int .u64 p], .int .u64 (FR j), .int .u64 ni] w (Gives (.int .u64 (fmul p (FR j) ni)) w)) := ⟨fun w j => mul_c p _ _ w (kFU.out j) hnU⟩
  have hcv : IntKind.u64.wrap ((n : Nat) : Int) = (n : Int) := by rw [IntKind.wrap_u64]; omega
  clear h1 hn hnd hok
  go_enter Try.func27, Try.ntmps27
  go_wp2_with (first | (go_at_call 50; (first | with_reducible refine use1 (cva.out _) ?_ | with_reducible refine use (cva.out _) ?_); intro pw) | (go_at_call 63; (first | with_reducible refine use1 (cro.out _) ?_ | with_reducible refine use (cro.out _) ?_); intro pw) | (go_at_call 65; refine Stop.out ?_))
  refine ⟨?_⟩
  refine call_genE (fun W' => Below w.heap.size w W' ∧ W'.cell? ⟨w.heap.size, 0, none⟩ = some (.int .u64 p) ∧ w.heap.size < W'.heap.size) ?fx ?_
  case fx => exact ⟨(by repeat (first | exact Below.refl _ _ | refine Below.later ?_ _ | refine Below.box ?_ _ | refine Below.drew ?_ | refine Below.put ?_ (by dsimp only; omega) _)), by simp [go_sem], by simp⟩
  rintro W1 ⟨hB1, hb1, hl1⟩
  refine (cre.out W1 hB1).mono ?_
  rintro e w2 ⟨V, rfl, hP2, hB2, hV2⟩
  have hb2 : w2.cell? ⟨w.heap.size, 0, none⟩ = some (.int .u64 p) := by rw [hB2.cell (p := ⟨w.heap.size, 0, none⟩) hl1]; exact hb1
  have hl2 : w.heap.size < w2.heap.size := by have := hB2.size; omega
  have kB2 := (⟨Below.next hB1 hB2⟩ : Kept _)
  have kP2 := (⟨hP2⟩ : Kept _)
  have hVw : w.heap.size < V := by omega
  have hS : Kept (∀ w', Below w2.heap.size w2 w' → w'.cell? ⟨w.heap.size, 0, none⟩ = some (.int .u64 p)) := ⟨fun w' hw => by rw [hw.cell (p := ⟨w.heap.size, 0, none⟩) hl2]; exact hb2⟩
  clear hB1 hb1 hl1 hP2 hB2 hV2
  go_wp2
  refine wp_region_noPanic ?_
  refine wp_region_held_drew (S := (fun w' => w'.cell? ⟨w.heap.size, 0, none⟩ = some (.int .u64 p))) (by kernel_rfl) (hS.out _ (by repeat (first | exact Below.refl _ _ | refine Below.later ?_ _ | refine Below.box ?_ _ | refine Below.drew ?_ | refine Below.put ?_ (by dsimp only; omega) _))) (fun hHeld => ?_)
  refine wpAnyH_take (i := 0) (oi := ?o0q1) (v := ?v0q1) ?hi0q1 (by kernel_rfl) (by kernel_rfl) (by kernel_rfl) (fun _ _ _ h => h) (Or.inl ⟨?hg0q1, ?hy0q1⟩) (by assumption) ?rest0q1
  case hi0q1 => rfl
  case hg0q1 => rfl
  case' hy0q1 =>
    dsimp only [List.getElem?_toArray, List.getElem?_cons_succ, List.getElem?_cons_zero, List.getElem_cons_succ, List.getElem_cons_zero, List.getElem_toArray]
    intro w hSw
    try dsimp only at hSw
    go_simp
    try with_reducible rfl
  case' rest0q1 =>
    dsimp only [List.getElem?_toArray, List.getElem?_cons_succ, List.getElem?_cons_zero, List.getElem_cons_succ, List.getElem_cons_zero, List.getElem_toArray]
    try simp only [Act.put, List.setIfInBounds_toArray, List.set_cons_zero, List.set_cons_succ]
  refine wpAnyH_take (i := 1) (oi := ?o1q2) (v := ?v1q2) ?hi1q2 (by kernel_rfl) (by kernel_rfl) (by kernel_rfl) (fun _ _ _ h => h) (Or.inl ⟨?hg1q2, ?hy1q2⟩) (by assumption) ?rest1q2
  case hi1q2 => rfl
  case hg1q2 => rfl
  case' hy1q2 =>
    dsimp only [List.getElem?_toArray, List.getElem?_cons_succ, List.getElem?_cons_zero, List.getElem_cons_succ, List.getElem_cons_zero, List.getElem_toArray]
    intro w hSw
    try dsimp only at hSw
    go_simp
    try with_reducible rfl
  case' rest1q2 =>
    dsimp only [List.getElem?_toArray, List.getElem?_cons_succ, List.getElem?_cons_zero, List.getElem_cons_succ, List.getElem_cons_zero, List.getElem_toArray]
    try simp only [Act.put, List.setIfInBounds_toArray, List.set_cons_zero, List.set_cons_succ]
  refine wpAnyH_take (i := 2) (oi := ?o2q3) (v := ?v2q3) ?hi2q3 (by kernel_rfl) (by kernel_rfl) (by kernel_rfl) (fun _ _ _ h => h) (Or.inl ⟨?hg2q3, ?hy2q3⟩) (by assumption) ?rest2q3
  case hi2q3 => rfl
  case hg2q3 => rfl
  case' hy2q3 =>
    dsimp only [List.getElem?_toArray, List.getElem?_cons_succ, List.getElem?_cons_zero, List.getElem_cons_succ, List.getElem_cons_zero, List.getElem_toArray]
    intro w hSw
    try dsimp only at hSw
    go_simp
    try with_reducible rfl
  case' rest2q3 =>
    dsimp only [List.getElem?_toArray, List.getElem?_cons_succ, List.getElem?_cons_zero, List.getElem_cons_succ, List.getElem_cons_zero, List.getElem_toArray]
    try simp only [Act.put, List.setIfInBounds_toArray, List.set_cons_zero, List.set_cons_succ]
  refine wpAnyH_take (i := 3) (oi := ?o3q4) (v := ?v3q4) ?hi3q4 (by kernel_rfl) (by kernel_rfl) (by kernel_rfl) (fun _ _ _ h => h) (Or.inl ⟨?hg3q4, ?hy3q4⟩) (by assumption) ?rest3q4
  case hi3q4 => rfl
  case hg3q4 => rfl
  case' hy3q4 =>
    dsimp only [List.getElem?_toArray, List.getElem?_cons_succ, List.getElem?_cons_zero, List.getElem_cons_succ, List.getElem_cons_zero, List.getElem_toArray]
    intro w hSw
    try dsimp only at hSw
    go_simp
    try with_reducible rfl
  case' rest3q4 =>
    dsimp only [List.getElem?_toArray, List.getElem?_cons_succ, List.getElem?_cons_zero, List.getElem_cons_succ, List.getElem_cons_zero, List.getElem_toArray]
    try simp only [Act.put, List.setIfInBounds_toArray, List.set_cons_zero, List.set_cons_succ]
  refine wpAnyH_ready (rs := [4]) (by kernel_rfl) (by simp) ?_
  refine AllReadyH.cons rfl (fun K hK => ?_) AllReadyH.nil
  dsimp only [List.getElem?_toArray, List.getElem?_cons_succ, List.getElem?_cons_zero, List.getElem_cons_succ, List.getElem_cons_zero, List.getElem_toArray]
  go_simp
  go_at_call 62
  refine use (ci1.out _) ?_
  intro pa
  go_wp2
  have hB3 : Below w2.heap.size w2 (after w2.drew pa) := (by repeat (first | exact Below.refl _ _ | refine Below.later ?_ _ | refine Below.box ?_ _ | refine Below.drew ?_ | refine Below.put ?_ (by dsimp only; omega) _))
  have hP3 : Pfx (after w2.drew pa) V 22 n (fun j => .int .u64 ((l.getD j 0) % p)) := kP2.out.of_block (hB3.block V kP2.out.lt)
  generalize after w2.drew pa = w3 at hB3 hP3 hK ⊢
  refine hK.out _ _ ?_ (fun hHeld => ?_)
  · exact hS.out _ (hB3)
  clear hK K
  try simp only [Act.put, List.setIfInBounds_toArray, List.set_cons_zero, List.set_cons_succ]
  refine wpAnyH_ready (rs := [5]) (by kernel_rfl) (by simp) ?_
  refine AllReadyH.cons rfl (fun K hK => ?_) AllReadyH.nil
  dsimp only [List.getElem?_toArray, List.getElem?_cons_succ, List.getElem?_cons_zero, List.getElem_cons_succ, List.getElem_cons_zero, List.getElem_toArray]
  go_simp
  go_at_call 66
  refine (cvl.out w3 V hP3).mono ?_
  rintro e w4 ⟨rfl, hP4, hU4⟩
  go_wp2
  have hl3 : w.heap.size < w3.heap.size := by have := hB3.size; omega
  have hb4 : w4.cell? ⟨w.heap.size, 0, none⟩ = some (.int .u64 p) := by rw [hU4.cell (q := ⟨w.heap.size, 0, none⟩) hl3 (show w.heap.size ≠ V by omega)]; exact hS.out w3 hB3
  refine hK.out _ _ hb4 (fun hHeld => ?_)
  clear hK K
  try simp only [Act.put, List.setIfInBounds_toArray, List.set_cons_zero, List.set_cons_succ]
  refine wpAnyH_done (by kernel_rfl) ?_ _
  refine NoPanic.normal ?_
  have kP4 := (⟨hP4⟩ : Kept _)
  have kB4 : Kept (Below w.heap.size w w4) := ⟨Upd.below (Below.next kB2.out hB3) hU4 (Nat.le_of_lt hVw)⟩
  have hl4 : w.heap.size < w4.heap.size := by have := hU4.size; omega
  clear hP3 hP4 hU4 hB3 hHeld hS hb2 hl2 hl3
  go_wp2_with (first | (go_at_call 62; refine use (ci2.out _) ?_; intro pb; refine Stop.out ?_))
  refine ⟨?_⟩
  have kB5 : Kept (Below w.heap.size w (after w4 pb)) := ⟨Below.later kB4.out _⟩
  have kP5 := (⟨kP4.out.later5 pb⟩ : Kept _)
  have kb5 : Kept ((after w4 pb).cell? ⟨w.heap.size, 0, none⟩ = some (.int .u64 p)) := ⟨by rw [(after_below w4 pb).cell (p := ⟨w.heap.size, 0, none⟩) hl4]; exact hb4⟩
  generalize after w4 pb = w5 at kB5 kP5 kb5 ⊢
  clear hb4 hl4 kP4 kB4
  go_wp2
  go_loopw [40] (fun v wr => ∃ (i : Nat), v = .int .i64 (i : Int) ∧ i ≤ n ∧ Kept (Pfx wr V 22 n (fun j => .int .u64 (if j < i then fmul p (FR j) ni else FR j))) ∧ Kept (Below w.heap.size w wr) ∧ Kept (wr.cell? ⟨w.heap.size, 0, none⟩ = some (.int .u64 p))) (fun v _ => ((n : Int) - intOf v).toNat)
  case atStart => exact ⟨0, rfl, by omega, ⟨kP5.out.congr fun j _ => by rw [if_neg (by omega)]⟩, kB5, kb5⟩
  case round =>
    obtain ⟨i, rfl, hi, hP, hB, hbx⟩ := hrel
    obtain ⟨w1, rfl⟩ : ∃ x, x = wr := ⟨wr, rfl⟩
    by_cases h : i < n
    · have hVc := hP.out.cell h
      rw [if_neg (Nat.lt_irrefl _)] at hVc
      have hVf := hP.out.frozen i
      have hVl := hP.out.lt
      have hb5 := hbx.out
      have hbl : w.heap.size < w1.heap.size := by omega
      have cm : Kept (∀ w, Calls Try.prog 15 #[.agg #[.int .u64 p], .int .u64 (FR i), .int .u64 ni] w (Gives (.int .u64 (fmul p (FR i) ni)) w)) := ⟨fun w => cmu.out w i⟩
      obtain ⟨z, hz⟩ : ∃ z, fmul p (FR i) ni = z := ⟨_, rfl⟩
      have kz := (⟨hz⟩ : Kept _)
      rw [hz] at cm
      obtain ⟨fi, hfi⟩ : ∃ fi, FR i = fi := ⟨_, rfl⟩
      rw [hfi] at cm hVc
      clear hz hfi
      go_wp2_with (first | (go_at_call 15; (first | with_reducible refine use1 (cm.out _) ?_ | with_reducible refine use (cm.out _) ?_); intro pw))
      go_roundw
      case rel => exact ⟨i + 1, by go_num, by omega, ⟨(Pfx.set (Pfx.later5 hP.out _) i (.int .u64 z)).congr fun j _ => by
        by_cases e : j = i
        · rw [if_pos e, if_pos (by omega), e, kz.out]
        · rw [if_neg e]
          by_cases e2 : j < i
          · rw [if_pos e2, if_pos (by omega)]
          · rw [if_neg e2, if_neg (by omega)]⟩, ⟨Below.put (Below.later hB.out _) (Nat.le_of_lt hVw) _⟩, ⟨by
        rw [World.cell?_setCell_far _ _ _ _ (show V ≠ w.heap.size by omega), (after_below w1 _).cell (p := ⟨w.heap.size, 0, none⟩) hbl]; exact hbx.out⟩⟩
      case measure => first | (simp [intOf]; omega) | (simp [intOf]; done)
    · have kP6 : Kept (Pfx w1 V 22 n (fun j => .int .u64 (fmul p (FR j) ni))) := ⟨hP.out.congr fun j hj => by rw [if_pos (by omega)]⟩
      have kB6 := (⟨hB.out⟩ : Kept (Below w.heap.size w w1))
      clear hP hB
      go_wp2
      exact bodyPost_ret (v := .tuple #[.slice (some ⟨V, 0, none⟩) n n, .int .i64 0]) (by simp [results, Try.results27, go_sem]) rfl ⟨V, rfl, kP6.out, kB6.out⟩
def powM (p : Int) (l : List Int) : List (List Int) := l.map fun x => powL p x l.length
set_option maxHeartbeats 8000000 in
theorem powers05_c (p : Int) (u : Option Addr) (n c : Nat) (l : List Int) (w : World) (hv : vld p = true) (h1 : Ls w u l) (hn : l.length = n) (hn6 : n ≤ 64) : Calls Try.prog 25 #[.agg #[.int .u64 p], .slice u n c] w (GivesC (powM p l) w) := by
  have kl := (⟨h1.get hn⟩ : Kept _)
  have kn := (⟨hn⟩ : Kept _)
  have hpl : ∀ x, (powL p x n).length = n := fun x => by simp [powL]
  have cpw : Kept (∀ w x, U x → Calls Try.prog 64 #[.agg #[.int .u64 p], .int .u64 x, .int .i64 (n : Int)] w (GivesN n (powL p x n) w)) := ⟨fun w x hx => givesN (hpl x) (powers_c p x n w hx hv (by omega))⟩
  obtain ⟨KL, hKL⟩ : ∃ KL, powM p l = KL := ⟨_, rfl⟩
  have kKL : Kept (∀ i x, l[i]? = some x → KL.getD i [] = powL p x n) := ⟨fun i x hx => by rw [← hKL, powM, List.getD, List.getElem?_map, hx, hn]; rfl⟩
  have hKn : KL.length = n := by rw [← hKL, powM, List.length_map, hn]
  rw [hKL]
  have kKn := (⟨hKn⟩ : Kept _)
  have kpl := (⟨hpl⟩ : Kept _)
  clear h1 hn hKL hKn hpl
  go_enter Try.func25, Try.ntmps25
  go_wp2
  obtain ⟨w0, hw0⟩ : ∃ w0, w0 = w.alloc (.cells #[.int .u64 p] 27) := ⟨_, rfl⟩
  have kB0 : Kept (Below w.heap.size w w0) := ⟨by rw [hw0]; exact (by repeat (first | exact Below.refl _ _ | refine Below.later ?_ _ | refine Below.box ?_ _ | refine Below.drew ?_ | refine Below.put ?_ (by dsimp only; omega) _))⟩
  have kb0 : Kept (∀ w', Below w0.heap.size w0 w' → w'.cell? ⟨w.heap.size, 0, none⟩ = some (.int .u64 p) ∧ w.heap.size < w'.heap.size) := ⟨fun w' hw => ⟨by rw [hw.cell (p := ⟨w.heap.size, 0, none⟩) (by rw [hw0]; simp), hw0]; simp [go_sem], by have := hw.size; rw [hw0] at this; simp at this; omega⟩⟩
  rw [← hw0]
  clear hw0
  go_loopw [5, 10] (fun vo v wr => ∃ (i : Nat) (bf cf : Nat → Nat), v = .int .i64 (i : Int) ∧ i ≤ n ∧ Kept (Cpy w0 wr vo i bf cf KL) ∧ Kept (i = 0 → vo = .slice none 0 0)) (fun _ v _ => ((n : Int) - intOf v).toNat)
  case atStart => exact ⟨0, fun _ => 0, fun _ => 0, rfl, by omega, ⟨⟨Below.refl _ _, World.ownsRow_nil _ _ _ _, fun k hk => absurd hk (by omega), fun k hk => absurd hk (by omega)⟩⟩, ⟨fun _ => rfl⟩⟩
  case round =>
    obtain ⟨i, bf, cf, rfl, hi, hR, h0⟩ := hrel
    obtain ⟨w1, rfl⟩ : ∃ x, x = wr := ⟨wr, rfl⟩
    have hB2 := Below.next kB0.out hR.out.below
    by_cases h : i < n
    · obtain ⟨b, o, x, rfl, hx, hb, hc, hU⟩ := kl.out i h
      have hc' : w1.cell? ⟨b, o + i, none⟩ = some (.int .u64 x) := by rw [hB2.cell (p := ⟨b, o + i, none⟩) hb]; exact hc
      have hb' : b < w1.heap.size := by have := hB2.size; omega
      obtain ⟨hbx, hbl⟩ := kb0.out w1 hR.out.below
      have kgd : Kept (KL.getD i [] = powL p x n) := ⟨kKL.out i x hx⟩
      have cp : Kept (∀ w, Calls Try.prog 64 #[.agg #[.int .u64 p], .int .u64 x, .int .i64 (n : Int)] w (GivesN n (powL p x n) w)) := ⟨fun w => cpw.out w x hU⟩
      have kpx := (⟨kpl.out x⟩ : Kept _)
      have hsz1 := w1.heap.size
      clear hc hx hb hB2 hU
      go_wp2_with (first | (go_at_call 64; refine (cp.out w1).mono ?_; rintro e w2 ⟨b2, pq, rfl, hw2, hL2⟩; refine Stop.out ?_))
      refine ⟨?_⟩
      subst hw2
      have hB3 : Below w1.heap.size w1 (after w1 pq) := after_below w1 pq
      generalize after w1 pq = w2 at hB3 hL2 ⊢
      have kR2 : Kept (Cpy w0 w2 u5 i bf cf KL) := ⟨hR.out.keep hB3⟩
      have hpn : 0 < (powL p x n).length := by rw [kpx.out]; omega
      have hx0 : (powL p x n)[0]? = some ((powL p x n)[0]'hpn) := List.getElem?_eq_getElem hpn
      obtain ⟨b', o', e2, hlt2, hcell⟩ := hL2.mem (fun e3 => by rw [e3] at hpn; simp at hpn)
      injection e2 with e2
      injection e2 with e3 e4
      subst e3 e4
      have h3 := hcell 0 _ hx0
      have hap : Kept (u5.ownBlock ≠ some b2) := ⟨fun e => by
        rcases kR2.out.own.2 with ⟨e1, _⟩ | ⟨g, cap, cur, e1, hg, hcc, hcap, hm, hsz, htk⟩
        · rw [e1] at e; cases e
        · have hgb : g = b2 := by rw [e1] at e; simpa [Value.ownBlock] using e
          subst hgb
          by_cases hi0 : i = 0
          · have := h0.out hi0; rw [this] at e1; cases e1
          · have hr : w2.rowIs g 32 cap (fun j => (cur[j]?).getD undef) := ⟨cur, hcc, by omega, fun j hj => by dsimp only; rw [Array.getElem?_eq_getElem (by omega)]; rfl⟩
            rw [Nat.zero_add, hr.cell (by omega)] at h3
            have h4 : (cur.toList.take (i * 1))[0]? = ((List.range i).map fun k => Value.slice (some ⟨bf k, 0, none⟩) (KL.getD k []).length (cf k))[0]? := by rw [htk]
            rw [List.getElem?_take, if_pos (by omega), Array.getElem?_toList, List.getElem?_map, List.getElem?_range (by omega)] at h4
            rw [h4] at h3; simp at h3⟩
      have kL2 := (⟨hL2⟩ : Kept _)
      have kb2 := (⟨hlt2⟩ : Kept _)
      clear hR hB3 hL2 hcell h3 hx0 hpn h0 hbx hbl hc' hb' hlt2
      go_wp2_with (first | (at_builtin; refine wpList_pushC rfl _ _ rfl _ (kR2.out.keep (by repeat (first | exact Below.refl _ _ | refine Below.later ?_ _ | refine Below.box ?_ _ | refine Below.drew ?_ | refine Below.put ?_ (by dsimp only; omega) _))) rfl _ rfl b2 n n (by first | simp | (rw [World.cell?_alloc_new]; rfl)) (by rw [kgd.out, kpx.out]) (by rw [kgd.out]; exact kL2.out.below (Nat.le_refl _) (by repeat (first | exact Below.refl _ _ | refine Below.later ?_ _ | refine Below.box ?_ _ | refine Below.drew ?_ | refine Below.put ?_ (by dsimp only; omega) _))) (fun _ => by have := kb2.out; simp; omega) hap.out (by omega) ?_; intro v5 w5 hR5; refine Stop.out ?_))
      refine ⟨?_⟩
      have kR5 := (⟨hR5⟩ : Kept _)
      clear hR5 kR2
      go_wp2
      go_roundw
      case rel => exact ⟨i + 1, _, _, by go_num, by omega, kR5, ⟨fun e => absurd e (by omega)⟩⟩
      case measure => first | (simp [intOf]; omega) | (simp [intOf]; done)
    · have hin : i = KL.length := by rw [kKn.out]; omega
      have hD := hR.out
      rw [hin] at hD
      obtain ⟨u', c', e, hMt, hz⟩ := hD.mt (by rw [kKn.out]; omega)
      rw [kKn.out] at e
      have kM := (⟨hMt⟩ : Kept _)
      have kz := (⟨hz⟩ : Kept _)
      have kb := (⟨hB2⟩ : Kept (Below w.heap.size w w1))
      subst e
      clear hR hD hMt hz hin kl hB2
      go_wp2
      exact bodyPost_ret (v := .slice u' n c') (by simp [results, Try.results25, go_sem]) rfl ⟨u', c', by rw [kKn.out], kM.out, kz.out, kb.out⟩
set_option maxHeartbeats 8000000 in
theorem apply_lc (p : Int) (n m : Nat) (u v : Option Addr) (c d : Nat) (ls : List (List Int)) (b : List Int) (w : World) (h1 : Mt w u ls) (h2 : Ls w v b) (hb : b.length = m) (hv : vld p = true) (hM : vldM ls = true) (hn : ls.length = n) (hm : colsN ls = m) :
    Calls Try.prog 29 #[.agg #[.int .u64 p], .slice u n c, .slice v m d] w (GivesP n (fun i => (mulV p ls b).getD i 0) w) := by
  obtain ⟨g1, g2, g3⟩ := vldM_row hM
  have hs := h1.small
  have hs2 := h2.small
  have cf : Kept (∀ w', Below w.heap.size w w' → Calls Try.prog 54 #[.agg #[.int .u64 p], .slice u n c] w' (Gives (.bool true) w')) := ⟨fun w' hw => by have := fits_lc p u c ls w' (h1.below (Nat.le_refl _) hw); rw [hv, hM, hn] at this; exact this⟩
  have cc : Kept (∀ w', Below w.heap.size w w' → Calls Try.prog 55 #[.slice u n c] w' (Gives (.int .i64 (m : Int)) w')) := ⟨fun w' hw => by have := columns_c u c ls w' (h1.below (Nat.le_refl _) hw); rw [hn, hm] at this; exact this⟩
  have k1 := (⟨h1.get hn⟩ : Kept _)
  have cd : Kept (∀ w' v1 d1 l, Below w.heap.size w w' → l ∈ ls → Ls w' v1 l → Calls Try.prog 67 #[.agg #[.int .u64 p], .slice v1 m d1, .slice v m d] w' (Gives (.int .u64 (ldot p l b)) w')) := ⟨fun w' v1 d1 l hw hl h => by have := dot_c p v1 v d1 d l b w' h (h2.below (Nat.le_refl _) hw); rw [hb, g3 l hl, hm] at this; exact this⟩
  have kl : Kept (∀ l ∈ ls, l.length = m) := ⟨fun l hl => by rw [g3 l hl, hm]⟩
  have hmk := run_make_row' (P := Try.prog) 32 22 (.int .u64 0) 8 Try.underlying32 (by kernel_rfl) rfl .i64 .i64 n (by omega) (by omega)
  obtain ⟨R, hR⟩ : ∃ R, mulV p ls b = R := ⟨_, rfl⟩
  have kR : Kept (∀ i l, ls[i]? = some l → R.getD i 0 = ldot p l b) := ⟨fun i l hl => by rw [← hR, mulV, List.getD, List.getElem?_map, hl]; rfl⟩
  have hn6 : n ≤ 64 := by omega
  have hm6 : m ≤ 64 := by omega
  rw [hR]
  clear h1 h2 hM hn hm g1 g2 g3 hs hs2 hb hR hv
  go_enter Try.func29, Try.ntmps29
  go_wp2_with (first | (go_at_call 54; (first | with_reducible refine use1 (cf.out _ (by repeat (first | exact Below.refl _ _ | refine Below.later ?_ _ | refine Below.box ?_ _ | refine Below.drew ?_ | refine Below.put ?_ (by dsimp only; omega) _))) ?_ | with_reducible refine use (cf.out _ (by repeat (first | exact Below.refl _ _ | refine Below.later ?_ _ | refine Below.box ?_ _ | refine Below.drew ?_ | refine Below.put ?_ (by dsimp only; omega) _))) ?_); intro pw) | (go_at_call 55; refine Stop.out ?_))
  refine ⟨?_⟩
  refine call_genE (fun W' => Below w.heap.size w W' ∧ W'.cell? ⟨w.heap.size, 0, none⟩ = some (.int .u64 p) ∧ w.heap.size < W'.heap.size) ?fx ?_
  case fx => exact ⟨(by repeat (first | exact Below.refl _ _ | refine Below.later ?_ _ | refine Below.box ?_ _ | refine Below.drew ?_ | refine Below.put ?_ (by dsimp only; omega) _)), by simp [go_sem], by simp⟩
  rintro W0 ⟨hB0, hb0, hl0⟩
  refine use (cc.out W0 hB0) ?_
  intro pw9
  have hB1 : Below w.heap.size w (after W0 pw9) := Below.later hB0 _
  have hb1 : (after W0 pw9).cell? ⟨w.heap.size, 0, none⟩ = some (.int .u64 p) := by rw [(after_below W0 pw9).cell (p := ⟨w.heap.size, 0, none⟩) hl0]; exact hb0
  have hl1 : w.heap.size < (after W0 pw9).heap.size := by have := (after_below W0 pw9).size; omega
  generalize after W0 pw9 = W1 at hB1 hb1 hl1 ⊢
  have kW := (⟨hB1⟩ : Kept _)
  have kbx : Kept (∀ w', Below W1.heap.size W1 w' → w'.cell? ⟨w.heap.size, 0, none⟩ = some (.int .u64 p) ∧ w.heap.size < w'.heap.size) := ⟨fun w' hw => ⟨by rw [hw.cell (p := ⟨w.heap.size, 0, none⟩) hl1]; exact hb1, by have := hw.size; omega⟩⟩
  have hlw : w.heap.size < W1.heap.size := hl1
  clear hB0 hb0 hl0 hB1 hb1 hl1 cc cf
  go_wp2
  obtain ⟨V, hV⟩ : ∃ V, W1.heap.size = V := ⟨_, rfl⟩
  have hP0 : Kept (Pfx (W1.alloc (.cells (madeCells #[.int .u64 0] n) 22)) V 22 n (fun _ => .int .u64 0)) := ⟨by rw [← hV]; exact Pfx.of_row (World.rowIs_made W1 (.int .u64 0) n 22)⟩
  have hBl0 : Kept (Below W1.heap.size W1 (W1.alloc (.cells (madeCells #[.int .u64 0] n) 22))) := ⟨(by repeat (first | exact Below.refl _ _ | refine Below.later ?_ _ | refine Below.box ?_ _ | refine Below.drew ?_ | refine Below.put ?_ (by dsimp only; omega) _))⟩
  rw [hV]
  generalize W1.alloc (.cells (madeCells #[.int .u64 0] n) 22) = w2 at hP0 hBl0 ⊢
  go_loopw [26] (fun v wr => ∃ (i : Nat), v = .int .i64 (i : Int) ∧ i ≤ n ∧ Kept (Pfx wr V 22 n (fun j => .int .u64 (if j < i then R.getD j 0 else 0))) ∧ Kept (Below W1.heap.size W1 wr)) (fun v _ => ((n : Int) - intOf v).toNat)
  case atStart => exact ⟨0, rfl, by omega, ⟨hP0.out.congr fun j _ => by rw [if_neg (by omega)]⟩, hBl0⟩
  case round =>
    clear hP0 hBl0
    obtain ⟨i, rfl, hi, hP, hB⟩ := hrel
    obtain ⟨w1, rfl⟩ : ∃ x, x = wr := ⟨wr, rfl⟩
    have hB2 := Below.next kW.out hB.out
    by_cases h : i < n
    · obtain ⟨b1, o1, l, v1, d1, rfl, hx1, hb1, hc1, hL1⟩ := k1.out i h
      have hlm := kl.out l (List.mem_of_getElem? hx1)
      rw [hlm] at hc1
      have hc1' : w1.cell? ⟨b1, o1 + i, none⟩ = some (.slice v1 m d1) := by rw [hB2.cell (p := ⟨b1, o1 + i, none⟩) hb1]; exact hc1
      have hb1' : b1 < w1.heap.size := by have := hB2.size; omega
      obtain ⟨hbx, hbl⟩ := kbx.out w1 hB.out
      have kB2 := (⟨hB2⟩ : Kept _)
      have cd2 : Kept (∀ w', Below w1.heap.size w1 w' → Calls Try.prog 67 #[.agg #[.int .u64 p], .slice v1 m d1, .slice v m d] w' (Gives (.int .u64 (ldot p l b)) w')) := ⟨fun w' hw => cd.out w' v1 d1 l (Below.next kB2.out hw) (List.mem_of_getElem? hx1) (hL1.below (Nat.le_refl _) (Below.next kB2.out hw))⟩
      have hVc := hP.out.cell h
      rw [if_neg (Nat.lt_irrefl _)] at hVc
      have hVf := hP.out.frozen i
      have hVl := hP.out.lt
      have ky : Kept (R.getD i 0 = ldot p l b) := ⟨kR.out i l hx1⟩
      generalize ldot p l b = y at *
      clear hc1 hx1 hL1 hlm hb1 hB2
      go_wp2_with (first | (go_at_call 67; (first | with_reducible refine use1 (cd2.out _ (by repeat (first | exact Below.refl _ _ | refine Below.later ?_ _ | refine Below.box ?_ _ | refine Below.drew ?_ | refine Below.put ?_ (by dsimp only; omega) _))) ?_ | with_reducible refine use (cd2.out _ (by repeat (first | exact Below.refl _ _ | refine Below.later ?_ _ | refine Below.box ?_ _ | refine Below.drew ?_ | refine Below.put ?_ (by dsimp only; omega) _))) ?_); intro pw))
      go_roundw
      case rel => exact ⟨i + 1, by go_num, by omega, ⟨(Pfx.set (Pfx.later5 hP.out _) i (.int .u64 y)).congr fun j _ => by
        by_cases e : j = i
        · rw [if_pos e, if_pos (by omega), e, ky.out]
        · rw [if_neg e]
          by_cases e2 : j < i
          · rw [if_pos e2, if_pos (by omega)]
          · rw [if_neg e2, if_neg (by omega)]⟩, ⟨Below.put (Below.later hB.out _) (Nat.le_of_eq hV) _⟩⟩
      case measure => first | (simp [intOf]; omega) | (simp [intOf]; done)
    · have kP2 : Kept (Pfx w1 V 22 n (fun j => .int .u64 (R.getD j 0))) := ⟨hP.out.congr fun j hj => by rw [if_pos (by omega)]⟩
      have kB2 := (⟨hB2⟩ : Kept (Below w.heap.size w w1))
      clear hP hB hB2
      go_wp2
      exact bodyPost_ret (v := .slice (some ⟨V, 0, none⟩) n n) (by simp [results, Try.results29, go_sem]) rfl ⟨V, rfl, kP2.out, kB2.out, by omega⟩
end Go.Proofs.Ytjnlnbkdnjainaa
