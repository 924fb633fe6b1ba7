/- The contracts of the functions that make lists: Dot (it reads), Inverses, Powers. -/
import Derived.Test.YtkpkgjniicnkcaaSum
namespace Go.Proofs.Ytkpkgjniicnkcaa
open Go.RowKit Go.Sort

theorem dot_c (p : Int) (u v : Option Addr) (c d : Nat) (l1 l2 : List Int) (w : World) (h1 : Ls w u l1) (h2 : Ls w v l2) : Calls Try.prog 52 #[.agg #[.int .u64 p], .slice u l1.length c, .slice v l2.length d] w (Gives (.int .u64 (ldot p l1 l2)) w) := by
  have hs1 := h1.small
  have hs2 := h2.small
  obtain ⟨n, hn⟩ : ∃ n, l1.length = n := ⟨_, rfl⟩
  obtain ⟨m, hm⟩ : ∃ n, l2.length = n := ⟨_, rfl⟩
  have k1 : Kept (∀ k, k < n → ∃ b o x, u = some ⟨b, o, none⟩ ∧ l1[k]? = some x ∧ b < w.heap.size ∧ w.cell? ⟨b, o + k, none⟩ = some (.int .u64 x) ∧ U x) := ⟨h1.get hn⟩
  have k2 : Kept (∀ k, k < m → ∃ b o x, v = some ⟨b, o, none⟩ ∧ l2[k]? = some x ∧ b < w.heap.size ∧ w.cell? ⟨b, o + k, none⟩ = some (.int .u64 x) ∧ U x) := ⟨h2.get hm⟩
  have e1 : Kept (l1.length = n) := ⟨hn⟩
  have e2 : Kept (l2.length = m) := ⟨hm⟩
  rw [hn] at hs1 ⊢
  rw [hm] at hs2 ⊢
  clear h1 h2 hn hm
  cases hv : vld p
  · have hz : Kept (ldot p l1 l2 = 0) := ⟨by
      unfold ldot
      rcases List.eq_nil_or_concat (l1.zip l2) with h | ⟨l', x, h⟩
      · rw [h]; rfl
      · rw [h, List.concat_eq_append, List.foldl_append]; simp [fadd, hv]⟩
    clear k1 e1 k2 e2
    go_enter Try.func52, Try.ntmps52
    go_wp2_with (first | (go_at_call 73; (first | with_reducible refine use1 (valid_c _ _) ?_ | with_reducible refine use (valid_c _ _) ?_); intro pw))
    repeat (
      (first | refine region_quiet1 (by kernel_rfl) ?_ | refine region_quiet (by kernel_rfl) ?_)
      repeat (go_big_quiet_step (first | (go_at_call 73; with_reducible exact quiet (valid_c _ _))))
      refine wpQuiet_nil ?_
      intro _
      go_wp2_with (first | (go_at_call 73; (first | with_reducible refine use1 (valid_c _ _) ?_ | with_reducible refine use (valid_c _ _) ?_); intro pw)))
    go_ret
    exact ⟨by rw [hz.out]; rfl, (by repeat (first | exact Below.refl _ _ | refine Below.later ?_ _ | refine Below.box ?_ _ | refine Below.drew ?_ | refine Below.put ?_ (by dsimp only; omega) _))⟩
  · have hp := vld_pos hv
    have hv' : Kept (vld p = true) := ⟨hv⟩
    obtain ⟨r, hr⟩ : ∃ r, min n m = r := ⟨_, rfl⟩
    have hr1 : r ≤ n := by omega
    have hr2 : r ≤ m := by omega
    have hr3 : Kept (∀ k, ¬ k < r → ¬ (k < n ∧ k < m)) := ⟨fun k hk => by omega⟩
    have hmin : min (n : Int) (m : Int) = (r : Int) := by omega
    have hif : Kept ((if (m : Int) < (n : Int) then (m : Int) else (n : Int)) = (r : Int)) := ⟨by split <;> omega⟩
    have hif2 : Kept ((if (n : Int) < (m : Int) then (n : Int) else (m : Int)) = (r : Int)) := ⟨by split <;> omega⟩
    have hif3 : Kept ((if (n : Int) ≤ (m : Int) then (n : Int) else (m : Int)) = (r : Int)) := ⟨by split <;> omega⟩
    clear hr
    go_enter Try.func52, Try.ntmps52
    go_wp2_with (go_at_call 73; (first | with_reducible refine use1 (valid_c _ _) ?_ | with_reducible refine use (valid_c _ _) ?_); intro pw)
    go_loopw [7, 17] (fun vs v wr => ∃ (s : Int) (k : Nat) (q : Regrown), vs = .int .u64 s ∧ v = .int .i64 (k : Int) ∧ wr = after (w.alloc (.cells #[.int .u64 p] 96)) q ∧ k ≤ r ∧ 0 ≤ s ∧ s < p ∧ Kept (ldot p (l1.take k) (l2.take k) = s)) (fun _ v _ => (r : Int).toNat - (intOf v).toNat)
    case atStart => exact ⟨0, 0, _, rfl, rfl, rfl, by omega, by omega, by omega, ⟨by simp [ldot]⟩⟩
    case round =>
      obtain ⟨s, k, q, rfl, rfl, rfl, hk, hs0, hs1, hI⟩ := hrel
      by_cases h : k < r
      · obtain ⟨b1, o1, x1, rfl, hx1, hb1, hc1, hU1⟩ := k1.out k (by omega)
        obtain ⟨b2, o2, x2, rfl, hx2, hb2, hc2, hU2⟩ := k2.out k (by omega)
        have g0 := emod_nonneg_pos x1 (p := p) (by omega)
        have g1 := emod_lt_pos x1 (p := p) (by omega)
        have f0 := emod_nonneg_pos x2 (p := p) (by omega)
        have f1 := emod_lt_pos x2 (p := p) (by omega)
        have hm0 := emod_nonneg_pos (x1 * x2) (p := p) (by omega)
        have hm1 := emod_lt_pos (x1 * x2) (p := p) (by omega)
        have ht0 := emod_nonneg_pos (s + x1 * x2) (p := p) (by omega)
        have ht1 := emod_lt_pos (s + x1 * x2) (p := p) (by omega)
        have hI2 : Kept (ldot p (l1.take (k + 1)) (l2.take (k + 1)) = (s + x1 * x2) % p) := ⟨by rw [ldot_next hx1 hx2, hI.out, fadd, fmul, if_pos hv'.out, if_pos hv'.out, em_add_r]⟩
        have cr : Kept (∀ w, Calls Try.prog 75 #[.agg #[.int .u64 p], .int .u64 x1] w (Gives (.int .u64 (x1 % p)) w)) := ⟨fun w => reduced_c p x1 w (by omega) hU1.1⟩
        have cr2 : Kept (∀ w, Calls Try.prog 75 #[.agg #[.int .u64 p], .int .u64 x2] w (Gives (.int .u64 (x2 % p)) w)) := ⟨fun w => reduced_c p x2 w (by omega) hU2.1⟩
        have cm : Kept (∀ w, Calls Try.prog 76 #[.agg #[.int .u64 p], .int .u64 (x1 % p), .int .u64 (x2 % p)] w (Gives (.int .u64 ((x1 * x2) % p)) w)) := ⟨fun w => by
          have := mul_c0 p (x1 % p) (x2 % p) w (by omega) g0 g1 f0 f1; rw [em_mul_l, em_mul_r] at this; exact this⟩
        have ca : Kept (∀ w, Calls Try.prog 74 #[.agg #[.int .u64 p], .int .u64 s, .int .u64 ((x1 * x2) % p)] w (Gives (.int .u64 ((s + x1 * x2) % p)) w)) := ⟨fun w => by
          have := add_c0 p s _ w (by omega) hs0 hs1 hm0 hm1; rw [em_add_r] at this; exact this⟩
        have hlt1 : b1 < w.heap.size + 1 := by omega
        have hlt2 : b2 < w.heap.size + 1 := by omega
        have hd1 : (w.alloc (.cells #[.int .u64 p] 96)).cell? ⟨b1, o1 + k, none⟩ = some (.int .u64 x1) := by rw [World.cell?_alloc_lt _ _ _ hb1]; exact hc1
        have hd2 : (w.alloc (.cells #[.int .u64 p] 96)).cell? ⟨b2, o2 + k, none⟩ = some (.int .u64 x2) := by rw [World.cell?_alloc_lt _ _ _ hb2]; exact hc2
        clear hI hx1 hx2 k1 k2 e1 e2 hU1 hU2 hc1 hc2
        generalize (s + x1 * x2) % p = t at *
        generalize (x1 * x2) % p = z at *
        generalize x1 % p = y1 at *
        generalize x2 % p = y2 at *
        go_wp2_with (first | (go_at_call 75; (first | with_reducible refine use1 (cr.out _) ?_ | with_reducible refine use (cr.out _) ?_); intro pw) | (go_at_call 75; (first | with_reducible refine use1 (cr2.out _) ?_ | with_reducible refine use (cr2.out _) ?_); intro pw) | (go_at_call 76; (first | with_reducible refine use1 (cm.out _) ?_ | with_reducible refine use (cm.out _) ?_); intro pw) | (go_at_call 74; (first | with_reducible refine use1 (ca.out _) ?_ | with_reducible refine use (ca.out _) ?_); intro pw))
        repeat (
          (first | refine region_quiet1 (by kernel_rfl) ?_ | refine region_quiet (by kernel_rfl) ?_)
          repeat (go_big_quiet_step (first | (go_at_call 75; with_reducible exact quiet (cr.out _)) | (go_at_call 75; with_reducible exact quiet (cr2.out _)) | (go_at_call 76; with_reducible exact quiet (cm.out _)) | (go_at_call 74; with_reducible exact quiet (ca.out _))))
          refine wpQuiet_nil ?_
          intro _
          go_wp2_with (first | (go_at_call 75; (first | with_reducible refine use1 (cr.out _) ?_ | with_reducible refine use (cr.out _) ?_); intro pw) | (go_at_call 75; (first | with_reducible refine use1 (cr2.out _) ?_ | with_reducible refine use (cr2.out _) ?_); intro pw) | (go_at_call 76; (first | with_reducible refine use1 (cm.out _) ?_ | with_reducible refine use (cm.out _) ?_); intro pw) | (go_at_call 74; (first | with_reducible refine use1 (ca.out _) ?_ | with_reducible refine use (ca.out _) ?_); intro pw)))
        go_roundw
        case rel => exact ⟨t, k + 1, _, rfl, by go_num, rfl, by omega, ht0, ht1, hI2⟩
        case measure => first | (simp [intOf]; omega) | (simp [intOf]; done)
      · have hI2 : Kept (ldot p l1 l2 = s) := ⟨by
          have := hr3.out k h
          rw [← hI.out, ldot_end (by have := e1.out; have := e2.out; omega) (by have := e1.out; omega) (by have := e2.out; omega)]⟩
        clear hI k1 e1 k2 e2
        go_wp2
        go_ret
        exact ⟨by rw [hI2.out]; rfl, (by repeat (first | exact Below.refl _ _ | refine Below.later ?_ _ | refine Below.box ?_ _ | refine Below.drew ?_ | refine Below.put ?_ (by dsimp only; omega) _))⟩

/-! ### a list that the call itself writes -/
/-- Block b is a row of n numbers that the call has made; of what was there nothing has turned. -/
structure Row (w wr : World) (b n : Nat) (f : Nat → Int) : Prop where
  below : Below w.heap.size w wr
  row : wr.rowIs b 23 n (fun i => .int .u64 (f i))
  ge : w.heap.size ≤ b
theorem Row.later {w wr : World} {b n : Nat} {f : Nat → Int} (h : Row w wr b n f) (p : Regrown) : Row w (after wr p) b n f :=
  ⟨Below.later h.below p, h.row.of_block ((after_below wr p).block b h.row.lt), h.ge⟩
theorem Row.put {w wr : World} {b n : Nat} {f : Nat → Int} (h : Row w wr b n f) (k : Nat) (v : Int) : Row w (wr.setCell ⟨b, k, none⟩ (.int .u64 v)) b n (fun i => if i = k then v else f i) :=
  ⟨Below.put h.below h.ge _, (h.row.set k (.int .u64 v)).congr (fun i _ => by by_cases e : i = k <;> simp [e]), h.ge⟩
theorem Row.congr {w wr : World} {b n : Nat} {f g : Nat → Int} (h : Row w wr b n f) (e : ∀ i, i < n → f i = g i) : Row w wr b n g :=
  ⟨h.below, h.row.congr (fun i hi => by rw [e i hi]), h.ge⟩
theorem Row.list {w wr : World} {b n : Nat} {f : Nat → Int} (h : Row w wr b n f) (l : List Int) (hn : l.length = n) (e : ∀ i x, l[i]? = some x → f i = x) (hs : (n : Int) ≤ 9223372036854775807) (hU : ∀ x ∈ l, U x) :
    GivesL l w (.returned (.slice (some ⟨b, 0, none⟩) n n)) wr := by
  obtain ⟨p, hp⟩ := after_of h.below
  refine ⟨b, p, by rw [hn], hp, Ls.row (t := 23) (n := n) (h.row.congr fun i hi => ?_) (by omega) (by rw [hn]; exact hs) hU⟩
  have hx : l[i]? = some l[i] := List.getElem?_eq_getElem (by omega)
  rw [e i _ hx]; simp [List.getD, hx]

/-! ### the powers of a number -/
theorem powers_none (p a n : Int) (w : World) (h : vld p = false ∨ n < 0 ∨ 65536 < n) : Calls Try.prog 71 #[.agg #[.int .u64 p], .int .u64 a, .int .i64 n] w (Gives (.slice none 0 0) w) := by
  cases hv : vld p
  · clear h
    go_enter Try.func71, Try.ntmps71
    go_wp2_with (first | (go_at_call 73; (first | with_reducible refine use1 (valid_c _ _) ?_ | with_reducible refine use (valid_c _ _) ?_); intro pw))
    repeat (
      (first | refine region_quiet1 (by kernel_rfl) ?_ | refine region_quiet (by kernel_rfl) ?_)
      repeat (go_big_quiet_step (first | (go_at_call 73; with_reducible exact quiet (valid_c _ _))))
      refine wpQuiet_nil ?_
      intro _
      go_wp2_with (first | (go_at_call 73; (first | with_reducible refine use1 (valid_c _ _) ?_ | with_reducible refine use (valid_c _ _) ?_); intro pw)))
    go_ret
    exact ⟨rfl, (by repeat (first | exact Below.refl _ _ | refine Below.later ?_ _ | refine Below.box ?_ _ | refine Below.drew ?_ | refine Below.put ?_ (by dsimp only; omega) _))⟩
  · by_cases h1 : n < 0
    · clear h
      go_enter Try.func71, Try.ntmps71
      go_wp2_with (first | (go_at_call 73; (first | with_reducible refine use1 (valid_c _ _) ?_ | with_reducible refine use (valid_c _ _) ?_); intro pw))
      repeat (
        (first | refine region_quiet1 (by kernel_rfl) ?_ | refine region_quiet (by kernel_rfl) ?_)
        repeat (go_big_quiet_step (first | (go_at_call 73; with_reducible exact quiet (valid_c _ _))))
        refine wpQuiet_nil ?_
        intro _
        go_wp2_with (first | (go_at_call 73; (first | with_reducible refine use1 (valid_c _ _) ?_ | with_reducible refine use (valid_c _ _) ?_); intro pw)))
      go_ret
      exact ⟨rfl, (by repeat (first | exact Below.refl _ _ | refine Below.later ?_ _ | refine Below.box ?_ _ | refine Below.drew ?_ | refine Below.put ?_ (by dsimp only; omega) _))⟩
    · have h2 : 65536 < n := by rcases h with h | h | h
                                · rw [hv] at h; cases h
                                · exact absurd h h1
                                · exact h
      clear h
      go_enter Try.func71, Try.ntmps71
      go_wp2_with (first | (go_at_call 73; (first | with_reducible refine use1 (valid_c _ _) ?_ | with_reducible refine use (valid_c _ _) ?_); intro pw))
      repeat (
        (first | refine region_quiet1 (by kernel_rfl) ?_ | refine region_quiet (by kernel_rfl) ?_)
        repeat (go_big_quiet_step (first | (go_at_call 73; with_reducible exact quiet (valid_c _ _))))
        refine wpQuiet_nil ?_
        intro _
        go_wp2_with (first | (go_at_call 73; (first | with_reducible refine use1 (valid_c _ _) ?_ | with_reducible refine use (valid_c _ _) ?_); intro pw)))
      go_ret
      exact ⟨rfl, (by repeat (first | exact Below.refl _ _ | refine Below.later ?_ _ | refine Below.box ?_ _ | refine Below.drew ?_ | refine Below.put ?_ (by dsimp only; omega) _))⟩

def powL (p a : Int) (n : Nat) : List Int := (List.range n).map (fun i => a ^ i % p)
theorem powers_c (p a : Int) (n : Nat) (w : World) (ha : U a) (hv : vld p = true) (hlen : n ≤ 65536) : Calls Try.prog 71 #[.agg #[.int .u64 p], .int .u64 a, .int .i64 (n : Int)] w (GivesL (powL p a n) w) := by
  have hp := vld_pos hv
  have hmk := run_make_row' (P := Try.prog) 36 23 (.int .u64 0) 8 Try.underlying36 (by kernel_rfl) rfl .i64 .i64 n (by omega) (by omega)
  have a0 := emod_nonneg_pos a (p := p) (by omega)
  have a1 := emod_lt_pos a (p := p) (by omega)
  have cr : Kept (∀ w, Calls Try.prog 75 #[.agg #[.int .u64 p], .int .u64 a] w (Gives (.int .u64 (a % p)) w)) := ⟨fun w => reduced_c p a w (by omega) ha.1⟩
  obtain ⟨r, hr0⟩ : ∃ r, a % p = r := ⟨_, rfl⟩
  rw [hr0] at cr a0 a1
  have hpow : Kept (∀ i : Nat, a ^ i % p = r ^ i % p) := ⟨fun i => by rw [← hr0, em_pow]⟩
  have hUp : Kept (∀ x ∈ powL p a n, U x) := ⟨fun x hx => by
    obtain ⟨i, _, e⟩ := List.mem_map.1 hx
    have := emod_nonneg_pos (a ^ i) (p := p) (by omega)
    have := emod_lt_pos (a ^ i) (p := p) (by omega)
    exact ⟨by omega, by omega⟩⟩
  clear hr0 ha
  go_enter Try.func71, Try.ntmps71
  go_wp2_with (first | (go_at_call 73; (first | with_reducible refine use1 (valid_c _ _) ?_ | with_reducible refine use (valid_c _ _) ?_); intro pw) | (go_at_call 75; (first | with_reducible refine use1 (cr.out _) ?_ | with_reducible refine use (cr.out _) ?_); intro pw))
  have hrow0 : Row w ((after (w.alloc (.cells #[.int .u64 p] 96)) pw).alloc (.cells (madeCells #[.int .u64 0] n) 23)) (w.heap.size + 1 + pw.os.size) n (fun _ => 0) :=
    ⟨(by repeat (first | exact Below.refl _ _ | refine Below.later ?_ _ | refine Below.box ?_ _ | refine Below.drew ?_ | refine Below.put ?_ (by dsimp only; omega) _)), by have := World.rowIs_made (after (w.alloc (.cells #[.int .u64 p] 96)) pw) (.int .u64 0) n 23; simpa using this, by omega⟩
  have hbox0 : Cell1 ((after (w.alloc (.cells #[.int .u64 p] 96)) pw).alloc (.cells (madeCells #[.int .u64 0] n) 23)) w.heap.size p := ((Cell1.new w p _).later pw).boxed _
  obtain ⟨B, hB⟩ : ∃ B, w.heap.size + 1 + pw.os.size = B := ⟨_, rfl⟩
  have hBge : w.heap.size + 1 ≤ B := by omega
  rw [hB] at hrow0 ⊢
  generalize (after (w.alloc (.cells #[.int .u64 p] 96)) pw).alloc (.cells (madeCells #[.int .u64 0] n) 23) = w0 at hrow0 hbox0 ⊢
  clear hB
  go_loopw [8, 28] (fun vs v wr => ∃ (s : Int) (k : Nat) (f : Nat → Int), vs = .int .u64 s ∧ v = .int .i64 (k : Int) ∧ k ≤ n ∧ 0 ≤ s ∧ s < p ∧ Row w wr B n f ∧ Cell1 wr w.heap.size p ∧ Kept (s = r ^ k % p) ∧ Kept (∀ i, i < k → f i = r ^ i % p)) (fun _ v _ => (n : Int).toNat - (intOf v).toNat)
  case atStart => exact ⟨1, 0, _, rfl, rfl, by omega, by omega, by omega, hrow0, hbox0, ⟨by rw [Int.pow_zero, Int.emod_eq_of_lt (by omega) (by omega)]⟩, ⟨fun i hi => absurd hi (by omega)⟩⟩
  case round =>
    obtain ⟨s, k, f, rfl, rfl, hk, hs0, hs1, hr, hbx, hs, hI⟩ := hrel
    clear hrow0 hbox0
    by_cases h : k < n
    · have hI2 : Kept (∀ i, i < k + 1 → (if i = k then s else f i) = r ^ i % p) := ⟨fun i hi => by
        by_cases e : i = k
        · subst e; rw [if_pos rfl]; exact hs.out
        · rw [if_neg e]; exact hI.out i (by omega)⟩
      have hs2 : Kept ((s * r) % p = r ^ (k + 1) % p) := ⟨by rw [hs.out, em_mul_l, Int.pow_succ]⟩
      have hm0 := emod_nonneg_pos (s * r) (p := p) (by omega)
      have hm1 := emod_lt_pos (s * r) (p := p) (by omega)
      have cm : Kept (∀ w, Calls Try.prog 76 #[.agg #[.int .u64 p], .int .u64 s, .int .u64 r] w (Gives (.int .u64 ((s * r) % p)) w)) := ⟨fun w => mul_c0 p s r w (by omega) hs0 hs1 a0 a1⟩
      have hbc := hbx.c0
      have hbl := hbx.lt
      have hoc := hr.row.cell h
      have hof := hr.row.frozen k
      have hol := hr.row.lt
      have hne : ¬ (w.heap.size = B) := by omega
      have hbc2 : (wr.setCell ⟨B, k, none⟩ (.int .u64 s)).cell? ⟨w.heap.size, 0, none⟩ = some (.int .u64 p) := (hbx.other (a := ⟨B, k, none⟩) (by dsimp only; omega) _).c0
      have hr' : Kept (Row w wr B n f) := ⟨hr⟩
      have hbx' : Kept (Cell1 wr w.heap.size p) := ⟨hbx⟩
      clear hI hs hr hbx cr hpow hUp
      generalize (s * r) % p = y at *
      go_wp2_with (first | (go_at_call 76; (first | with_reducible refine use1 (cm.out _) ?_ | with_reducible refine use (cm.out _) ?_); intro pw))
      repeat (
        (first | refine region_quiet1 (by kernel_rfl) ?_ | refine region_quiet (by kernel_rfl) ?_)
        repeat (go_big_quiet_step (first | (go_at_call 76; with_reducible exact quiet (cm.out _))))
        refine wpQuiet_nil ?_
        intro _
        go_wp2_with (first | (go_at_call 76; (first | with_reducible refine use1 (cm.out _) ?_ | with_reducible refine use (cm.out _) ?_); intro pw)))
      go_roundw
      case rel => exact ⟨y, k + 1, _, rfl, by go_num, by omega, hm0, hm1, ((hr'.out.put k s).later _), (hbx'.out.other (by dsimp only; omega) _).later _, hs2, hI2⟩
      case measure => first | (simp [intOf]; omega) | (simp [intOf]; done)
    · have hkn : k = n := by omega
      subst hkn
      have hr' : Kept (Row w wr B k f) := ⟨hr⟩
      clear hr hbx cr
      go_wp2
      go_ret
      exact hr'.out.list _ (by simp [powL]) (fun i x hx => by
        unfold powL at hx
        rw [List.getElem?_map] at hx
        have hi : i < k := by
          by_cases hi : i < k
          · exact hi
          · rw [List.getElem?_eq_none (by simp; omega)] at hx; cases hx
        rw [List.getElem?_range hi] at hx
        injection hx with hx
        rw [hI.out i hi, ← hpow.out i]; exact hx) (by omega) hUp.out
end Go.Proofs.Ytkpkgjniicnkcaa
