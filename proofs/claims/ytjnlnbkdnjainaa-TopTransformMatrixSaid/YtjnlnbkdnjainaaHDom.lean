/- Domains: transform.Domain, moidoreref04.Domain where the domain is there. -/
import Derived.Test.YtjnlnbkdnjainaaHRoot
import Derived.Test.YtjnlnbkdnjainaaQC
namespace Go.Proofs.Ytjnlnbkdnjainaa
open Go.RowKit Go.Sort

set_option maxRecDepth 100000
def domL (p s : Int) (n : Nat) : List Int := (List.range n).map fun i => (s % p * rootV p n ^ i) % p
def GivesT (l : List Int) (w : World) (e : Ending) (w' : World) : Prop := ∃ u c, e = .returned (.tuple #[.slice u l.length c, .int .i64 0]) ∧ Ls w' u l ∧ (u = none → c = 0) ∧ Below w.heap.size w w'
theorem troot_c (p : Int) (n : Nat) (w : World) (h1 : 1 ≤ n) (h2 : n ≤ 4096) : Calls Try.prog 63 #[.agg #[.int .u64 p], .int .i64 (n : Int)] w (Gives (.tuple #[.int .u64 (rootV p n), .bool (rootOk p n)]) w) := by
  have cr : Kept (∀ w, Calls Try.prog 79 #[.agg #[.int .u64 p], .int .i64 (n : Int)] w (Gives (.tuple #[.int .u64 (rootV p n), .bool (rootOk p n)]) w)) := ⟨fun w => root_c p n w (by omega) (by omega)⟩
  generalize rootV p n = v at *
  generalize rootOk p n = ok at *
  go_enter Try.func63, Try.ntmps63
  go_wp2_with (first | (go_at_call 79; (first | with_reducible refine use1 (cr.out _) ?_ | with_reducible refine use (cr.out _) ?_); intro pw))
  go_ret2
  exact ⟨rfl, (by repeat (first | exact Below.refl _ _ | refine Below.later ?_ _ | refine Below.box ?_ _ | refine Below.drew ?_ | refine Below.put ?_ (by dsimp only; omega) _))⟩
theorem dom_step {p : Int} (hv : vld p = true) (s w : Int) (k : Nat) : fmul p ((s * w ^ k) % p) w = (s * w ^ (k + 1)) % p := by
  unfold fmul; rw [if_pos hv, em_mul_l, Int.pow_succ, Int.mul_assoc]
theorem domL_U {p s : Int} {n : Nat} (hv : vld p = true) : ∀ x ∈ domL p s n, U x := fun x hx => by
  have hp := vld_pos hv
  obtain ⟨i, _, e⟩ := List.mem_map.1 hx
  have h0 := emod_nonneg_pos (s % p * rootV p n ^ i) (p := p) (by omega)
  have h1 := emod_lt_pos (s % p * rootV p n ^ i) (p := p) (by omega)
  exact ⟨by omega, by omega⟩

set_option maxHeartbeats 4000000 in
theorem ldomain_c (p s : Int) (n : Nat) (w : World) (hs : U s) (ho : rootOk p n = true) (hv : vld p = true) (h1 : 1 ≤ n) (h2 : n ≤ 4096) (h0 : s % p ≠ 0) : Calls Try.prog 24 #[.agg #[.int .u64 p], .int .u64 s, .int .i64 (n : Int)] w (GivesT (domL p s n) w) := by
  have hp := vld_pos hv
  have hmk := run_make_row' (P := Try.prog) 32 22 (.int .u64 0) 8 Try.underlying32 (by kernel_rfl) rfl .i64 .i64 n (by omega) (by omega)
  have cv : Kept (∀ w, Calls Try.prog 50 #[.agg #[.int .u64 p]] w (Gives (.bool true) w)) := ⟨fun w => by have := valid_c p w; rw [hv] at this; exact this⟩
  have cr : Kept (∀ w, Calls Try.prog 63 #[.agg #[.int .u64 p], .int .i64 (n : Int)] w (Gives (.tuple #[.int .u64 (rootV p n), .bool true]) w)) := ⟨fun w => by have := troot_c p n w h1 h2; rw [ho] at this; exact this⟩
  have hUL : Kept (∀ x ∈ domL p s n, U x) := ⟨domL_U hv⟩
  have hLn : Kept ((domL p s n).length = n) := ⟨by simp [domL]⟩
  have hLi : Kept (∀ i, i < n → (domL p s n).getD i 0 = (s % p * rootV p n ^ i) % p) := ⟨fun i hi => by rw [List.getD, domL, List.getElem?_map, List.getElem?_range hi]; rfl⟩
  have hwU : U (rootV p n) := rootV_U
  have cd : Kept (∀ w, Calls Try.prog 14 #[.agg #[.int .u64 p], .int .u64 s] w (Gives (.int .u64 (s % p)) w)) := ⟨fun w => by have := red_c p s w hs; rw [fred, if_pos hv] at this; exact this⟩
  have kst := (⟨dom_step hv⟩ : Kept _)
  have a0 := emod_nonneg_pos s (p := p) (by omega)
  have a1 := emod_lt_pos s (p := p) (by omega)
  generalize domL p s n = L at *
  generalize rootV p n = r at *
  generalize s % p = x0 at *
  have hx0 : (x0 == 0) = false := by simp [h0]
  clear ho
  go_enter Try.func24, Try.ntmps24
  go_wp2_with (first | (go_at_call 50; (first | with_reducible refine use1 (cv.out _) ?_ | with_reducible refine use (cv.out _) ?_); intro pw) | (go_at_call 63; (first | with_reducible refine use1 (cr.out _) ?_ | with_reducible refine use (cr.out _) ?_); intro pw) | (go_at_call 14; (first | with_reducible refine use1 (cd.out _) ?_ | with_reducible refine use (cd.out _) ?_); intro pw))
  have hrow0 : Row w ((after (w.alloc (.cells #[.int .u64 p] 27)) pw).alloc (.cells (madeCells #[.int .u64 0] n) 22)) (w.heap.size + 1 + pw.os.size) n (fun _ => 0) :=
    ⟨(by repeat (first | exact Below.refl _ _ | refine Below.later ?_ _ | refine Below.box ?_ _ | refine Below.drew ?_ | refine Below.put ?_ (by dsimp only; omega) _)), by have := World.rowIs_made (after (w.alloc (.cells #[.int .u64 p] 27)) pw) (.int .u64 0) n 22; simpa using this, by omega⟩
  have hbox0 : Cell1 ((after (w.alloc (.cells #[.int .u64 p] 27)) pw).alloc (.cells (madeCells #[.int .u64 0] n) 22)) w.heap.size p := ((Cell1.new w p _).later pw).boxed _
  obtain ⟨B, hB⟩ : ∃ B, w.heap.size + 1 + pw.os.size = B := ⟨_, rfl⟩
  have hBge : w.heap.size + 1 ≤ B := by omega
  rw [hB] at hrow0 ⊢
  generalize (after (w.alloc (.cells #[.int .u64 p] 27)) pw).alloc (.cells (madeCells #[.int .u64 0] n) 22) = w0 at hrow0 hbox0 ⊢
  clear hB cd cr cv
  go_loopw [1, 34] (fun vs v wr => ∃ (s : Int) (k : Nat) (f : Nat → Int), vs = .int .u64 s ∧ v = .int .i64 (k : Int) ∧ k ≤ n ∧ 0 ≤ s ∧ s < p ∧ Row w wr B n f ∧ Cell1 wr w.heap.size p ∧ Kept (s = (x0 * r ^ k) % p) ∧ Kept (∀ i, i < k → f i = (x0 * r ^ i) % p)) (fun _ v _ => (n : Int).toNat - (intOf v).toNat)
  case atStart => exact ⟨x0, 0, _, rfl, rfl, by omega, by omega, by omega, hrow0, hbox0, ⟨by rw [Int.pow_zero, Int.mul_one, Int.emod_eq_of_lt (by omega) (by omega)]⟩, ⟨fun i hi => absurd hi (by omega)⟩⟩
  case round =>
    obtain ⟨s, k, f, rfl, rfl, hk, hs0, hs1, hr, hbx, hs, hI⟩ := hrel
    clear hrow0 hbox0
    by_cases h : k < n
    · have hI2 : Kept (∀ i, i < k + 1 → (if i = k then s else f i) = (x0 * r ^ i) % p) := ⟨fun i hi => by
        by_cases e : i = k
        · subst e; rw [if_pos rfl]; exact hs.out
        · rw [if_neg e]; exact hI.out i (by omega)⟩
      have hs2 : Kept (fmul p s r = (x0 * r ^ (k + 1)) % p) := ⟨by rw [hs.out, kst.out]⟩
      have hm0 : 0 ≤ fmul p s r := by rw [hs2.out]; exact emod_nonneg_pos _ (by omega)
      have hm1 : fmul p s r < p := by rw [hs2.out]; exact emod_lt_pos _ (by omega)
      have cm : Kept (∀ w, Calls Try.prog 15 #[.agg #[.int .u64 p], .int .u64 s, .int .u64 r] w (Gives (.int .u64 (fmul p s r)) w)) := ⟨fun w => mul_c p s r w ⟨by omega, by omega⟩ hwU⟩
      have hbc := hbx.c0
      have hbl := hbx.lt
      have hoc := hr.row.cell h
      have hof := hr.row.frozen k
      have hol := hr.row.lt
      have hne : ¬ (w.heap.size = B) := by omega
      have hbc2 : (wr.setCell ⟨B, k, none⟩ (.int .u64 s)).cell? ⟨w.heap.size, 0, none⟩ = some (.int .u64 p) := (hbx.other (a := ⟨B, k, none⟩) (by dsimp only; omega) _).c0
      have hr' : Kept (Row w wr B n f) := ⟨hr⟩
      have hbx' : Kept (Cell1 wr w.heap.size p) := ⟨hbx⟩
      clear hI hs hr hbx
      generalize fmul p s r = y at *
      go_wp2_with (first | (go_at_call 15; (first | with_reducible refine use1 (cm.out _) ?_ | with_reducible refine use (cm.out _) ?_); intro pw))
      repeat (
        (first | refine region_quiet1 (by kernel_rfl) ?_ | refine region_quiet (by kernel_rfl) ?_)
        repeat (go_big_quiet_step (first | (go_at_call 15; with_reducible exact quiet (cm.out _))))
        refine wpQuiet_nil ?_
        intro _
        go_wp2_with (first | (go_at_call 15; (first | with_reducible refine use1 (cm.out _) ?_ | with_reducible refine use (cm.out _) ?_); intro pw)))
      go_roundw
      case rel => exact ⟨y, k + 1, _, rfl, by go_num, by omega, hm0, hm1, ((hr'.out.put k s).later _), (hbx'.out.other (by dsimp only; omega) _).later _, hs2, hI2⟩
      case measure => first | (simp [intOf]; omega) | (simp [intOf]; done)
    · have hkn : k = n := by omega
      subst hkn
      have hr' : Kept (Row w wr B k f) := ⟨hr⟩
      clear hr hbx
      go_wp2
      exact bodyPost_ret (v := .tuple #[.slice (some ⟨B, 0, none⟩) k k, .int .i64 0]) (by simp [results, Try.results24, go_sem]) rfl ⟨_, k, by rw [hLn.out], Ls.row (hr'.out.row.congr fun i hi => by rw [hI.out i hi, hLi.out i hi]) (by rw [hLn.out]; exact Nat.le_refl _) (by rw [hLn.out]; omega) hUL.out, fun e => (by cases e), hr'.out.below⟩

end Go.Proofs.Ytjnlnbkdnjainaa
