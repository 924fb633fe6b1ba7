/- linear.Multiply. -/
import Derived.Test.YtjnlnbkdnjainaaHL5a
import Derived.Test.YtjnlnbkdnjainaaHRdp
namespace Go.Proofs.Ytjnlnbkdnjainaa
open Go.RowKit Go.Sort

set_option maxRecDepth 100000
/-- The sum of the first k products. -/
def msP (p : Int) (A B : Nat → Nat → Int) (i j : Nat) : Nat → Int
  | 0 => 0
  | k + 1 => fadd p (msP p A B i j k) (fmul p (A i k) (B k j))
def msF (p : Int) (A B : Nat → Nat → Int) (m : Nat) : Nat → Nat → Int := fun i j => msP p A B i j m
theorem msP_U (p : Int) (A B : Nat → Nat → Int) (i j : Nat) : ∀ k, U (msP p A B i j k)
  | 0 => ⟨by show (0 : Int) ≤ 0; omega, by show (0 : Int) < _; decide⟩
  | k + 1 => fadd_U
set_option maxHeartbeats 16000000 in
theorem multiply_lc (p : Int) (n m q : Nat) (u v : Option Addr) (c d : Nat) (xs ys : List (List Int)) (w : World) (h1 : Mt w u xs) (h2 : Mt w v ys) (hv : vld p = true) (hM : vldM xs = true) (hN : vldM ys = true) (hn : xs.length = n) (hm : colsN xs = m) (hk : ys.length = m) (hq : colsN ys = q) :
    Calls Try.prog 18 #[.agg #[.int .u64 p], .slice u n c, .slice v m d] w (GivesM0 w n q (msF p (lf xs) (lf ys) m)) := by
  have hp := vld_pos hv
  obtain ⟨g1, g2, g3⟩ := vldM_row hM
  obtain ⟨q1, q2, q3⟩ := vldM_row hN
  have cf : Kept (∀ w', Below w.heap.size w w' → Calls Try.prog 54 #[.agg #[.int .u64 p], .slice u n c] w' (Gives (.bool true) w')) := ⟨fun w' hw => by have := fits_lc p u c xs w' (h1.below (Nat.le_refl _) hw); rw [hv, hM, hn] at this; exact this⟩
  have cvb : Kept (∀ w', Below w.heap.size w w' → Calls Try.prog 46 #[.slice v m d] w' (Gives (.bool true) w')) := ⟨fun w' hw => by have := lvalid_c v d ys w' (h2.below (Nat.le_refl _) hw); rw [hN, hk] at this; exact this⟩
  have ca : Kept (∀ w', Below w.heap.size w w' → Calls Try.prog 55 #[.slice u n c] w' (Gives (.int .i64 (m : Int)) w')) := ⟨fun w' hw => by have := columns_c u c xs w' (h1.below (Nat.le_refl _) hw); rw [hn, hm] at this; exact this⟩
  have cb : Kept (∀ w', Below w.heap.size w w' → Calls Try.prog 55 #[.slice v m d] w' (Gives (.int .i64 (q : Int)) w')) := ⟨fun w' hw => by have := columns_c v d ys w' (h2.below (Nat.le_refl _) hw); rw [hk, hq] at this; exact this⟩
  have k1 := (⟨h1.get hn⟩ : Kept _)
  have k2 := (⟨h2.get hk⟩ : Kept _)
  have kr1 : Kept (∀ l ∈ xs, l.length = m) := ⟨fun l hl => by rw [g3 l hl, hm]⟩
  have kr2 : Kept (∀ l ∈ ys, l.length = q) := ⟨fun l hl => by rw [q3 l hl, hq]⟩
  have hmr := run_make_rows2 n (by omega)
  have hmk := run_make_row' (P := Try.prog) 32 22 (.int .u64 0) 8 Try.underlying32 (by kernel_rfl) rfl .i64 .i64 q (by omega) (by omega)
  have hn6 : n ≤ 64 := by omega
  have hm6 : m ≤ 64 := by omega
  have hq6 : q ≤ 64 := by omega
  clear h1 h2 hM hN hn hm hk hq g1 g2 g3 q1 q2 q3
  go_enter Try.func18, Try.ntmps18
  go_wp2_with (first | (go_at_call 54; (first | with_reducible refine use1 (cf.out _ (by repeat (first | exact Below.refl _ _ | refine Below.later ?_ _ | refine Below.box ?_ _ | refine Below.drew ?_ | refine Below.put ?_ (by dsimp only; omega) _))) ?_ | with_reducible refine use (cf.out _ (by repeat (first | exact Below.refl _ _ | refine Below.later ?_ _ | refine Below.box ?_ _ | refine Below.drew ?_ | refine Below.put ?_ (by dsimp only; omega) _))) ?_); intro pw) | (go_at_call 46; (first | with_reducible refine use1 (cvb.out _ (by repeat (first | exact Below.refl _ _ | refine Below.later ?_ _ | refine Below.box ?_ _ | refine Below.drew ?_ | refine Below.put ?_ (by dsimp only; omega) _))) ?_ | with_reducible refine use (cvb.out _ (by repeat (first | exact Below.refl _ _ | refine Below.later ?_ _ | refine Below.box ?_ _ | refine Below.drew ?_ | refine Below.put ?_ (by dsimp only; omega) _))) ?_); intro pw) | (go_at_call 55; refine Stop.out ?_))
  refine ⟨?_⟩
  refine call_genE (fun W' => Below w.heap.size w W' ∧ W'.cell? ⟨w.heap.size, 0, none⟩ = some (.int .u64 p) ∧ w.heap.size < W'.heap.size) ?fx ?_
  case fx => exact ⟨(by repeat (first | exact Below.refl _ _ | refine Below.later ?_ _ | refine Below.box ?_ _ | refine Below.drew ?_ | refine Below.put ?_ (by dsimp only; omega) _)), by simp [go_sem], by simp⟩
  rintro W0 ⟨hB0, hb0, hl0⟩
  refine use (ca.out W0 hB0) ?_
  intro pw9
  have hB1 : Below w.heap.size w (after W0 pw9) := Below.later hB0 _
  have hb1 : (after W0 pw9).cell? ⟨w.heap.size, 0, none⟩ = some (.int .u64 p) := by rw [(after_below W0 pw9).cell (p := ⟨w.heap.size, 0, none⟩) hl0]; exact hb0
  have hl1 : w.heap.size < (after W0 pw9).heap.size := by have := (after_below W0 pw9).size; omega
  generalize after W0 pw9 = W1 at hB1 hb1 hl1 ⊢
  have kW := (⟨hB1⟩ : Kept _)
  have kbx : Kept (∀ w', Below W1.heap.size W1 w' → w'.cell? ⟨w.heap.size, 0, none⟩ = some (.int .u64 p) ∧ w.heap.size < w'.heap.size) := ⟨fun w' hw => ⟨by rw [hw.cell (p := ⟨w.heap.size, 0, none⟩) hl1]; exact hb1, by have := hw.size; omega⟩⟩
  clear hB0 hb0 hl0 hB1 hb1 hl1 ca cf cvb
  go_wp2
  obtain ⟨B, hB⟩ : ∃ B, W1.heap.size = B := ⟨_, rfl⟩
  have hR0 : Kept (Red W1 (W1.alloc (.cells (madeCells #[.slice none 0 0] n) 32)) B n 0 q (fun _ => 0) (fun _ _ => 0)) := ⟨⟨(by repeat (first | exact Below.refl _ _ | refine Below.later ?_ _ | refine Below.box ?_ _ | refine Below.drew ?_ | refine Below.put ?_ (by dsimp only; omega) _)), by omega, by
      have := World.rowIs_made W1 (.slice none 0 0) n 32
      rw [hB] at this
      exact this.congr fun k _ => by rw [if_neg (by omega)], fun k hk => absurd hk (by omega), fun k hk => absurd hk (by omega), fun a b ha => absurd ha (by omega)⟩⟩
  rw [hB]
  have hBw : w.heap.size < B := by have := (kbx.out W1 (Below.refl _ _)).2; omega
  generalize W1.alloc (.cells (madeCells #[.slice none 0 0] n) 32) = w0 at hR0 ⊢
  go_loopw [35] (fun v wr => ∃ (i : Nat) (bf : Nat → Nat), v = .int .i64 (i : Int) ∧ i ≤ n ∧ Kept (Red W1 wr B n i q bf (msF p (lf xs) (lf ys) m))) (fun v _ => ((n : Int) - intOf v).toNat)
  case atStart => exact ⟨0, _, rfl, by omega, ⟨hR0.out.congr fun a j ha => absurd ha (by omega)⟩⟩
  case round =>
    clear hR0
    obtain ⟨i, bf, rfl, hi, hR⟩ := hrel
    obtain ⟨w1, rfl⟩ : ∃ x, x = wr := ⟨wr, rfl⟩
    by_cases h : i < n
    · obtain ⟨b1, o1, l, v1, d1, rfl, hx1, hb1, hc1, hL1⟩ := k1.out i h
      have hlm := kr1.out l (List.mem_of_getElem? hx1)
      rw [hlm] at hc1
      have hB1 := Below.next kW.out hR.out.below
      have hc1' : w1.cell? ⟨b1, o1 + i, none⟩ = some (.slice v1 m d1) := by rw [hB1.cell (p := ⟨b1, o1 + i, none⟩) hb1]; exact hc1
      have hb1' : b1 < w1.heap.size := by have := hB1.size; omega
      have kl := (⟨hL1.get hlm⟩ : Kept _)
      have kx : Kept (xs.getD i [] = l) := ⟨by rw [List.getD, hx1]; rfl⟩
      have kB1 := (⟨hB1⟩ : Kept _)
      clear hc1 hB1 hx1 hL1 hlm hb1
      go_wp2_with (first | (go_at_call 55; refine use (cb.out _ kB1.out) ?_; intro pwc; refine Stop.out ?_))
      refine ⟨?_⟩
      obtain ⟨w2, hw2⟩ : ∃ w2, w2 = after w1 pwc := ⟨_, rfl⟩
      have hR2 : Kept (Red W1 w2 B n i q bf (msF p (lf xs) (lf ys) m)) := ⟨by rw [hw2]; exact hR.out.keep (by repeat (first | exact Below.refl _ _ | refine Below.later ?_ _ | refine Below.box ?_ _ | refine Below.drew ?_ | refine Below.put ?_ (by dsimp only; omega) _))⟩
      rw [← hw2]
      clear hw2 hR hc1' hb1'
      have hBl := hR2.out.arr.lt
      have hBc := hR2.out.arr.cell h
      rw [if_neg (by omega)] at hBc
      have hBf := hR2.out.arr.frozen i
      have hR3 := (⟨hR2.out.more⟩ : Kept _)
      have hnc : ((w2.setCell ⟨B, i, none⟩ (.slice (some ⟨w2.heap.size, 0, none⟩) q q)).alloc (.cells (madeCells #[.int .u64 0] q) 22)).cell? ⟨B, i, none⟩ = some (.slice (some ⟨w2.heap.size, 0, none⟩) q q) := by
        have := hR2.out.more.arr.cell h
        rw [if_pos (by omega), if_pos rfl] at this; exact this
      go_wp2
      obtain ⟨w3, hw3⟩ : ∃ w3, w3 = (w2.setCell ⟨B, i, none⟩ (.slice (some ⟨w2.heap.size, 0, none⟩) q q)).alloc (.cells (madeCells #[.int .u64 0] q) 22) := ⟨_, rfl⟩
      rw [← hw3] at hR3
      rw [← hw3]
      clear hw3 hnc
      obtain ⟨bf2, hbf2⟩ : ∃ bf2 : Nat → Nat, bf2 = (fun k => if k = i then w2.heap.size else bf k) := ⟨_, rfl⟩
      rw [← hbf2] at hR3
      have hR4 : Kept (Red W1 w3 B n (i + 1) q bf2 (fun k j => if k = i then (if j < 0 then msF p (lf xs) (lf ys) m i j else 0) else msF p (lf xs) (lf ys) m k j)) := ⟨hR3.out.congr fun a j _ _ => by
        by_cases e : a = i
        · rw [if_pos e, if_pos e, if_neg (by omega)]
        · rw [if_neg e, if_neg e]⟩
      clear hbf2 hR3 hR2 hBl hBc hBf
      go_loopw [51] (fun v wr => ∃ (j0 : Nat), v = .int .i64 (j0 : Int) ∧ j0 ≤ q ∧ Kept (Red W1 wr B n (i + 1) q bf2 (fun k j => if k = i then (if j < j0 then msF p (lf xs) (lf ys) m i j else 0) else msF p (lf xs) (lf ys) m k j))) (fun v _ => ((q : Int) - intOf v).toNat)
      case atStart => exact ⟨0, rfl, by omega, hR4⟩
      case round =>
        clear hR4
        obtain ⟨j0, rfl, hj0, hR⟩ := hrel
        obtain ⟨w4, rfl⟩ : ∃ x, x = wr := ⟨wr, rfl⟩
        by_cases h5 : j0 < q
        · go_wp2
          go_loopw [11, 56] (fun vs v wr => ∃ (k : Nat) (s : Int), v = .int .i64 (k : Int) ∧ vs = .int .u64 s ∧ k ≤ m ∧ Kept (s = msP p (lf xs) (lf ys) i j0 k) ∧ Kept (Below w4.heap.size w4 wr)) (fun _ v _ => ((m : Int) - intOf v).toNat)
          case atStart => exact ⟨0, 0, rfl, rfl, by omega, ⟨rfl⟩, ⟨Below.refl _ _⟩⟩
          case round =>
            obtain ⟨k, s, rfl, rfl, hk, hs, hBl⟩ := hrel
            obtain ⟨w5, rfl⟩ : ∃ x, x = wr := ⟨wr, rfl⟩
            have hB5 := Below.next hR.out.below hBl.out
            have hB6 := Below.next kW.out hB5
            by_cases h6 : k < m
            · obtain ⟨b2, o2, x, rfl, hxx, hb2, hcx, hUx⟩ := kl.out k h6
              obtain ⟨b3, o3, l3, v3, d3, rfl, hx3, hb3, hc3, hL3⟩ := k2.out k h6
              have hl3 := kr2.out l3 (List.mem_of_getElem? hx3)
              obtain ⟨b4, o4, y, rfl, hyy, hb4, hcy, hUy⟩ := hL3.get hl3 j0 h5
              rw [hl3] at hc3
              have hcx' : w5.cell? ⟨b2, o2 + k, none⟩ = some (.int .u64 x) := by rw [hB6.cell (p := ⟨b2, o2 + k, none⟩) hb2]; exact hcx
              have hc3' : w5.cell? ⟨b3, o3 + k, none⟩ = some (.slice (some ⟨b4, o4, none⟩) q d3) := by rw [hB6.cell (p := ⟨b3, o3 + k, none⟩) hb3]; exact hc3
              have hcy' : w5.cell? ⟨b4, o4 + j0, none⟩ = some (.int .u64 y) := by rw [hB6.cell (p := ⟨b4, o4 + j0, none⟩) hb4]; exact hcy
              have hb2' : b2 < w5.heap.size := by have := hB6.size; omega
              have hb3' : b3 < w5.heap.size := by have := hB6.size; omega
              have hb4' : b4 < w5.heap.size := by have := hB6.size; omega
              have hbx := (kbx.out w5 hB5).1
              have hbl := (kbx.out w5 hB5).2
              have cmul : Kept (∀ w, Calls Try.prog 15 #[.agg #[.int .u64 p], .int .u64 x, .int .u64 y] w (Gives (.int .u64 (fmul p x y)) w)) := ⟨fun w => mul_c p x y w hUx hUy⟩
              have hsU : U s := by rw [hs.out]; exact msP_U p _ _ i j0 k
              have cadd : Kept (∀ w, Calls Try.prog 56 #[.agg #[.int .u64 p], .int .u64 s, .int .u64 (fmul p x y)] w (Gives (.int .u64 (fadd p s (fmul p x y))) w)) := ⟨fun w => add_c p s _ w hsU fmul_U⟩
              have kE : Kept (fadd p s (fmul p x y) = msP p (lf xs) (lf ys) i j0 (k + 1)) := ⟨by
                rw [msP, ← hs.out]
                have e1 : lf xs i k = x := by rw [lf, kx.out, List.getD, hxx]; rfl
                have e2 : lf ys k j0 = y := by rw [lf, show ys.getD k [] = l3 from by rw [List.getD, hx3]; rfl, List.getD, hyy]; rfl
                rw [e1, e2]⟩
              generalize fadd p s (fmul p x y) = s2 at *
              generalize fmul p x y = z at *
              clear hB5 hB6 hxx hb2 hcx hUx hx3 hb3 hc3 hL3 hl3 hyy hb4 hcy hUy hsU hs
              go_wp2
              first | refine region_quiet1 (by kernel_rfl) ?_ | refine region_quiet (by kernel_rfl) ?_
              repeat (go_big_quiet_step (first | (go_at_call 15; with_reducible exact quiet (cmul.out _)) | (go_at_call 56; with_reducible exact quiet (cadd.out _))))
              refine wpQuiet_nil ?_
              intro _
              go_wp2
              go_roundw
              case rel => exact ⟨k + 1, s2, by go_num, rfl, by omega, kE, ⟨Below.next hBl.out (by repeat (first | exact Below.refl _ _ | refine Below.later ?_ _ | refine Below.box ?_ _ | refine Below.drew ?_ | refine Below.put ?_ (by dsimp only; omega) _))⟩⟩
              case measure => first | (simp [intOf]; omega) | (simp [intOf]; done)
            · have hkm : k = m := by omega
              have kE : Kept (s = msF p (lf xs) (lf ys) m i j0) := ⟨by rw [hs.out, hkm]; rfl⟩
              have hR5 : Kept (Red W1 w5 B n (i + 1) q bf2 (fun k j => if k = i then (if j < j0 then msF p (lf xs) (lf ys) m i j else 0) else msF p (lf xs) (lf ys) m k j)) := ⟨hR.out.keep hBl.out⟩
              have hBl5 := hR5.out.arr.lt
              have hBc := hR5.out.arr.cell h
              rw [if_pos (by omega)] at hBc
              have hrc := (hR5.out.row i (by omega)).cell h5
              rw [if_pos rfl, if_neg (by omega)] at hrc
              have hrf := (hR5.out.row i (by omega)).frozen j0
              have hrl := (hR5.out.row i (by omega)).lt
              clear hs hkm hR hB5 hB6
              go_wp2
              go_roundw
              case rel => exact ⟨j0 + 1, by go_num, by omega, ⟨(hR5.out.put (show i < i + 1 by omega) j0 s).congr fun a j _ _ => by
                try dsimp only
                by_cases e1 : a = i
                · by_cases e2 : j = j0
                  · rw [if_pos (show a = i ∧ j = j0 from ⟨e1, e2⟩), if_pos e1, if_pos (show j < j0 + 1 by omega), kE.out, e2]
                  · rw [if_neg (show ¬ (a = i ∧ j = j0) from fun e => e2 e.2), if_pos e1, if_pos e1]
                    by_cases e3 : j < j0
                    · rw [if_pos e3, if_pos (show j < j0 + 1 by omega)]
                    · rw [if_neg e3, if_neg (show ¬ j < j0 + 1 by omega)]
                · rw [if_neg (show ¬ (a = i ∧ j = j0) from fun e => e1 e.1), if_neg e1, if_neg e1]⟩⟩
              case measure => first | (simp [intOf]; omega) | (simp [intOf]; done)
        · have hR4 : Kept (Red W1 w4 B n (i + 1) q bf2 (msF p (lf xs) (lf ys) m)) := ⟨hR.out.congr fun a j _ hj => by
            by_cases e1 : a = i
            · rw [if_pos e1, if_pos (by omega), e1]
            · rw [if_neg e1]⟩
          clear hR
          go_wp2
          go_roundw
          case rel => exact ⟨i + 1, bf2, by go_num, by omega, ⟨hR4.out.keep (by repeat (first | exact Below.refl _ _ | refine Below.later ?_ _ | refine Below.box ?_ _ | refine Below.drew ?_ | refine Below.put ?_ (by dsimp only; omega) _))⟩⟩
          case measure => first | (simp [intOf]; omega) | (simp [intOf]; done)
    · have hin : i = n := by omega
      subst hin
      have hD := (⟨hR.out⟩ : Kept _)
      clear hR
      go_wp2
      exact bodyPost_ret (v := .slice (some ⟨B, 0, none⟩) i i) (by simp [results, Try.results18, go_sem]) rfl ⟨B, bf, rfl, hD.out.base kW.out⟩
end Go.Proofs.Ytjnlnbkdnjainaa
