/- transform.Forward, poly.Eval. -/
import Derived.Test.YtjnlnbkdnjainaaHTvl
import Derived.Test.YtjnlnbkdnjainaaHDom
import Derived.Test.YtjnlnbkdnjainaaHKer
namespace Go.Proofs.Ytjnlnbkdnjainaa
open Go.RowKit Go.Sort

set_option maxRecDepth 100000
/-- The value of a polynomial, by Horner's rule, from the last coefficient on. -/
def hoV (p : Int) (l : List Int) (x : Int) : Nat → Int
  | 0 => 0
  | k + 1 => fadd p (fmul p (hoV p l x k) x) (l.getD (l.length - 1 - k) 0)
theorem hoV_U {p : Int} {l : List Int} {x : Int} : ∀ k, U (hoV p l x k)
  | 0 => ⟨by show (0 : Int) ≤ 0; omega, by show (0 : Int) < _; decide⟩
  | k + 1 => fadd_U
set_option maxHeartbeats 4000000 in
theorem eval_lc (p x : Int) (u : Option Addr) (n c : Nat) (l : List Int) (w : World) (hx : U x) (h1 : Ls w u l) (hn : l.length = n) (hn6 : n ≤ 1000) : Calls Try.prog 48 #[.agg #[.int .u64 p], .slice u n c, .int .u64 x] w (Gives (.int .u64 (hoV p l x n)) w) := by
  have kl := (⟨h1.get hn⟩ : Kept _)
  have kn := (⟨hn⟩ : Kept _)
  clear h1 hn
  go_enter Try.func48, Try.ntmps48
  go_wp2
  obtain ⟨w0, hw0⟩ : ∃ w0, w0 = w.alloc (.cells #[.int .u64 p] 27) := ⟨_, rfl⟩
  have kB0 : Kept (Below w.heap.size w w0) := ⟨by rw [hw0]; exact (by repeat (first | exact Below.refl _ _ | refine Below.later ?_ _ | refine Below.box ?_ _ | refine Below.drew ?_ | refine Below.put ?_ (by dsimp only; omega) _))⟩
  have kb0 : Kept (∀ w', Below w0.heap.size w0 w' → w'.cell? ⟨w.heap.size, 0, none⟩ = some (.int .u64 p) ∧ w.heap.size < w'.heap.size) := ⟨fun w' hw => ⟨by rw [hw.cell (p := ⟨w.heap.size, 0, none⟩) (by rw [hw0]; simp), hw0]; simp [go_sem], by have := hw.size; rw [hw0] at this; simp at this; omega⟩⟩
  rw [← hw0]
  clear hw0
  go_loopw [7, 8] (fun vs v wr => ∃ (k : Nat) (s : Int), v = .int .i64 ((n : Int) - 1 - (k : Int)) ∧ vs = .int .u64 s ∧ k ≤ n ∧ Kept (s = hoV p l x k) ∧ Kept (Below w0.heap.size w0 wr)) (fun _ v _ => (intOf v + 1).toNat)
  case atStart => exact ⟨0, 0, by go_num, rfl, by omega, ⟨rfl⟩, ⟨Below.refl _ _⟩⟩
  case round =>
    obtain ⟨k, s, rfl, rfl, hk, hs, hB⟩ := hrel
    obtain ⟨w1, rfl⟩ : ∃ x, x = wr := ⟨wr, rfl⟩
    by_cases h : k < n
    · obtain ⟨r, hr⟩ : ∃ r, n - 1 - k = r := ⟨_, rfl⟩
      have hri : (n : Int) - 1 - (k : Int) = (r : Int) := by omega
      rw [hri]
      obtain ⟨b, o, y, rfl, hy, hb, hc, hU⟩ := kl.out r (by omega)
      have hB2 := Below.next kB0.out hB.out
      have hc' : w1.cell? ⟨b, o + r, none⟩ = some (.int .u64 y) := by rw [hB2.cell (p := ⟨b, o + r, none⟩) hb]; exact hc
      have hb' : b < w1.heap.size := by have := hB2.size; omega
      obtain ⟨hbx, hbl⟩ := kb0.out w1 hB.out
      have hsU : U s := by rw [hs.out]; exact hoV_U k
      have cm : Kept (∀ w, Calls Try.prog 15 #[.agg #[.int .u64 p], .int .u64 s, .int .u64 x] w (Gives (.int .u64 (fmul p s x)) w)) := ⟨fun w => mul_c p s x w hsU hx⟩
      have cad : Kept (∀ w, Calls Try.prog 56 #[.agg #[.int .u64 p], .int .u64 (fmul p s x), .int .u64 y] w (Gives (.int .u64 (fadd p (fmul p s x) y)) w)) := ⟨fun w => add_c p _ _ w fmul_U hU⟩
      have kE : Kept (fadd p (fmul p s x) y = hoV p l x (k + 1)) := ⟨by
        rw [hoV, ← hs.out, kn.out, hr, List.getD, hy]; rfl⟩
      generalize fadd p (fmul p s x) y = s2 at *
      generalize fmul p s x = z at *
      clear hc hy hb hs hsU hB2 hri
      go_wp2
      first | refine region_quiet1 (by kernel_rfl) ?_ | refine region_quiet (by kernel_rfl) ?_
      repeat (go_big_quiet_step (first | (go_at_call 15; with_reducible exact quiet (cm.out _)) | (go_at_call 56; with_reducible exact quiet (cad.out _))))
      refine wpQuiet_nil ?_
      intro _
      go_wp2
      go_roundw
      case rel => exact ⟨k + 1, s2, by have : IntKind.i64.wrap ((r : Int) - 1) = (n : Int) - 1 - ((k + 1 : Nat) : Int) := by rw [IntKind.wrap_i64] <;> omega
                                       first | rw [this] | (congr 1; omega), rfl, by omega, kE, ⟨Below.next hB.out (by repeat (first | exact Below.refl _ _ | refine Below.later ?_ _ | refine Below.box ?_ _ | refine Below.drew ?_ | refine Below.put ?_ (by dsimp only; omega) _))⟩⟩
      case measure => first | (simp [intOf]; omega) | (simp [intOf]; done)
    · have hkn : k = n := by omega
      have hneg : (n : Int) - 1 - (k : Int) = -1 := by omega
      have ks : Kept (s = hoV p l x n) := ⟨by rw [hs.out, hkn]⟩
      have kB2 : Kept (Below w.heap.size w w1) := ⟨Below.next kB0.out hB.out⟩
      rw [hneg]
      clear hs hB hkn
      go_wp2
      go_ret
      exact ⟨by rw [ks.out]; rfl, kB2.out⟩
def GivesP (n : Nat) (f : Nat → Int) (w : World) (e : Ending) (w' : World) : Prop := ∃ V, e = .returned (.slice (some ⟨V, 0, none⟩) n n) ∧ Pfx w' V 22 n (fun j => .int .u64 (f j)) ∧ Below w.heap.size w w' ∧ w.heap.size ≤ V
set_option maxHeartbeats 4000000 in
theorem treduced_lc (p : Int) (u : Option Addr) (n c : Nat) (l : List Int) (w : World) (hv : vld p = true) (h1 : Ls w u l) (hn : l.length = n) (hn6 : n ≤ 10000) : Calls Try.prog 65 #[.agg #[.int .u64 p], .slice u n c] w (GivesP n (fun j => (l.getD j 0) % p) w) := by
  have hp := vld_pos hv
  have kl := (⟨h1.get hn⟩ : Kept _)
  have hmk := run_make_row' (P := Try.prog) 32 22 (.int .u64 0) 8 Try.underlying32 (by kernel_rfl) rfl .i64 .i64 n (by omega) (by omega)
  clear h1 hn
  go_enter Try.func65, Try.ntmps65
  go_wp2
  obtain ⟨w0, hw0⟩ : ∃ w0, w0 = w.alloc (.cells #[.int .u64 p] 27) := ⟨_, rfl⟩
  have kB0 : Kept (Below w.heap.size w w0) := ⟨by rw [hw0]; exact (by repeat (first | exact Below.refl _ _ | refine Below.later ?_ _ | refine Below.box ?_ _ | refine Below.drew ?_ | refine Below.put ?_ (by dsimp only; omega) _))⟩
  have hs0 : w.heap.size + 1 = w0.heap.size := by rw [hw0]; simp
  have kb0 : Kept (∀ w', Below w0.heap.size w0 w' → w'.cell? ⟨w.heap.size, 0, none⟩ = some (.int .u64 p) ∧ w.heap.size < w'.heap.size) := ⟨fun w' hw => ⟨by rw [hw.cell (p := ⟨w.heap.size, 0, none⟩) (by show w.heap.size < _; omega), hw0]; simp [go_sem], by have := hw.size; omega⟩⟩
  rw [hs0, ← hw0]
  obtain ⟨V, hV⟩ : ∃ V, w0.heap.size = V := ⟨_, rfl⟩
  have hP0 : Kept (Pfx (w0.alloc (.cells (madeCells #[.int .u64 0] n) 22)) V 22 n (fun _ => .int .u64 0)) := ⟨by rw [← hV]; exact Pfx.of_row (World.rowIs_made w0 (.int .u64 0) n 22)⟩
  have hBl0 : Kept (Below w0.heap.size w0 (w0.alloc (.cells (madeCells #[.int .u64 0] n) 22))) := ⟨(by repeat (first | exact Below.refl _ _ | refine Below.later ?_ _ | refine Below.box ?_ _ | refine Below.drew ?_ | refine Below.put ?_ (by dsimp only; omega) _))⟩
  rw [hV]
  have hVw : w.heap.size < V := by omega
  generalize w0.alloc (.cells (madeCells #[.int .u64 0] n) 22) = w2 at hP0 hBl0 ⊢
  clear hw0 hs0
  go_loopw [13] (fun v wr => ∃ (i : Nat), v = .int .i64 (i : Int) ∧ i ≤ n ∧ Kept (Pfx wr V 22 n (fun j => .int .u64 (if j < i then (l.getD j 0) % p else 0))) ∧ Kept (Below w0.heap.size w0 wr)) (fun v _ => ((n : Int) - intOf v).toNat)
  case atStart => exact ⟨0, rfl, by omega, ⟨hP0.out.congr fun j _ => by rw [if_neg (by omega)]⟩, hBl0⟩
  case round =>
    clear hP0 hBl0
    obtain ⟨i, rfl, hi, hP, hB⟩ := hrel
    obtain ⟨w1, rfl⟩ : ∃ x, x = wr := ⟨wr, rfl⟩
    by_cases h : i < n
    · obtain ⟨b, o, y, rfl, hy, hb, hc, hU⟩ := kl.out i h
      have hB2 := Below.next kB0.out hB.out
      have hc' : w1.cell? ⟨b, o + i, none⟩ = some (.int .u64 y) := by rw [hB2.cell (p := ⟨b, o + i, none⟩) hb]; exact hc
      have hb' : b < w1.heap.size := by have := hB2.size; omega
      obtain ⟨hbx, hbl⟩ := kb0.out w1 hB.out
      have hVc := hP.out.cell h
      have hVf := hP.out.frozen i
      have hVl := hP.out.lt
      obtain ⟨z, hz⟩ : ∃ z, y % p = z := ⟨_, rfl⟩
      have cred : Kept (∀ w, Calls Try.prog 14 #[.agg #[.int .u64 p], .int .u64 y] w (Gives (.int .u64 z) w)) := ⟨fun w => by have := red_c p y w hU; rw [fred, if_pos hv, hz] at this; exact this⟩
      have ky : Kept ((l.getD i 0) % p = z) := ⟨by rw [List.getD, hy]; exact hz⟩
      clear hc hy hb hB2 hz hU
      go_wp2_with (first | (go_at_call 14; (first | with_reducible refine use1 (cred.out _) ?_ | with_reducible refine use (cred.out _) ?_); intro pw))
      go_roundw
      case rel => exact ⟨i + 1, by go_num, by omega, ⟨(Pfx.set (Pfx.later5 hP.out _) i (.int .u64 z)).congr fun j _ => by
        by_cases e : j = i
        · rw [if_pos e, if_pos (by omega), e, ky.out]
        · rw [if_neg e]
          by_cases e2 : j < i
          · rw [if_pos e2, if_pos (by omega)]
          · rw [if_neg e2, if_neg (by omega)]⟩, ⟨Below.put (Below.later hB.out _) (Nat.le_of_eq hV) _⟩⟩
      case measure => first | (simp [intOf]; omega) | (simp [intOf]; done)
    · have kP2 : Kept (Pfx w1 V 22 n (fun j => .int .u64 ((l.getD j 0) % p))) := ⟨hP.out.congr fun j hj => by rw [if_pos (by omega)]⟩
      have kB2 : Kept (Below w.heap.size w w1) := ⟨Below.next kB0.out hB.out⟩
      clear hP hB
      go_wp2
      exact bodyPost_ret (v := .slice (some ⟨V, 0, none⟩) n n) (by simp [results, Try.results65, go_sem]) rfl ⟨V, rfl, kP2.out, kB2.out, Nat.le_of_lt hVw⟩
def GivesF (n : Nat) (f : Nat → Int) (w : World) (e : Ending) (w' : World) : Prop := ∃ V, e = .returned (.tuple #[.slice (some ⟨V, 0, none⟩) n n, .int .i64 0]) ∧ Pfx w' V 22 n (fun j => .int .u64 (f j)) ∧ Below w.heap.size w w'
set_option maxHeartbeats 4000000 in
theorem forward_lc (p : Int) (d n : Nat) (u : Option Addr) (c : Nat) (l : List Int) (w : World) (hv : vld p = true) (hd : d ≤ 12) (hnd : 2 ^ d = n) (hok : rootOk p n = true) (h1 : Ls w u l) (hn : l.length = n) : Calls Try.prog 26 #[.agg #[.int .u64 p], .slice u n c] w (GivesF n (vlF p d (fun j => (l.getD j 0) % p) (rootV p n)) w) := by
  have hn1 : 1 ≤ n := by rw [← hnd]; exact Nat.one_le_two_pow
  have hn6 : n ≤ 4096 := by rw [← hnd]; exact Nat.pow_le_pow_right (by omega) hd
  have hp := vld_pos hv
  have cva : Kept (∀ w, Calls Try.prog 50 #[.agg #[.int .u64 p]] w (Gives (.bool true) w)) := ⟨fun w => by have := valid_c p w; rw [hv] at this; exact this⟩
  have cro : Kept (∀ w, Calls Try.prog 63 #[.agg #[.int .u64 p], .int .i64 (n : Int)] w (Gives (.tuple #[.int .u64 (rootV p n), .bool true]) w)) := ⟨fun w => by have := troot_c p n w hn1 hn6; rw [hok] at this; exact this⟩
  have cre : Kept (∀ w', Below w.heap.size w w' → Calls Try.prog 65 #[.agg #[.int .u64 p], .slice u n c] w' (GivesP n (fun j => (l.getD j 0) % p) w')) := ⟨fun w' hw => treduced_lc p u n c l w' hv (h1.below (Nat.le_refl _) hw) hn (by omega)⟩
  have hrU : U (rootV p n) := rootV_U
  have cvl : Kept (∀ w A, Pfx w A 22 n (fun j => .int .u64 ((l.getD j 0) % p)) → Calls Try.prog 66 #[.agg #[.int .u64 p], .slice (some ⟨A, 0, none⟩) n n, .int .u64 (rootV p n)] w (fun e w' => e = .returned (.tuple #[]) ∧ Pfx w' A 22 n (fun j => .int .u64 (vlF p d (fun j => (l.getD j 0) % p) (rootV p n) j)) ∧ Upd A w w')) := ⟨fun w A hA => by
    have := values_c p d hd w A n (fun j => (l.getD j 0) % p) (rootV p n) hrU (fun i => ⟨Int.emod_nonneg _ (by omega), by have := Int.emod_lt_of_pos (l.getD i 0) (show 0 < p by omega); omega⟩)
    rw [hnd] at this
    exact this hA⟩
  have hs := h1.small
  rw [hn] at hs
  generalize vlF p d (fun j => (l.getD j 0) % p) (rootV p n) = FR at *
  generalize rootV p n = rt at *
  clear h1 hn hnd hok
  go_enter Try.func26, Try.ntmps26
  go_wp2_with (first | (go_at_call 50; (first | with_reducible refine use1 (cva.out _) ?_ | with_reducible refine use (cva.out _) ?_); intro pw) | (go_at_call 63; (first | with_reducible refine use1 (cro.out _) ?_ | with_reducible refine use (cro.out _) ?_); intro pw) | (go_at_call 65; refine Stop.out ?_))
  refine ⟨?_⟩
  refine call_genE (fun W' => Below w.heap.size w W' ∧ W'.cell? ⟨w.heap.size, 0, none⟩ = some (.int .u64 p) ∧ w.heap.size < W'.heap.size) ?fx ?_
  case fx => exact ⟨(by repeat (first | exact Below.refl _ _ | refine Below.later ?_ _ | refine Below.box ?_ _ | refine Below.drew ?_ | refine Below.put ?_ (by dsimp only; omega) _)), by simp [go_sem], by simp⟩
  rintro W1 ⟨hB1, hb1, hl1⟩
  refine (cre.out W1 hB1).mono ?_
  rintro e w2 ⟨V, rfl, hP2, hB2, hV2⟩
  have hb2 : w2.cell? ⟨w.heap.size, 0, none⟩ = some (.int .u64 p) := by rw [hB2.cell (p := ⟨w.heap.size, 0, none⟩) hl1]; exact hb1
  have hl2 : w.heap.size < w2.heap.size := by have := hB2.size; omega
  have kB2 := (⟨Below.next hB1 hB2⟩ : Kept _)
  have kP2 := (⟨hP2⟩ : Kept _)
  have hVw : w.heap.size ≤ V := by omega
  clear hB1 hb1 hl1 hP2 hB2 hV2
  go_wp2_with (first | (go_at_call 66; refine (cvl.out w2 V kP2.out).mono ?_; rintro e w3 ⟨rfl, hP3, hU3⟩; refine Stop.out ?_))
  refine ⟨?_⟩
  have kP3 := (⟨hP3⟩ : Kept _)
  have kB3 : Kept (Below w.heap.size w w3) := ⟨Upd.below kB2.out hU3 hVw⟩
  clear hP3 hU3 hb2 hl2
  go_wp2
  exact bodyPost_ret (v := .tuple #[.slice (some ⟨V, 0, none⟩) n n, .int .i64 0]) (by simp [results, Try.results26, go_sem]) rfl ⟨V, rfl, kP3.out, kB3.out⟩
end Go.Proofs.Ytjnlnbkdnjainaa
