/- linear.reduced. -/
import Derived.Test.YtjnlnbkdnjainaaHMtr
import Derived.Test.YtjnlnbkdnjainaaQC
import Derived.Test.YtjnlnbkdnjainaaQB
namespace Go.Proofs.Ytjnlnbkdnjainaa
open Go.RowKit Go.Sort

set_option maxRecDepth 100000
/-- The first i rows are laid. -/
structure Red (W w : World) (B n i m : Nat) (bf : Nat → Nat) (f : Nat → Nat → Int) : Prop where
  below : Below W.heap.size W w
  geB : W.heap.size ≤ B
  arr : w.rowIs B 32 n (fun k => if k < i then .slice (some ⟨bf k, 0, none⟩) m m else .slice none 0 0)
  row : ∀ k, k < i → w.rowIs (bf k) 22 m (fun j => .int .u64 (f k j))
  geR : ∀ k, k < i → W.heap.size ≤ bf k ∧ bf k ≠ B
  inj : ∀ a b, a < i → b < i → bf a = bf b → a = b
namespace Red
variable {W w w' : World} {B n i m : Nat} {bf : Nat → Nat} {f f' : Nat → Nat → Int}
theorem keep (h : Red W w B n i m bf f) (hb : Below w.heap.size w w') : Red W w' B n i m bf f :=
  ⟨Below.next h.below hb, h.geB, h.arr.of_block (hb.block B h.arr.lt), fun k hk => (h.row k hk).of_block (hb.block _ (h.row k hk).lt), h.geR, h.inj⟩
theorem congr (h : Red W w B n i m bf f) (e : ∀ a j, a < i → j < m → f a j = f' a j) : Red W w B n i m bf f' :=
  ⟨h.below, h.geB, h.arr, fun k hk => (h.row k hk).congr fun j hj => by rw [e k j hk hj], h.geR, h.inj⟩
theorem put (h : Red W w B n i m bf f) {a : Nat} (ha : a < i) (j : Nat) (x : Int) : Red W (w.setCell ⟨bf a, j, none⟩ (.int .u64 x)) B n i m bf (fun k b => if k = a ∧ b = j then x else f k b) := by
  refine ⟨Below.put h.below (h.geR a ha).1 _, h.geB, h.arr.setOther (fun e => (h.geR a ha).2 e.symm) _, fun k hk => ?_, h.geR, h.inj⟩
  by_cases e : k = a
  · subst e
    exact ((h.row k hk).set j (.int .u64 x)).congr fun b _ => by by_cases e : b = j <;> simp [e]
  · exact ((h.row k hk).setOther (a := ⟨bf a, j, none⟩) (fun e2 => e (h.inj k a hk ha e2)) _).congr fun b _ => by simp [e]
theorem more (h : Red W w B n i m bf f) :
    Red W ((w.setCell ⟨B, i, none⟩ (.slice (some ⟨w.heap.size, 0, none⟩) m m)).alloc (.cells (madeCells #[.int .u64 0] m) 22)) B n (i + 1) m (fun k => if k = i then w.heap.size else bf k) (fun k j => if k = i then 0 else f k j) := by
  have hBl := h.arr.lt
  have hsz := h.below.size
  refine ⟨Below.box (Below.put h.below h.geB _) _, h.geB, ?_, fun k hk => ?_, fun k hk => ?_, fun a b ha hb e => ?_⟩
  · refine ((h.arr.set i _).alloc _).congr fun k _ => ?_
    by_cases e1 : k = i
    · simp [e1]
    · by_cases e2 : k < i
      · simp [e1, e2, show k < i + 1 by omega]
      · simp [e1, e2, show ¬ k < i + 1 by omega]
  · by_cases e1 : k = i
    · simp only [e1, if_true]
      have := World.rowIs_made (w.setCell ⟨B, i, none⟩ (.slice (some ⟨w.heap.size, 0, none⟩) m m)) (.int .u64 0) m 22
      rw [World.size_setCell] at this
      exact this
    · simp only [if_neg e1]
      have := (h.row k (by omega)).setOther (a := ⟨B, i, none⟩) (h.geR k (by omega)).2 (.slice (some ⟨w.heap.size, 0, none⟩) m m)
      exact this.of_block (Go.Deep.blk_alloc_lt _ _ _ this.lt)
  · by_cases e1 : k = i
    · simp only [e1, if_true]; exact ⟨by omega, by omega⟩
    · simp only [if_neg e1]; exact h.geR k (by omega)
  · by_cases e1 : a = i <;> by_cases e2 : b = i
    · omega
    · simp only [if_pos e1, if_neg e2] at e
      have := (h.row b (by omega)).lt; omega
    · simp only [if_neg e1, if_pos e2] at e
      have := (h.row a (by omega)).lt; omega
    · simp only [if_neg e1, if_neg e2] at e
      exact h.inj a b (by omega) (by omega) e
theorem done (h : Red W w B n n m bf f) : Mx W w B n m bf (fun _ => m) f :=
  ⟨h.below, h.geB, (Pfx.of_row h.arr).congr fun k hk => by rw [if_pos hk], fun k hk => Pfx.of_row (h.row k hk), h.geR, h.inj, fun _ _ => Nat.le_refl _⟩
end Red
theorem Mx.base {W W1 w : World} {B n m : Nat} {bf cf : Nat → Nat} {f : Nat → Nat → Int} (h : Mx W1 w B n m bf cf f) (hb : Below W.heap.size W W1) : Mx W w B n m bf cf f :=
  ⟨Below.next hb h.below, Nat.le_trans hb.size h.geB, h.arr, h.row, fun i hi => ⟨Nat.le_trans hb.size (h.geR i hi).1, (h.geR i hi).2⟩, h.inj, h.cap⟩
theorem Red.base {W W1 w : World} {B n i m : Nat} {bf : Nat → Nat} {f : Nat → Nat → Int} (h : Red W1 w B n i m bf f) (hb : Below W.heap.size W W1) : Red W w B n i m bf f :=
  ⟨Below.next hb h.below, Nat.le_trans hb.size h.geB, h.arr, h.row, fun i hi => ⟨Nat.le_trans hb.size (h.geR i hi).1, (h.geR i hi).2⟩, h.inj⟩
def GivesM0 (W : World) (n m : Nat) (f : Nat → Nat → Int) (e : Ending) (w' : World) : Prop := ∃ B bf, e = .returned (.slice (some ⟨B, 0, none⟩) n n) ∧ Red W w' B n n m bf f
def GivesM (W : World) (n m : Nat) (f : Nat → Nat → Int) (e : Ending) (w' : World) : Prop := ∃ B bf cf, e = .returned (.slice (some ⟨B, 0, none⟩) n n) ∧ Mx W w' B n m bf cf f
def elF (p : Int) (ls : List (List Int)) : Nat → Nat → Int := fun i j => ((ls.getD i []).getD j 0) % p
theorem run_make_rows2 (c : Nat) (hc : c ≤ 1000000) (w : World) : (Instr.makeSlice 28 (.int .i64 (c : Int)) (.int .i64 (c : Int))).run Try.prog w = .ok (.slice (some ⟨w.heap.size, 0, none⟩) c c) (w.alloc (.cells (madeCells #[.slice none 0 0] c) 32)) := by
  obtain ⟨i, hi, hii⟩ := Option.map_eq_some_iff.1 (show (Try.prog.info? 32).map (fun i => (i.zero, i.size, i.bytes)) = some (some (.slice none 0 0), 1, 24) from by kernel_rfl)
  simp only [Prod.mk.injEq] at hii
  obtain ⟨hz, hsz, hby⟩ := hii
  exact run_make_row 28 32 i (.slice none 0 0) Try.underlying28 hi hz hsz rfl .i64 .i64 c (by rw [hby]; omega) (by omega) w

set_option maxHeartbeats 8000000 in
theorem reduced_lc0 (p : Int) (n m : Nat) (u : Option Addr) (c : Nat) (ls : List (List Int)) (w : World) (hv : vld p = true) (h1 : Mt w u ls) (hn : ls.length = n) (hn6 : n ≤ 64) (hm6 : m ≤ 200) (hrow : ∀ l ∈ ls, l.length = m) :
    Calls Try.prog 57 #[.agg #[.int .u64 p], .slice u n c] w (GivesM0 w n m (elF p ls)) := by
  have hp := vld_pos hv
  have k1 := (⟨h1.get hn⟩ : Kept _)
  have krow : Kept (∀ l ∈ ls, l.length = m) := ⟨hrow⟩
  have hmr := run_make_rows2 n (by omega)
  have hmk := run_make_row' (P := Try.prog) 32 22 (.int .u64 0) 8 Try.underlying32 (by kernel_rfl) rfl .i64 .i64 m (by omega) (by omega)
  clear h1 hn hrow
  go_enter Try.func57, Try.ntmps57
  go_wp2
  obtain ⟨B, hB⟩ : ∃ B, w.heap.size + 1 = B := ⟨_, rfl⟩
  have hR0 : Kept (Red (w.alloc (.cells #[.int .u64 p] 27)) ((w.alloc (.cells #[.int .u64 p] 27)).alloc (.cells (madeCells #[.slice none 0 0] n) 32)) B n 0 m (fun _ => 0) (fun _ _ => 0)) := ⟨⟨(by repeat (first | exact Below.refl _ _ | refine Below.later ?_ _ | refine Below.box ?_ _ | refine Below.drew ?_ | refine Below.put ?_ (by dsimp only; omega) _)), by simp; omega, by
      have := World.rowIs_made (w.alloc (.cells #[.int .u64 p] 27)) (.slice none 0 0) n 32
      rw [World.size_alloc, hB] at this
      exact this.congr fun k _ => by rw [if_neg (by omega)], fun k hk => absurd hk (by omega), fun k hk => absurd hk (by omega), fun a b ha => absurd ha (by omega)⟩⟩
  have hbx0 : Cell1 ((w.alloc (.cells #[.int .u64 p] 27)).alloc (.cells (madeCells #[.slice none 0 0] n) 32)) w.heap.size p := (Cell1.new w p _).boxed _
  rw [hB]
  have hBw : w.heap.size < B := by omega
  generalize (w.alloc (.cells #[.int .u64 p] 27)).alloc (.cells (madeCells #[.slice none 0 0] n) 32) = w0 at hR0 hbx0 ⊢
  obtain ⟨W1, hW1⟩ : ∃ W1, W1 = w.alloc (.cells #[.int .u64 p] 27) := ⟨_, rfl⟩
  have hWs : W1.heap.size = w.heap.size + 1 := by rw [hW1]; simp
  have kW : Kept (Below w.heap.size w W1) := ⟨by rw [hW1]; exact (by repeat (first | exact Below.refl _ _ | refine Below.later ?_ _ | refine Below.box ?_ _ | refine Below.drew ?_ | refine Below.put ?_ (by dsimp only; omega) _))⟩
  rw [← hW1] at hR0
  clear hB hW1
  go_loopw [15] (fun v wr => ∃ (i : Nat) (bf : Nat → Nat), v = .int .i64 (i : Int) ∧ i ≤ n ∧ Kept (Red W1 wr B n i m bf (elF p ls)) ∧ Cell1 wr w.heap.size p) (fun v _ => ((n : Int) - intOf v).toNat)
  case atStart => exact ⟨0, _, rfl, by omega, ⟨hR0.out.congr fun a j ha => absurd ha (by omega)⟩, hbx0⟩
  case round =>
    clear hR0 hbx0
    obtain ⟨i, bf, rfl, hi, hR, hbx⟩ := hrel
    obtain ⟨w1, rfl⟩ : ∃ x, x = wr := ⟨wr, rfl⟩
    by_cases h : i < n
    · obtain ⟨b1, o1, l, v1, d1, rfl, hx1, hb1, hc1, hL1⟩ := k1.out i h
      have hlm := krow.out l (List.mem_of_getElem? hx1)
      rw [hlm] at hc1
      have hB1 := Below.next kW.out hR.out.below
      have hc1' : w1.cell? ⟨b1, o1 + i, none⟩ = some (.slice v1 m d1) := by rw [hB1.cell (p := ⟨b1, o1 + i, none⟩) hb1]; exact hc1
      have hb1' : b1 < w1.heap.size := by have := hB1.size; omega
      have hBl := hR.out.arr.lt
      have hBc := hR.out.arr.cell h
      rw [if_neg (by omega)] at hBc
      have hBf := hR.out.arr.frozen i
      have hneB : b1 ≠ B := by omega
      have hR2 := (⟨hR.out.more⟩ : Kept _)
      have kl := (⟨hL1.get hlm⟩ : Kept _)
      have kx := (⟨hx1⟩ : Kept _)
      have kbx := (⟨hbx⟩ : Kept _)
      clear hc1 hB1 hx1 hR hL1 hlm hbx
      go_wp2
      obtain ⟨w2, hw2⟩ : ∃ w2, w2 = (w1.setCell ⟨B, i, none⟩ (.slice (some ⟨w1.heap.size, 0, none⟩) m m)).alloc (.cells (madeCells #[.int .u64 0] m) 22) := ⟨_, rfl⟩
      rw [← hw2] at hR2
      rw [← hw2]
      have hbx2 : Cell1 w2 w.heap.size p := by rw [hw2]; exact (kbx.out.other (by dsimp only; omega) _).boxed _
      clear hw2
      obtain ⟨bf2, hbf2⟩ : ∃ bf2 : Nat → Nat, bf2 = (fun k => if k = i then w1.heap.size else bf k) := ⟨_, rfl⟩
      rw [← hbf2] at hR2
      have hR3 : Kept (Red W1 w2 B n (i + 1) m bf2 (fun k j => if k = i then (if j < 0 then elF p ls i j else 0) else elF p ls k j)) := ⟨hR2.out.congr fun a j _ _ => by
        by_cases e : a = i
        · rw [if_pos e, if_pos e, if_neg (by omega)]
        · rw [if_neg e, if_neg e]⟩
      clear hbf2 hR2 kbx hBl hBc hBf hc1' hb1'
      go_loopw [28] (fun v wr => ∃ (j0 : Nat), v = .int .i64 (j0 : Int) ∧ j0 ≤ m ∧ Kept (Red W1 wr B n (i + 1) m bf2 (fun k j => if k = i then (if j < j0 then elF p ls i j else 0) else elF p ls k j)) ∧ Cell1 wr w.heap.size p) (fun v _ => ((m : Int) - intOf v).toNat)
      case atStart => exact ⟨0, rfl, by omega, hR3, hbx2⟩
      case round =>
        clear hR3 hbx2
        obtain ⟨j0, rfl, hj0, hR, hbx⟩ := hrel
        obtain ⟨w3, rfl⟩ : ∃ x, x = wr := ⟨wr, rfl⟩
        by_cases h5 : j0 < m
        · obtain ⟨b2, o2, x, rfl, hxx, hb2, hcx, hUx⟩ := kl.out j0 h5
          have hB3 := Below.next kW.out hR.out.below
          have hcx' : w3.cell? ⟨b2, o2 + j0, none⟩ = some (.int .u64 x) := by rw [hB3.cell (p := ⟨b2, o2 + j0, none⟩) hb2]; exact hcx
          have hb2' : b2 < w3.heap.size := by have := hB3.size; omega
          have hBl := hR.out.arr.lt
          have hBc := hR.out.arr.cell h
          rw [if_pos (by omega)] at hBc
          have hrc := (hR.out.row i (by omega)).cell h5
          rw [if_pos rfl, if_neg (by omega)] at hrc
          have hrf := (hR.out.row i (by omega)).frozen j0
          have hrl := (hR.out.row i (by omega)).lt
          have hbc := hbx.c0
          have hbl := hbx.lt
          have hgr := (hR.out.geR i (by omega)).1
          have kbx := (⟨hbx⟩ : Kept _)
          have hbw := hbx.lt
          have hne : ¬ w.heap.size = bf2 i := by omega
          have hE : elF p ls i j0 = x % p := by
            unfold elF
            rw [show ls.getD i [] = l from by rw [List.getD, kx.out]; rfl, show l.getD j0 0 = x from by rw [List.getD, hxx]; rfl]
          obtain ⟨y, hy⟩ : ∃ y, x % p = y := ⟨_, rfl⟩
          have cr : Kept (∀ w, Calls Try.prog 14 #[.agg #[.int .u64 p], .int .u64 x] w (Gives (.int .u64 y) w)) := ⟨fun w => by have := red_c p x w hUx; rw [fred, if_pos hv, hy] at this; exact this⟩
          have kE : Kept (∀ j, j = j0 → y = elF p ls i j) := ⟨fun j e => by rw [e, hE, hy]⟩
          clear hB3 hcx hxx hb2 hE hy hbx kl
          go_wp2
          first | refine region_tail1 (by kernel_rfl) (by kernel_rfl) (by kernel_rfl) ?_ | refine region_tail (by kernel_rfl) (by kernel_rfl) (by kernel_rfl) ?_
          simp only [initOf, lastOf]
          repeat (go_big_quiet_step (first | (go_at_call 14; with_reducible exact quiet (cr.out _))))
          refine wpQuiet_nil ?_
          intro _
          go_wp2
          go_roundw
          case rel => exact ⟨j0 + 1, by go_num, by omega, ⟨((hR.out.keep (by repeat (first | exact Below.refl _ _ | refine Below.later ?_ _ | refine Below.box ?_ _ | refine Below.drew ?_ | refine Below.put ?_ (by dsimp only; omega) _))).put (show i < i + 1 by omega) j0 y).congr fun a j _ _ => by
            try dsimp only
            by_cases e1 : a = i
            · by_cases e2 : j = j0
              · rw [if_pos (show a = i ∧ j = j0 from ⟨e1, e2⟩), if_pos e1, if_pos (show j < j0 + 1 by omega), kE.out j e2]
              · rw [if_neg (show ¬ (a = i ∧ j = j0) from fun e => e2 e.2), if_pos e1, if_pos e1]
                by_cases e3 : j < j0
                · rw [if_pos e3, if_pos (show j < j0 + 1 by omega)]
                · rw [if_neg e3, if_neg (show ¬ j < j0 + 1 by omega)]
            · rw [if_neg (show ¬ (a = i ∧ j = j0) from fun e => e1 e.1), if_neg e1, if_neg e1]⟩, (kbx.out.later _).other (by dsimp only; omega) _⟩
          case measure => first | (simp [intOf]; omega) | (simp [intOf]; done)
        · have hR4 : Kept (Red W1 w3 B n (i + 1) m bf2 (elF p ls)) := ⟨hR.out.congr fun a j _ hj => by
            by_cases e1 : a = i
            · rw [if_pos e1, if_pos (by omega), e1]
            · rw [if_neg e1]⟩
          clear hR
          go_wp2
          go_roundw
          case rel => exact ⟨i + 1, bf2, by go_num, by omega, ⟨hR4.out.keep (by repeat (first | exact Below.refl _ _ | refine Below.later ?_ _ | refine Below.box ?_ _ | refine Below.drew ?_ | refine Below.put ?_ (by dsimp only; omega) _))⟩, hbx⟩
          case measure => first | (simp [intOf]; omega) | (simp [intOf]; done)
    · have hin : i = n := by omega
      subst hin
      have hD := (⟨hR.out⟩ : Kept _)
      clear hR hbx
      go_wp2
      exact bodyPost_ret (v := .slice (some ⟨B, 0, none⟩) i i) (by simp [results, Try.results57, go_sem]) rfl ⟨B, bf, rfl, hD.out.base kW.out⟩
theorem reduced_lc (p : Int) (n m : Nat) (u : Option Addr) (c : Nat) (ls : List (List Int)) (w : World) (hv : vld p = true) (h1 : Mt w u ls) (hn : ls.length = n) (hn6 : n ≤ 64) (hm6 : m ≤ 200) (hrow : ∀ l ∈ ls, l.length = m) :
    Calls Try.prog 57 #[.agg #[.int .u64 p], .slice u n c] w (GivesM w n m (elF p ls)) :=
  (reduced_lc0 p n m u c ls w hv h1 hn hn6 hm6 hrow).mono fun _ _ ⟨B, bf, he, hR⟩ => ⟨B, bf, fun _ => m, he, hR.done⟩
end Go.Proofs.Ytjnlnbkdnjainaa
