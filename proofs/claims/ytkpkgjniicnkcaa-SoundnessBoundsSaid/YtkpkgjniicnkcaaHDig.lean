/- soundness.differences: the walk (some rows). -/
import Derived.Test.YtkpkgjniicnkcaaHDif
namespace Go.Proofs.Ytkpkgjniicnkcaa
open Go.RowKit Go.Sort

/-- In the midst of a row: its block is the one behind w2. -/
structure Inn (W w2 wr : World) (G P b j : Nat) (h : Nat → Nat) (f : Nat → Int) : Prop where
  below : Below W.heap.size W wr
  old : ∀ i, i < w2.heap.size → i ≠ G → wr.heap[i]? = w2.heap[i]?
  row : wr.rowIs G 36 P (fun i => if i = j then .slice (some ⟨w2.heap.size, 0, none⟩) b b else if i < j then .slice (some ⟨h i, 0, none⟩) b b else .slice none 0 0)
  new : wr.rowIs w2.heap.size 23 b (fun x => .int .u64 (f x))
  ge : W.heap.size ≤ w2.heap.size
  lt : G < w2.heap.size
theorem Inn.keep {W w2 wr w' : World} {G P b j : Nat} {h : Nat → Nat} {f : Nat → Int} (hi : Inn W w2 wr G P b j h f) (hb : Below wr.heap.size wr w') : Inn W w2 w' G P b j h f :=
  ⟨Below.next hi.below hb, fun i h1 h2 => (hb.block i (Nat.lt_trans h1 hi.new.lt)).trans (hi.old i h1 h2), hi.row.of_block (hb.block _ hi.row.lt), hi.new.of_block (hb.block _ hi.new.lt), hi.ge, hi.lt⟩
theorem Inn.put {W w2 wr : World} {G P b j : Nat} {h : Nat → Nat} {f : Nat → Int} (hi : Inn W w2 wr G P b j h f) (k : Nat) (v : Int) : Inn W w2 (wr.setCell ⟨w2.heap.size, k, none⟩ (.int .u64 v)) G P b j h (fun x => if x = k then v else f x) :=
  ⟨Below.put hi.below hi.ge _, fun i h1 h2 => (Go.Deep.blk_setCell_other _ _ _ _ (by simp only []; omega)).trans (hi.old i h1 h2), hi.row.setOther (by have := hi.lt; simp only []; omega) _, (hi.new.set k (.int .u64 v)).congr (fun x _ => by by_cases e : x = k <;> simp [e]), hi.ge, hi.lt⟩

set_option maxRecDepth 100000 in
set_option maxHeartbeats 4000000 in
theorem dif_some_c (b p0 P : Nat) (p q k n s r : Int) (mb mo c : Nat) (ls : List (List Int)) (w : World) (hb : 1 ≤ b ∧ b ≤ 256) (hp0 : p0 ≤ 70000) (hP : P ≤ 70000) (hP1 : 0 < P) (h1 : Mt w (some ⟨mb, mo, none⟩) ls) (hlen : ls.length = p0 + P + P + P) (hc : ls.length ≤ c) (hfull : ∀ l ∈ ls, l.length = b) :
    Calls Try.prog 37 #[.agg #[.int .u64 p, .int .i64 (b : Int), .int .i64 q, .int .i64 k, .int .i64 n, .int .i64 s, .int .i64 r, .int .i64 (p0 : Nat), .int .i64 (P : Nat), .int .i64 (P : Nat), .int .i64 (P : Nat)], .slice (some ⟨mb, mo, none⟩) ls.length c] w
      (fun e w' => ∃ G h, e = .returned (.slice (some ⟨G, 0, none⟩) P P) ∧ Gap w w' G P b (gapL p ls p0 P b) P h) := by
  have ct : Kept (∀ w, Calls Try.prog 43 #[.agg #[.int .u64 p, .int .i64 (b : Int), .int .i64 q, .int .i64 k, .int .i64 n, .int .i64 s, .int .i64 r, .int .i64 (p0 : Nat), .int .i64 (P : Nat), .int .i64 (P : Nat), .int .i64 (P : Nat)]] w (Gives (.int .i64 ((p0 : Int) + P + P + P)) w)) := ⟨fun w => total_c _ _ _ _ _ _ _ _ _ _ _ w (by omega) (by omega) (by omega) (by omega)⟩
  have hfb : fullB (b : Int) ls = true := by rw [fullB, List.all_eq_true]; intro l hl; simp [hfull l hl]
  have cf : Kept (∀ w', Below w.heap.size w w' → Calls Try.prog 44 #[.agg #[.int .u64 p, .int .i64 (b : Int), .int .i64 q, .int .i64 k, .int .i64 n, .int .i64 s, .int .i64 r, .int .i64 (p0 : Nat), .int .i64 (P : Nat), .int .i64 (P : Nat), .int .i64 (P : Nat)], .slice (some ⟨mb, mo, none⟩) ls.length c] w' (Gives (.bool true) w')) := ⟨fun w' hw => by
    have := full_c p b q k n s r p0 P P P (some ⟨mb, mo, none⟩) c ls w' (h1.below (Nat.le_refl _) hw)
    rw [hfb] at this; exact this⟩
  obtain ⟨m, hm⟩ : ∃ m, ls.length = m := ⟨_, rfl⟩
  have hmI : (p0 : Int) + P + P + P = (m : Int) := by omega
  rw [hmI] at ct
  have k1 := (⟨h1.get hm⟩ : Kept _)
  have kf : Kept (∀ l ∈ ls, l.length = b) := ⟨hfull⟩
  have hmp : Kept (m = p0 + P + P + P) := ⟨by omega⟩
  have hcp : m ≤ c := by omega
  have hm1 : p0 ≤ m := by omega
  have hm2 : P ≤ m - p0 := by omega
  have hm3 : P ≤ m - p0 - P := by omega
  have hne0 : ¬ c - p0 = 0 := by omega
  have hne1 : ¬ c - p0 - P = 0 := by omega
  have hne2 : ¬ c - p0 - P - P = 0 := by omega
  rw [hm] at cf ⊢
  have hmk := run_make_row' (P := Try.prog) 36 23 (.int .u64 0) 8 Try.underlying36 (by kernel_rfl) rfl .i64 .i64 b (by omega) (by omega)
  have hmk2 := run_make_row' (P := Try.prog) 53 36 (.slice none 0 0) 24 Try.underlying53 (by kernel_rfl) rfl .i64 .i64 P (by omega) (by omega)
  have hmb : m ≤ 280000 := by omega
  have hcs : (0 : Int) ≤ (c : Int) := by omega
  clear h1 hlen hc hfull hfb hm hmI
  go_enter Try.func37, Try.ntmps37
  go_wp2_with (first | (go_at_call 43; (first | with_reducible refine use1 (ct.out _) ?_ | with_reducible refine use (ct.out _) ?_); intro pw) | (go_at_call 44; (first | with_reducible refine use1 (cf.out _ (by repeat (first | exact Below.refl _ _ | refine Below.later ?_ _ | refine Below.box ?_ _ | refine Below.drew ?_ | refine Below.put ?_ (by dsimp only; omega) _))) ?_ | with_reducible refine use (cf.out _ (by repeat (first | exact Below.refl _ _ | refine Below.later ?_ _ | refine Below.box ?_ _ | refine Below.drew ?_ | refine Below.put ?_ (by dsimp only; omega) _))) ?_); intro pw))
  generalize hW1 : (after (w.alloc (.cells #[.int .u64 p, .int .i64 (b : Int), .int .i64 q, .int .i64 k, .int .i64 n, .int .i64 s, .int .i64 r, .int .i64 (p0 : Nat), .int .i64 (P : Nat), .int .i64 (P : Nat), .int .i64 (P : Nat)] 46)) pw).alloc (.cells #[.int .u64 p] 96) = W1
  have hW : Kept (Below w.heap.size w W1) := ⟨by rw [← hW1]; exact (by repeat (first | exact Below.refl _ _ | refine Below.later ?_ _ | refine Below.box ?_ _ | refine Below.drew ?_ | refine Below.put ?_ (by dsimp only; omega) _))⟩
  have hWs : W1.heap.size = w.heap.size + 1 + pw.os.size + 1 := by rw [← hW1]; simp
  have cB : Kept (W1.cell? ⟨w.heap.size, 1, none⟩ = some (.int .i64 (b : Int))) := ⟨by
    have hb : Below (w.alloc (.cells #[.int .u64 p, .int .i64 (b : Int), .int .i64 q, .int .i64 k, .int .i64 n, .int .i64 s, .int .i64 r, .int .i64 (p0 : Nat), .int .i64 (P : Nat), .int .i64 (P : Nat), .int .i64 (P : Nat)] 46)).heap.size (w.alloc (.cells #[.int .u64 p, .int .i64 (b : Int), .int .i64 q, .int .i64 k, .int .i64 n, .int .i64 s, .int .i64 r, .int .i64 (p0 : Nat), .int .i64 (P : Nat), .int .i64 (P : Nat), .int .i64 (P : Nat)] 46)) W1 := by rw [← hW1]; exact (by repeat (first | exact Below.refl _ _ | refine Below.later ?_ _ | refine Below.box ?_ _ | refine Below.drew ?_ | refine Below.put ?_ (by dsimp only; omega) _))
    rw [hb.cell (p := ⟨w.heap.size, 1, none⟩) (by simp), World.cell?_alloc_new]; rfl⟩
  have cF : Kept (W1.cell? ⟨w.heap.size + 1 + pw.os.size, 0, none⟩ = some (.int .u64 p)) := ⟨by
    rw [← hW1, show w.heap.size + 1 + pw.os.size = (after (w.alloc (.cells #[.int .u64 p, .int .i64 (b : Int), .int .i64 q, .int .i64 k, .int .i64 n, .int .i64 s, .int .i64 r, .int .i64 (p0 : Nat), .int .i64 (P : Nat), .int .i64 (P : Nat), .int .i64 (P : Nat)] 46)) pw).heap.size from by simp, World.cell?_alloc_new]; rfl⟩
  clear hW1
  go_loopw [47] (fun v wr => ∃ (j : Nat) (h : Nat → Nat), v = .int .i64 (j : Int) ∧ j ≤ P ∧ Kept (Gap W1 wr (w.heap.size + 1 + pw.os.size + 1) P b (gapL p ls p0 P b) j h)) (fun v _ => ((P : Int) - intOf v).toNat)
  case atStart =>
    refine ⟨0, fun _ => 0, rfl, by omega, ⟨(by repeat (first | exact Below.refl _ _ | refine Below.later ?_ _ | refine Below.box ?_ _ | refine Below.drew ?_ | refine Below.put ?_ (by dsimp only; omega) _)), by omega, ?_, fun i hi => absurd hi (by omega)⟩⟩
    have := World.rowIs_made W1 (.slice none 0 0) P 36
    rw [hWs] at this
    exact this
  case round =>
    obtain ⟨j, h, rfl, hj, hG⟩ := hrel
    obtain ⟨w2, rfl⟩ : ∃ x, x = wr := ⟨wr, rfl⟩
    by_cases hjP : j < P
    · have hB := hG.out.below
      have hBs := hB.size
      have fB : w2.cell? ⟨w.heap.size, 1, none⟩ = some (.int .i64 (b : Int)) := by rw [hB.cell (p := ⟨w.heap.size, 1, none⟩) (by simp only []; omega)]; exact cB.out
      have gC : w2.cell? ⟨w.heap.size + 1 + pw.os.size + 1, j, none⟩ = some (.slice none 0 0) := by have := hG.out.row.cell hjP; rw [if_neg (by omega)] at this; exact this
      have gF : w2.frozen? ⟨w.heap.size + 1 + pw.os.size + 1, j, none⟩ = false := hG.out.row.frozen j
      have hGl : w.heap.size + 1 + pw.os.size + 1 < w2.heap.size := hG.out.row.lt
      have hl0 : w.heap.size < w2.heap.size := by omega
      have hjI : (j : Int) < (P : Int) := by omega
      have hBk : Kept (Below W1.heap.size W1 w2) := ⟨hB⟩
      clear hB
      obtain ⟨bx, ox, lx, vx, cx, ex, hlx, hbx, hcx, hLx⟩ := k1.out (p0 + j) (by have := hmp.out; omega)
      obtain ⟨by', oy, ly, vy, cy, ey, hly, hby, hcy, hLy⟩ := k1.out (p0 + P + j) (by have := hmp.out; omega)
      obtain ⟨bz, oz, lz, vz, cz, ez, hlz, hbz, hcz, hLz⟩ := k1.out (p0 + P + P + j) (by have := hmp.out; omega)
      injection ex with ex
      injection ex with ex1 ex2
      subst ex1 ex2
      injection ey with ey
      injection ey with ey1 ey2
      subst ey1 ey2
      injection ez with ez
      injection ez with ez1 ez2
      subst ez1 ez2
      have nx := kf.out lx (List.mem_of_getElem? hlx)
      have ny := kf.out ly (List.mem_of_getElem? hly)
      have nz := kf.out lz (List.mem_of_getElem? hlz)
      rw [nx] at hcx
      rw [ny] at hcy
      rw [nz] at hcz
      have kx : Kept (w.cell? ⟨mb, mo + (p0 + j), none⟩ = some (.slice vx b cx) ∧ Ls w vx lx ∧ lx.length = b ∧ ls[p0 + j]? = some lx) := ⟨hcx, hLx, nx, hlx⟩
      have ky : Kept (w.cell? ⟨mb, mo + (p0 + P + j), none⟩ = some (.slice vy b cy) ∧ Ls w vy ly ∧ ly.length = b ∧ ls[p0 + P + j]? = some ly) := ⟨hcy, hLy, ny, hly⟩
      have kz : Kept (w.cell? ⟨mb, mo + (p0 + P + P + j), none⟩ = some (.slice vz b cz) ∧ Ls w vz lz ∧ lz.length = b ∧ ls[p0 + P + P + j]? = some lz) := ⟨hcz, hLz, nz, hlz⟩
      have hmbs : mb < w.heap.size := hbx
      clear hcx hcy hcz hLx hLy hLz nx ny nz hlx hly hlz hbx hby hbz
      go_wp2
      go_loopw [61] (fun v wr => ∃ (kk : Nat) (f : Nat → Int), v = .int .i64 (kk : Int) ∧ kk ≤ b ∧ Kept (Inn W1 w2 wr (w.heap.size + 1 + pw.os.size + 1) P b j h f) ∧ Kept (∀ x, x < kk → f x = gapV p ls p0 P j x)) (fun v _ => ((b : Int) - intOf v).toNat)
      case atStart =>
        refine ⟨0, fun _ => 0, rfl, by omega, ⟨?_, fun i h1 h2 => ?_, ?_, ?_, hBs, hGl⟩, ⟨fun x hx => absurd hx (by omega)⟩⟩
        · exact Below.box (Below.put hBk.out (by simp only []; omega) _) _
        · rw [Go.Deep.blk_alloc_lt _ _ _ (by simpa using h1), Go.Deep.blk_setCell_other _ _ _ _ (by simp only []; omega)]
        · refine ((hG.out.row.set j (.slice (some ⟨w2.heap.size, 0, none⟩) b b)).alloc _).congr fun i _ => ?_
          by_cases e : i = j <;> simp [e]
        · have := World.rowIs_made (w2.setCell ⟨w.heap.size + 1 + pw.os.size + 1, j, none⟩ (.slice (some ⟨w2.heap.size, 0, none⟩) b b)) (.int .u64 0) b 23
          simpa using this
      case round =>
        obtain ⟨kk, f, rfl, hk, hN, hI⟩ := hrel
        by_cases hkb : kk < b
        · have hBw : Below W1.heap.size W1 wr := hN.out.below
          have hBww : Kept (Below w.heap.size w wr) := ⟨Below.next hW.out hBw⟩
          have hszw := hBww.out.size
          have fF : wr.cell? ⟨w.heap.size + 1 + pw.os.size, 0, none⟩ = some (.int .u64 p) := by rw [hBw.cell (p := ⟨w.heap.size + 1 + pw.os.size, 0, none⟩) (by simp only []; omega)]; exact cF.out
          have gG : wr.cell? ⟨w.heap.size + 1 + pw.os.size + 1, j, none⟩ = some (.slice (some ⟨w2.heap.size, 0, none⟩) b b) := by have := hN.out.row.cell hjP; rw [if_pos rfl] at this; exact this
          have hoc := hN.out.new.cell hkb
          have hof := hN.out.new.frozen kk
          have hol := hN.out.new.lt
          have hlG := hN.out.row.lt
          have hlF : w.heap.size + 1 + pw.os.size < wr.heap.size := by omega
          have hlm : mb < wr.heap.size := by omega
          obtain ⟨qx1, qx2, qx3, qx4⟩ := kx.out
          obtain ⟨qy1, qy2, qy3, qy4⟩ := ky.out
          obtain ⟨qz1, qz2, qz3, qz4⟩ := kz.out
          obtain ⟨xb, xo, x, rfl, hx, hxb, hxc, hxU⟩ := qx2.at_ (k := kk) (by omega)
          obtain ⟨yb, yo, y, rfl, hy, hyb, hyc, hyU⟩ := qy2.at_ (k := kk) (by omega)
          obtain ⟨zb, zo, z, rfl, hz, hzb, hzc, hzU⟩ := qz2.at_ (k := kk) (by omega)
          have m1 : wr.cell? ⟨mb, mo + p0 + j, none⟩ = some (.slice (some ⟨xb, xo, none⟩) b cx) := by rw [hBww.out.cell (p := ⟨mb, mo + p0 + j, none⟩) hmbs, Nat.add_assoc]; exact qx1
          have m2 : wr.cell? ⟨mb, mo + p0 + P + j, none⟩ = some (.slice (some ⟨yb, yo, none⟩) b cy) := by rw [hBww.out.cell (p := ⟨mb, mo + p0 + P + j, none⟩) hmbs, show mo + p0 + P + j = mo + (p0 + P + j) from by omega]; exact qy1
          have m3 : wr.cell? ⟨mb, mo + p0 + P + P + j, none⟩ = some (.slice (some ⟨zb, zo, none⟩) b cz) := by rw [hBww.out.cell (p := ⟨mb, mo + p0 + P + P + j, none⟩) hmbs, show mo + p0 + P + P + j = mo + (p0 + P + P + j) from by omega]; exact qz1
          have n1 : wr.cell? ⟨xb, xo + kk, none⟩ = some (.int .u64 x) := by rw [hBww.out.cell (p := ⟨xb, xo + kk, none⟩) hxb]; exact hxc
          have n2 : wr.cell? ⟨yb, yo + kk, none⟩ = some (.int .u64 y) := by rw [hBww.out.cell (p := ⟨yb, yo + kk, none⟩) hyb]; exact hyc
          have n3 : wr.cell? ⟨zb, zo + kk, none⟩ = some (.int .u64 z) := by rw [hBww.out.cell (p := ⟨zb, zo + kk, none⟩) hzb]; exact hzc
          have hlx : xb < wr.heap.size := by omega
          have hly : yb < wr.heap.size := by omega
          have hlz : zb < wr.heap.size := by omega
          have hgv : Kept (gapV p ls p0 P j kk = fsub p (fmul p x y) z) := ⟨by
            simp only [gapV, List.getD, qx4, qy4, qz4, Option.getD_some, hx, hy, hz]⟩
          have cm : Kept (∀ w, Calls Try.prog 66 #[.agg #[.int .u64 p], .int .u64 x, .int .u64 y] w (Gives (.int .u64 (fmul p x y)) w)) := ⟨fun w => mul_c p x y w hxU hyU⟩
          have cs : Kept (∀ w, Calls Try.prog 65 #[.agg #[.int .u64 p], .int .u64 (fmul p x y), .int .u64 z] w (Gives (.int .u64 (fsub p (fmul p x y) z)) w)) := ⟨fun w => sub_c p _ z w fmul_U hzU⟩
          have hkI : (kk : Int) < (b : Int) := by omega
          have e1 : (p0 : Int) + (P : Int) ≤ (m : Int) := by omega
          have hx1 : (j : Int) < ((m - p0 : Nat) : Int) := by have := hmp.out; omega
          have hx2 : (j : Int) < ((m - p0 - P : Nat) : Int) := by have := hmp.out; omega
          have hx3 : (j : Int) < ((m - p0 - P - P : Nat) : Int) := by have := hmp.out; omega
          clear qx1 qx2 qx3 qx4 qy1 qy2 qy3 qy4 qz1 qz2 qz3 qz4 hx hy hz hxc hyc hzc hxU hyU hzU hxb hyb hzb hBw kx ky kz k1
          generalize fsub p (fmul p x y) z = V at *
          generalize fmul p x y = M at *
          go_wp2
          first | refine region_tail1 (by kernel_rfl) (by kernel_rfl) (by kernel_rfl) ?_ | refine region_tail (by kernel_rfl) (by kernel_rfl) (by kernel_rfl) ?_
          simp only [initOf, lastOf]
          repeat (go_big_quiet_step (first | (go_at_call 66; with_reducible exact quiet (cm.out _)) | (go_at_call 65; with_reducible exact quiet (cs.out _))))
          refine wpQuiet_nil ?_
          intro _
          go_wp2
          go_roundw
          case rel => exact ⟨kk + 1, _, by go_num, by omega, ⟨(hN.out.keep (after_below _ _)).put kk V⟩, ⟨fun x' hx' => by
            by_cases e : x' = kk
            · subst e; rw [if_pos rfl]; exact hgv.out.symm
            · rw [if_neg e]; exact hI.out x' (by omega)⟩⟩
          case measure => first | (simp [intOf]; omega) | (simp [intOf]; done)
        · have hkk : kk = b := by omega
          have hG2 : Kept (Gap W1 wr (w.heap.size + 1 + pw.os.size + 1) P b (gapL p ls p0 P b) (j + 1) (fun i => if i = j then w2.heap.size else h i)) := ⟨Gap.next hG.out hjP hN.out.below hN.out.old hN.out.row (hN.out.new.congr fun x hx => by
            rw [gapL_at p ls p0 P b j x hx, hI.out x (by omega)])⟩
          clear hN hI hG
          go_wp2
          go_roundw
          case rel => exact ⟨j + 1, _, by go_num, by omega, hG2⟩
          case measure => first | (simp [intOf]; omega) | (simp [intOf]; done)
    · have hjj : j = P := by omega
      subst hjj
      go_wp2
      go_ret
      exact ⟨_, h, rfl, by
        have hg := hG.out
        exact ⟨Below.next hW.out hg.below, Nat.le_trans hW.out.size hg.ge, hg.row, hg.own⟩⟩
end Go.Proofs.Ytkpkgjniicnkcaa
