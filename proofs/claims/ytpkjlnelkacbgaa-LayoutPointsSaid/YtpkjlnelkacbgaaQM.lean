/- Lemmas of several texts in one file: Cut, Val, Msg. -/
import Derived.Test.YtpkjlnelkacbgaaQC
import Derived.Deep.Onto
import Derived.Test.YtpkjlnelkacbgaaQG
import Derived.Test.YtpkjlnelkacbgaaQB
import Derived.OneCell
import Derived.Deep.RegionHeld3
import Derived.Deep.AppendLies
/- The reference's cut. -/
namespace Go.Proofs.Ytpkjlnelkacbgaa
open Go.RowKit Go.Sort

theorem Mat.base {W W1 w : World} {v : Value} {bs : List Nat} {ls : List (List Int)} (h : Mat W1 w v bs ls) (hb : Below W.heap.size W W1) : Mat W w v bs ls :=
  ⟨⟨Below.next hb h.grown.below, h.grown.own.mono hb.size⟩, h.len, h.rows, fun b hbm => ⟨Nat.le_trans hb.size (h.ge b hbm).1, (h.ge b hbm).2⟩, h.nodup, h.all⟩
def GivesMat (ls : List (List Int)) (w : World) (e : Ending) (w' : World) : Prop := ∃ v bs, e = .returned v ∧ Mat w w' v bs ls

set_option maxRecDepth 100000 in
set_option maxHeartbeats 4000000 in
theorem cut_c (b : Nat) (pf : Nat → Nat) (uf : Nat → Option Addr) (cf : Nat → Nat) (lf : Nat → List Int) (p q k n s r : Int) (w : World) (hb : 1 ≤ b ∧ b ≤ 256) (hpf : ∀ i, pf i ≤ 70000) (hL : ∀ i, i < 4 → Ls w (uf i) (lf i)) :
    Calls Try.prog 45 #[.agg #[.int .u64 p, .int .i64 (b : Int), .int .i64 q, .int .i64 k, .int .i64 n, .int .i64 s, .int .i64 r, .int .i64 (pf 0 : Nat), .int .i64 (pf 1 : Nat), .int .i64 (pf 2 : Nat), .int .i64 (pf 3 : Nat)],
      .agg #[.slice (uf 0) (lf 0).length (cf 0), .slice (uf 1) (lf 1).length (cf 1), .slice (uf 2) (lf 2).length (cf 2), .slice (uf 3) (lf 3).length (cf 3)]] w (GivesMat (cuts b pf lf 4) w) := by
  have kL : Kept (∀ i, i < 4 → Ls w (uf i) (lf i)) := ⟨hL⟩
  have kp : Kept (∀ i, pf i ≤ 70000) := ⟨hpf⟩
  obtain ⟨nf, hnf⟩ : ∃ nf : Nat → Nat, ∀ i, (lf i).length = nf i := ⟨_, fun _ => rfl⟩
  rw [hnf, hnf, hnf, hnf]
  have kn : Kept (∀ i, (lf i).length = nf i) := ⟨hnf⟩
  have hs0 := (hL 0 (by omega)).small
  have hs1 := (hL 1 (by omega)).small
  have hs2 := (hL 2 (by omega)).small
  have hs3 := (hL 3 (by omega)).small
  rw [hnf] at hs0 hs1 hs2 hs3
  have hp0 := hpf 0
  have hp1 := hpf 1
  have hp2 := hpf 2
  have hp3 := hpf 3
  clear hL hpf hnf
  have hmk := run_make_row' (P := Try.prog) 43 22 (.int .u64 0) 8 Try.underlying43 (by kernel_rfl) rfl .i64 .i64 b (by omega) (by omega)
  go_enter Try.func45, Try.ntmps45
  go_wp2
  generalize hW1 : (w.alloc (.cells #[.int .u64 p, .int .i64 (b : Int), .int .i64 q, .int .i64 k, .int .i64 n, .int .i64 s, .int .i64 r, .int .i64 (pf 0 : Nat), .int .i64 (pf 1 : Nat), .int .i64 (pf 2 : Nat), .int .i64 (pf 3 : Nat)] 36)).alloc
    (.cells #[.slice (uf 0) (nf 0) (cf 0), .slice (uf 1) (nf 1) (cf 1), .slice (uf 2) (nf 2) (cf 2), .slice (uf 3) (nf 3) (cf 3)] 84) = W1
  have hW : Kept (Below w.heap.size w W1) := ⟨by rw [← hW1]; exact (by repeat (first | exact Below.refl _ _ | refine Below.later ?_ _ | refine Below.box ?_ _ | refine Below.drew ?_ | refine Below.put ?_ (by dsimp only; omega) _))⟩
  have hWs : W1.heap.size = w.heap.size + 1 + 1 := by rw [← hW1]; simp
  have cb : Kept (W1.cell? ⟨w.heap.size, 1, none⟩ = some (.int .i64 (b : Int))) := ⟨by rw [← hW1]; simp⟩
  have cp : Kept (∀ i, i < 4 → W1.cell? ⟨w.heap.size, 7 + i, none⟩ = some (.int .i64 (pf i : Int))) := ⟨fun i hi => by
    rw [← hW1]
    match i, hi with
    | 0, _ => simp
    | 1, _ => simp
    | 2, _ => simp
    | 3, _ => simp⟩
  have cv : Kept (∀ i, i < 4 → W1.cell? ⟨w.heap.size + 1, i, none⟩ = some (.slice (uf i) (nf i) (cf i))) := ⟨fun i hi => by
    rw [← hW1]
    match i, hi with
    | 0, _ => simp
    | 1, _ => simp
    | 2, _ => simp
    | 3, _ => simp⟩
  clear hW1
  go_loopw [5, 6] (fun vo vi wr => ∃ (i : Nat) (bs : List Nat), vi = .int .i64 (i : Int) ∧ i ≤ 4 ∧ Kept (Mat W1 wr vo bs (cuts b pf lf i))) (fun _ vi _ => (4 - intOf vi).toNat)
  case atStart => exact ⟨0, [], rfl, by omega, ⟨Mat.nil0 W1⟩⟩
  case round =>
    obtain ⟨i, bs, rfl, hi, hM⟩ := hrel
    obtain ⟨w1, rfl⟩ : ∃ x, x = wr := ⟨wr, rfl⟩
    by_cases h : i < 4
    · have hi2 : (i : Int) < 4 := by omega
      go_wp2
      go_loopw [5, 7] (fun vo vk wr => ∃ (kk : Nat) (bs : List Nat), vk = .int .i64 (kk : Int) ∧ kk ≤ pf i ∧ Kept (Mat W1 wr vo bs (cuts b pf lf i ++ cutL b kk (lf i)))) (fun _ vk _ => ((pf i : Int) - intOf vk).toNat)
      case atStart => exact ⟨0, bs, rfl, by omega, ⟨by simp only [cutL, List.range_zero, List.map_nil, List.append_nil]; exact hM.out⟩⟩
      case round =>
        clear hM
        obtain ⟨kk, bs2, rfl, hk, hM⟩ := hrel
        obtain ⟨w2, rfl⟩ : ∃ x, x = wr := ⟨wr, rfl⟩
        have hB := hM.out.grown.below
        have fb : w2.cell? ⟨w.heap.size, 1, none⟩ = some (.int .i64 (b : Int)) := by rw [hB.cell (p := ⟨w.heap.size, 1, none⟩) (by simp only []; omega)]; exact cb.out
        have fp : w2.cell? ⟨w.heap.size, 7 + i, none⟩ = some (.int .i64 (pf i : Int)) := by rw [hB.cell (p := ⟨w.heap.size, 7 + i, none⟩) (by simp only []; omega)]; exact cp.out i h
        have hpi := kp.out i
        have hB2 := hB.size
        have hBk : Kept (Below W1.heap.size W1 w2) := ⟨hB⟩
        clear hB
        by_cases h2 : kk < pf i
        · obtain ⟨kb, hkb⟩ : ∃ kb, kk * b = kb := ⟨_, rfl⟩
          have hkbI : (kk : Int) * (b : Int) = (kb : Int) := by rw [← hkb]; simp
          have hkb3 : kb ≤ 17920000 := by
            rw [← hkb]
            have h1 : kk * b ≤ 70000 * 256 := Nat.mul_le_mul (by omega) hb.2
            omega
          have hkb' : Kept (kk * b = kb) := ⟨hkb⟩
          clear hkb
          go_wp2
          go_loopw [9] (fun vj wr => ∃ (j : Nat) (f : Nat → Int), vj = .int .i64 (j : Int) ∧ j ≤ b ∧ Row w2 wr w2.heap.size b f ∧ Kept (∀ x, x < j → f x = (lf i).getD (kk * b + x) 0) ∧ Kept (∀ x, j ≤ x → f x = 0)) (fun vj _ => ((b : Int) - intOf vj).toNat)
          case atStart => exact ⟨0, fun _ => 0, rfl, by omega, ⟨(by repeat (first | exact Below.refl _ _ | refine Below.later ?_ _ | refine Below.box ?_ _ | refine Below.drew ?_ | refine Below.put ?_ (by dsimp only; omega) _)), by simpa using World.rowIs_made w2 (.int .u64 0) b 22, Nat.le_refl _⟩, ⟨fun x hx => absurd hx (by omega)⟩, ⟨fun _ _ => rfl⟩⟩
          case round =>
            obtain ⟨j, f, rfl, hj, hr, hI1, hI2⟩ := hrel
            have hBw : Below W1.heap.size W1 wr := Below.next hBk.out hr.below
            have fb : wr.cell? ⟨w.heap.size, 1, none⟩ = some (.int .i64 (b : Int)) := by rw [hBw.cell (p := ⟨w.heap.size, 1, none⟩) (by simp only []; omega)]; exact cb.out
            have fv : wr.cell? ⟨w.heap.size + 1, i, none⟩ = some (.slice (uf i) (nf i) (cf i)) := by rw [hBw.cell (p := ⟨w.heap.size + 1, i, none⟩) (by simp only []; omega)]; exact cv.out i h
            have hni : (nf i : Int) ≤ 9223372036854775807 := by
              have := (kL.out i h).small
              rw [kn.out] at this; exact this
            have hsz := hBw.size
            have hlt2 := hr.row.lt
            have hlt3 : w.heap.size < wr.heap.size := by omega
            have hlt4 : w.heap.size + 1 < wr.heap.size := by omega
            have hBwk : Kept (Below W1.heap.size W1 wr) := ⟨hBw⟩
            clear hBw
            by_cases hjb : j < b
            · by_cases hjn : kb + j < nf i
              · obtain ⟨b1, o1, x, hu, hx, hb1, hcx, hUx⟩ := (kL.out i h).get (kn.out i) (kb + j) hjn
                have hcx2 : wr.cell? ⟨b1, o1 + (kb + j), none⟩ = some (.int .u64 x) := by rw [(Below.next hW.out hBwk.out).cell (p := ⟨b1, o1 + (kb + j), none⟩) hb1]; exact hcx
                have hb1w : b1 < wr.heap.size := by omega
                rw [hu] at fv
                have hI3 : Kept (∀ y, y < j + 1 → (if y = j then x else f y) = (lf i).getD (kk * b + y) 0) := ⟨fun y hy => by
                  by_cases e : y = j
                  · subst e; rw [if_pos rfl, hkb'.out, List.getD, hx]; rfl
                  · rw [if_neg e]; exact hI1.out y (by omega)⟩
                have hI4 : Kept (∀ y, j + 1 ≤ y → (if y = j then x else f y) = 0) := ⟨fun y hy => by rw [if_neg (by omega)]; exact hI2.out y (by omega)⟩
                have hoc := hr.row.cell hjb
                have hof := hr.row.frozen j
                have hr' : Kept (Row w2 wr w2.heap.size b f) := ⟨hr⟩
                have hjI : (j : Int) < (b : Int) := by omega
                have hjnI : (kb : Int) + (j : Int) < (nf i : Int) := by omega
                clear hI1 hI2 hr hcx hu hx hb1 hUx
                go_wp2
                first | refine region_quiet1 (by kernel_rfl) ?_ | refine region_quiet (by kernel_rfl) ?_
                repeat (go_big_quiet_step (first | fail))
                refine wpQuiet_nil ?_
                intro _
                go_wp2
                first | refine region_tail1 (by kernel_rfl) (by kernel_rfl) (by kernel_rfl) ?_ | refine region_tail (by kernel_rfl) (by kernel_rfl) (by kernel_rfl) ?_
                simp only [initOf, lastOf]
                repeat (go_big_quiet_step (first | fail))
                refine wpQuiet_nil ?_
                intro _
                go_wp2
                go_roundw
                case rel => exact ⟨j + 1, _, by go_num, by omega, (hr'.out.later _).put j x, hI3, hI4⟩
                case measure => first | (simp [intOf]; omega) | (simp [intOf]; done)
              · have hjnI : decide ((kb : Int) + (j : Int) < (nf i : Int)) = false := by simp; omega
                have hro : Kept (wr.rowIs w2.heap.size 22 b (fun j => .int .u64 ((chunk b (lf i) kk).getD j 0))) := ⟨hr.row.congr (fun x hx => by
                  rw [chunk_at b (lf i) kk x hx]
                  rcases Nat.lt_or_ge x j with hxj | hxj
                  · rw [hI1.out x hxj]
                  · rw [hI2.out x hxj, List.getD, List.getElem?_eq_none (by rw [kn.out]; have := hkb'.out; omega)]; rfl)⟩
                have hro2 : Kept (∀ q, (after wr q).rowIs w2.heap.size 22 b (fun j => .int .u64 ((chunk b (lf i) kk).getD j 0))) := ⟨fun q => hro.out.of_block ((after_below wr q).block _ hro.out.lt)⟩
                have hMw : Kept (Mat W1 wr u5 bs2 (cuts b pf lf i ++ cutL b kk (lf i))) := ⟨hM.out.keep hr.below⟩
                have hpb : Kept (w2.heap.size ∉ bs2) := ⟨fun hm => by have := (hM.out.ge _ hm).2.2; omega⟩
                have hpv : Kept (u5.ownBlock ≠ some w2.heap.size) := ⟨fun e => by have := (hM.out.grown.own.lt _ e).2; omega⟩
                have hUc : Kept (∀ x ∈ chunk b (lf i) kk, U x) := ⟨chunk_U (kL.out i h).all⟩
                have hcl : Kept ((cuts b pf lf i ++ cutL b kk (lf i)).length ≤ 1048576) := ⟨by
                  have := cuts_len (b := b) (lf := lf) kp.out i
                  rw [List.length_append, cutL_len]
                  have : i * 70000 ≤ 4 * 70000 := Nat.mul_le_mul_right _ hi
                  omega⟩
                have hge3 : Kept (W1.heap.size ≤ w2.heap.size) := ⟨hB2⟩
                clear hr hI1 hI2 hM
                go_wp2
                first | refine region_quiet1 (by kernel_rfl) ?_ | refine region_quiet (by kernel_rfl) ?_
                repeat (go_big_quiet_step (first | fail))
                refine wpQuiet_nil ?_
                intro _
                go_wp2_with (first | (at_builtin; refine wpList_pushRow (W := W1) rfl _ _ rfl _ bs2 _ ((hMw.out.later _).box _) rfl w2.heap.size b (chunk b (lf i) kk) (chunk_len _ _ _) ((hro2.out _).alloc _) hge3.out hpb.out hpv.out hUc.out _ rfl (by first | simp | (rw [← after_size, World.cell?_alloc_new]; rfl)) hcl.out ?_; intro v2 w4 hM2; refine Stop.out ?_))
                have hM3 : Kept (Mat W1 w4 v2 (bs2 ++ [w2.heap.size]) (cuts b pf lf i ++ cutL b (kk + 1) (lf i))) := ⟨by rw [cutL_next, ← List.append_assoc]; exact hM2⟩
                clear hM2 hMw hro hUc
                refine ⟨?_⟩
                go_wp2
                go_roundw
                case rel => exact ⟨kk + 1, bs2 ++ [w2.heap.size], by go_num, by omega, hM3⟩
                case measure => first | (simp [intOf]; omega) | (simp [intOf]; done)
            · have hjnI : decide ((j : Int) < (b : Int)) = false := by simp; omega
              have hro : Kept (wr.rowIs w2.heap.size 22 b (fun j => .int .u64 ((chunk b (lf i) kk).getD j 0))) := ⟨hr.row.congr (fun x hx => by
                rw [chunk_at b (lf i) kk x hx]
                rcases Nat.lt_or_ge x j with hxj | hxj
                · rw [hI1.out x hxj]
                · exact absurd hx (by omega))⟩
              have hro2 : Kept (∀ q, (after wr q).rowIs w2.heap.size 22 b (fun j => .int .u64 ((chunk b (lf i) kk).getD j 0))) := ⟨fun q => hro.out.of_block ((after_below wr q).block _ hro.out.lt)⟩
              have hMw : Kept (Mat W1 wr u5 bs2 (cuts b pf lf i ++ cutL b kk (lf i))) := ⟨hM.out.keep hr.below⟩
              have hpb : Kept (w2.heap.size ∉ bs2) := ⟨fun hm => by have := (hM.out.ge _ hm).2.2; omega⟩
              have hpv : Kept (u5.ownBlock ≠ some w2.heap.size) := ⟨fun e => by have := (hM.out.grown.own.lt _ e).2; omega⟩
              have hUc : Kept (∀ x ∈ chunk b (lf i) kk, U x) := ⟨chunk_U (kL.out i h).all⟩
              have hcl : Kept ((cuts b pf lf i ++ cutL b kk (lf i)).length ≤ 1048576) := ⟨by
                have := cuts_len (b := b) (lf := lf) kp.out i
                rw [List.length_append, cutL_len]
                have : i * 70000 ≤ 4 * 70000 := Nat.mul_le_mul_right _ hi
                omega⟩
              have hge3 : Kept (W1.heap.size ≤ w2.heap.size) := ⟨hB2⟩
              clear hr hI1 hI2 hM
              go_wp2
              first | refine region_quiet1 (by kernel_rfl) ?_ | refine region_quiet (by kernel_rfl) ?_
              repeat (go_big_quiet_step (first | fail))
              refine wpQuiet_nil ?_
              intro _
              go_wp2_with (first | (at_builtin; refine wpList_pushRow (W := W1) rfl _ _ rfl _ bs2 _ ((hMw.out.later _).box _) rfl w2.heap.size b (chunk b (lf i) kk) (chunk_len _ _ _) ((hro2.out _).alloc _) hge3.out hpb.out hpv.out hUc.out _ rfl (by first | simp | (rw [← after_size, World.cell?_alloc_new]; rfl)) hcl.out ?_; intro v2 w4 hM2; refine Stop.out ?_))
              have hM3 : Kept (Mat W1 w4 v2 (bs2 ++ [w2.heap.size]) (cuts b pf lf i ++ cutL b (kk + 1) (lf i))) := ⟨by rw [cutL_next, ← List.append_assoc]; exact hM2⟩
              clear hM2 hMw hro hUc
              refine ⟨?_⟩
              go_wp2
              go_roundw
              case rel => exact ⟨kk + 1, bs2 ++ [w2.heap.size], by go_num, by omega, hM3⟩
              case measure => first | (simp [intOf]; omega) | (simp [intOf]; done)
        · have hkk : kk = pf i := by omega
          have hM3 : Kept (Mat W1 w2 u5 bs2 (cuts b pf lf (i + 1))) := ⟨by rw [cuts, ← hkk]; exact hM.out⟩
          clear hM
          go_wp2
          go_roundw
          case rel => exact ⟨i + 1, bs2, by go_num, by omega, hM3⟩
          case measure => first | (simp [intOf]; omega) | (simp [intOf]; done)
    · have hi4 : i = 4 := by omega
      subst hi4
      go_wp2
      go_ret
      exact ⟨_, bs, rfl, hM.out.base hW.out⟩
end Go.Proofs.Ytpkjlnelkacbgaa

/- The value of a linear combination (of the reference and of the program); the three sides of a row. -/
namespace Go.Proofs.Ytpkjlnelkacbgaa
open Go.RowKit Go.Sort

def valS (p : Int) (ws : List Int) (acc : Int) (t : Int × Int) : Int := if 0 ≤ t.1 ∧ t.1 < ws.length then fadd p acc (fmul p t.2 (ws.getD t.1.toNat 0)) else acc
def valL (p : Int) (ws : List Int) (l : List (Int × Int)) : Int := l.foldl (valS p ws) 0
theorem valL_next {p : Int} {ws : List Int} {l : List (Int × Int)} {k : Nat} {x : Int × Int} (h : l[k]? = some x) : valL p ws (l.take (k + 1)) = valS p ws (valL p ws (l.take k)) x := by
  unfold valL; rw [List.take_add_one, h]; simp

theorem sides_c (r : Rw) (w : World) : Calls Try.prog 42 #[.agg #[r.a.v, r.b.v, r.c.v]] w (Gives (.agg #[r.a.v, r.b.v, r.c.v]) w) := by
  obtain ⟨⟨au, ac, al⟩, ⟨bu, bc, bl⟩, ⟨cu, cc, cl⟩⟩ := r
  simp only [Lin.v]
  generalize al.length = an
  generalize bl.length = bn
  generalize cl.length = cn
  go_enter Try.func42, Try.ntmps42
  go_wp2
  exact bodyPost_ret (v := .agg #[.slice au an ac, .slice bu bn bc, .slice cu cn cc]) (by simp [results, Try.results42, go_sem]) rfl ⟨rfl, (by repeat (first | with_reducible exact Below.refl _ _ | with_reducible refine Below.later ?_ _ | with_reducible refine Below.box ?_ _ | with_reducible refine Below.drew ?_ | with_reducible refine Below.put ?_ (by dsimp only; omega) _))⟩

set_option maxHeartbeats 1000000 in
theorem rvalue_c (p : Int) (u : Option Addr) (c : Nat) (l : List (Int × Int)) (uw : Option Addr) (cw : Nat) (ws : List Int) (w : World) (h1 : Tm w u l) (h2 : Ls w uw ws) :
    Calls Try.prog 49 #[.int .u64 p, .slice u l.length c, .slice uw ws.length cw] w (Gives (.int .u64 (valL p ws l)) w) := by
  obtain ⟨m, hm⟩ : ∃ m, l.length = m := ⟨_, rfl⟩
  obtain ⟨n, hn⟩ : ∃ n, ws.length = n := ⟨_, rfl⟩
  have hs1 := h1.small
  have hs2 := h2.small
  have k1 := (⟨h1.get hm⟩ : Kept _)
  have k2 := (⟨h2.get hn⟩ : Kept _)
  have e1 : Kept (l.length = m) := ⟨hm⟩
  have e2 : Kept (ws.length = n) := ⟨hn⟩
  rw [hm] at hs1 ⊢
  rw [hn] at hs2 ⊢
  clear h1 h2 hm hn
  go_enter Try.func49, Try.ntmps49
  go_wp2
  go_loopw [7, 8] (fun vs v wr => ∃ (acc : Int) (k : Nat) (q0 : Regrown), vs = .int .u64 acc ∧ v = .int .i64 (k : Int) ∧ wr = after w q0 ∧ k ≤ m ∧ U acc ∧ Kept (valL p ws (l.take k) = acc)) (fun _ v _ => (m : Int).toNat - (intOf v).toNat)
  case atStart => exact ⟨0, 0, ⟨_, #[]⟩, rfl, rfl, by simp [after_eq, Go.Sort.grow_empty]; rfl, by omega, ⟨by decide, by decide⟩, ⟨rfl⟩⟩
  case round =>
    obtain ⟨acc, k, q0, rfl, rfl, rfl, hk, hU, hI⟩ := hrel
    by_cases h : k < m
    · obtain ⟨b1, o1, x, y, rfl, hx1, hb1, hc1, hc2, hX, hY⟩ := k1.out k h
      have hI2 : Kept (valL p ws (l.take (k + 1)) = valS p ws acc (x, y)) := ⟨by rw [valL_next hx1, hI.out]⟩
      by_cases g1 : 0 ≤ x
      · by_cases g2 : x < n
        · obtain ⟨j, rfl⟩ : ∃ j : Nat, x = j := ⟨x.toNat, by omega⟩
          obtain ⟨b2, o2, z, rfl, hz, hb2, hc3, hZ⟩ := k2.out j (by omega)
          have hU2 : U (fmul p y z) := fmul_U
          have hU3 : U (fadd p acc (fmul p y z)) := fadd_U
          have hI3 : Kept (valL p ws (l.take (k + 1)) = fadd p acc (fmul p y z)) := ⟨by
            rw [hI2.out, valS]; simp only []; rw [if_pos ⟨g1, by rw [e2.out]; exact g2⟩, Int.toNat_natCast, List.getD, hz]; rfl⟩
          have cm : Kept (∀ w, Calls Try.prog 44 #[.int .u64 p, .int .u64 y, .int .u64 z] w (Gives (.int .u64 (fmul p y z)) w)) := ⟨fun w => rmul_c p y z w hY hZ⟩
          have ca : Kept (∀ w, Calls Try.prog 48 #[.int .u64 p, .int .u64 acc, .int .u64 (fmul p y z)] w (Gives (.int .u64 (fadd p acc (fmul p y z))) w)) := ⟨fun w => radd_c p acc _ w hU hU2⟩
          clear hI hI2 k1 k2 hx1 hz e1 e2 hX hY hZ hU
          generalize fadd p acc (fmul p y z) = A at *
          generalize fmul p y z = B at *
          go_wp2
          first | refine region_quiet1 (by kernel_rfl) ?_ | refine region_quiet (by kernel_rfl) ?_
          repeat (go_big_quiet_step (first | (go_at_call 44; with_reducible exact quiet (cm.out _)) | (go_at_call 48; with_reducible exact quiet (ca.out _))))
          refine wpQuiet_nil ?_
          intro _
          go_wp2
          go_roundw
          case rel => exact ⟨A, k + 1, _, rfl, by go_num, rfl, by omega, hU3, hI3⟩
          case measure => first | (simp [intOf]; omega) | (simp [intOf]; done)
        · have hI3 : Kept (valL p ws (l.take (k + 1)) = acc) := ⟨by rw [hI2.out, valS, if_neg (by rw [e2.out]; intro hh; exact g2 hh.2)]⟩
          have g3 : decide (x < (n : Int)) = false := by simp; omega
          clear hI hI2 k1 k2 hx1 e1 e2
          go_wp2
          go_roundw
          case rel => exact ⟨acc, k + 1, _, rfl, by go_num, rfl, by omega, hU, hI3⟩
          case measure => first | (simp [intOf]; omega) | (simp [intOf]; done)
      · have hI3 : Kept (valL p ws (l.take (k + 1)) = acc) := ⟨by rw [hI2.out, valS, if_neg (by intro hh; exact g1 hh.1)]⟩
        have g3 : decide (0 ≤ x) = false := by simp; omega
        clear hI hI2 k1 k2 hx1 e1 e2
        go_wp2
        go_roundw
        case rel => exact ⟨acc, k + 1, _, rfl, by go_num, rfl, by omega, hU, hI3⟩
        case measure => first | (simp [intOf]; omega) | (simp [intOf]; done)
    · have hI2 : Kept (valL p ws l = acc) := ⟨by rw [← hI.out, List.take_of_length_le (by have := e1.out; omega)]⟩
      clear hI k1 k2 e1 e2
      go_wp2
      go_ret
      exact ⟨by rw [hI2.out]; rfl, (by repeat (first | exact Below.refl _ _ | refine Below.later ?_ _ | refine Below.box ?_ _ | refine Below.drew ?_ | refine Below.put ?_ (by dsimp only; omega) _))⟩
end Go.Proofs.Ytpkjlnelkacbgaa

/- The reference's Messages. -/
namespace Go.Proofs.Ytpkjlnelkacbgaa
open Go.RowKit Go.Sort

set_option maxRecDepth 100000
def ints (l : List Int) : List Value := l.map fun z => .int .u64 z
/-- An array of four lists in block B: the first is given, the other three are rows of the call's own. -/
structure Fam (W w : World) (B : Nat) (v0 : Value) (vs : Nat → Value) (ls : Nat → List Int) : Prop where
  own : ∀ k, k < 3 → Grown 22 W w (vs k) (ls k).length (ints (ls k))
  off : ∀ k, k < 3 → (vs k).ownBlock ≠ some B
  apart : ∀ j k b, j < 3 → k < 3 → j ≠ k → (vs j).ownBlock = some b → (vs k).ownBlock ≠ some b
  arr : w.rowIs B 84 4 (fun i => if i = 0 then v0 else vs (i - 1))
  ge : W.heap.size ≤ B
  all : ∀ k, k < 3 → ∀ x ∈ ls k, U x
theorem Fam.keep {W w w' : World} {B : Nat} {v0 : Value} {vs : Nat → Value} {ls : Nat → List Int} (h : Fam W w B v0 vs ls) (hb : Below w.heap.size w w') : Fam W w' B v0 vs ls :=
  ⟨fun k hk => (h.own k hk).keep hb, h.off, h.apart, h.arr.of_block (hb.block B h.arr.lt), h.ge, h.all⟩
theorem Fam.step {W w w1 w2 : World} {B : Nat} {v0 : Value} {vs : Nat → Value} {ls : Nat → List Int} (h : Fam W w B v0 vs ls) (hb : Below w.heap.size w w1) {k g cap n : Nat} {z : Int} (hk : k < 3) (hn : (ls k).length = n) (hz : U z)
    (hown : w2.ownsRow W.heap.size 22 1 (.slice (some ⟨g, 0, none⟩) (n + 1) cap) (n + 1) (ints (ls k) ++ [.int .u64 z])) (hgr : w1.grownBy w2 (vs k).ownBlock) (hat : (vs k).ownBlock = some g ∨ g = w1.heap.size) :
    Fam W (w2.setCell ⟨B, k + 1, none⟩ (.slice (some ⟨g, 0, none⟩) (n + 1) cap)) B v0 (fun j => if j = k then .slice (some ⟨g, 0, none⟩) (n + 1) cap else vs j) (fun j => if j = k then ls k ++ [z] else ls j) := by
  subst hn
  have h1 := h.keep hb
  have hB1 := h1.arr.lt
  have hgB : g ≠ B := fun e => by
    rcases hat with e2 | e2
    · exact h.off k hk (by rw [e2, e])
    · omega
  have hbel : Below W.heap.size W w2 := Below.grown (h1.own k hk).below hgr (h1.own k hk).below.size (fun j hj => ((h1.own k hk).own.lt j hj).1)
  have hkeep : ∀ b, b < w1.heap.size → (vs k).ownBlock ≠ some b → w2.heap[b]? = w1.heap[b]? := fun b hb hne => hgr.block b hb (fun e => hne e.symm)
  refine ⟨fun j hj => ?_, fun j hj => ?_, fun i j b hi hj hne he => ?_, ?_, h.ge, fun j hj => ?_⟩
  · by_cases e : j = k
    · subst e
      simp only [if_true, List.length_append, List.length_singleton, ints, List.map_append, List.map_singleton]
      exact ⟨Below.put hbel h.ge _, ownsRow_setCell_other hown (by simp [Value.ownBlock]; exact hgB) _⟩
    · simp only [if_neg e]
      refine ⟨Below.put hbel h.ge _, ownsRow_setCell_other ((h1.own j hj).own.kept hgr ?_) (h.off j hj) _⟩
      cases ho : (vs j).ownBlock with
      | none => exact .inl rfl
      | some b => exact .inr fun e2 => h.apart j k b hj hk e ho e2.symm
  · by_cases e : j = k
    · subst e; simp only [if_true, Value.ownBlock]; intro e2; injection e2 with e2; exact hgB e2
    · simp only [if_neg e]; exact h.off j hj
  · by_cases ei : i = k
    · subst ei
      simp only [if_true, Value.ownBlock] at he
      injection he with he
      subst he
      have ej : ¬ j = i := fun e => hne e.symm
      simp only [if_neg ej]
      intro hc
      rcases hat with e2 | e2
      · exact h.apart i j g hi hj hne e2 hc
      · have := ((h1.own j hj).own.lt g hc).2; omega
    · simp only [if_neg ei] at he
      by_cases ej : j = k
      · subst ej
        simp only [if_true, Value.ownBlock]
        intro hc
        injection hc with hc
        subst hc
        rcases hat with e2 | e2
        · exact h.apart i j g hi hj hne he e2
        · have := ((h1.own i hi).own.lt g he).2; omega
      · simp only [if_neg ej]; exact h.apart i j b hi hj hne he
  · have h2 : w2.rowIs B 84 4 (fun i => if i = 0 then v0 else vs (i - 1)) := h1.arr.of_block (hkeep B hB1 (h.off k hk))
    refine (h2.set (k + 1) _).congr fun i _ => ?_
    by_cases e0 : i = 0
    · subst e0; simp
    · by_cases e1 : i = k + 1
      · subst e1; simp
      · have : ¬ i - 1 = k := by omega
        simp [e0, e1, this]
  · by_cases e : j = k
    · subst e
      simp only [if_true]
      intro x hx
      rcases List.mem_append.1 hx with hx | hx
      · exact h.all j hj x hx
      · rw [List.mem_singleton] at hx; subst hx; exact hz
    · simp only [if_neg e]; exact h.all j hj
end Go.Proofs.Ytpkjlnelkacbgaa
