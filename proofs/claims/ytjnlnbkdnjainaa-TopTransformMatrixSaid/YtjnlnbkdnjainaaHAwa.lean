/- law05: the example. -/
import Derived.Test.YtjnlnbkdnjainaaHDet
import Derived.Test.YtjnlnbkdnjainaaHSlv
import Derived.Test.YtjnlnbkdnjainaaHIvs
namespace Go.Proofs.Ytjnlnbkdnjainaa
open Go.RowKit Go.Sort

set_option maxRecDepth 100000
theorem Mt.lit (w : World) (rs : List (Option Addr × Nat × List Int)) (c : Array Value) (hc : c = (rs.map fun r => Value.slice r.1 r.2.2.length r.2.1).toArray) (hs : rs.length ≤ 1000) (h : ∀ r ∈ rs, Ls w r.1 r.2.2) : Mt (w.alloc (.cells c 32)) (some ⟨w.heap.size, 0, none⟩) (rs.map fun r => r.2.2) := by
  subst hc
  refine ⟨by simp; omega, fun _ => ⟨_, _, rfl, by simp, fun i l hl => ?_⟩⟩
  rw [List.getElem?_map] at hl
  obtain ⟨r, hr, e⟩ := Option.map_eq_some_iff.1 hl
  subst e
  refine ⟨r.1, r.2.1, ?_, (h r (List.mem_of_getElem? hr)).box _⟩
  rw [Nat.zero_add, World.cell?_alloc_new, List.getElem?_toArray, List.getElem?_map, hr]; rfl
def aw1 : List (List Int) := [[2, 4], [1, 3]]
def aw2 : List (List Int) := [[1, 2, 3], [2, 4, 7]]
theorem aw_vld : vld 17 = true := by kernel_rfl
theorem aw_v1 : vldM aw1 = true := by kernel_rfl
theorem aw_v2 : vldM aw2 = true := by kernel_rfl
theorem aw_i1 : decide ((elR 17 2 2 (iF 17 2 aw1)).piv.length = 2) = true := by kernel_rfl
theorem aw_i2 : matL 2 2 (fun i j => (elR 17 2 2 (iF 17 2 aw1)).f i (2 + j)) = [[10, 15], [8, 1]] := by kernel_rfl
theorem aw_r1 : (elR 17 2 3 (elF 17 aw2)).piv = [0, 2] := by kernel_rfl
theorem aw_r2 : matL 2 3 (elR 17 2 3 (elF 17 aw2)).f = [[1, 2, 0], [0, 0, 1]] := by kernel_rfl
theorem aw_k : kerL 17 3 (elR 17 2 3 (elF 17 aw2)).f (elR 17 2 3 (elF 17 aw2)).piv = [[15, 1, 0]] := by kernel_rfl
theorem aw_s1 : solB 2 2 (elR 17 2 2 (sWd 17 2 aw1 [6, 4])) = true := by kernel_rfl
theorem aw_s2 : solL 2 2 (elR 17 2 2 (sWd 17 2 aw1 [6, 4])) = [1, 1] := by kernel_rfl
theorem aw_d : detE 17 aw1 = 2 := by kernel_rfl
theorem lit2 (w w0 : World) (x y : List Int) (n m : Nat) (cx cy : Array Value) (hx : cx = (x.map (fun z => Value.int .u64 z)).toArray) (hy : cy = (y.map (fun z => Value.int .u64 z)).toArray) (hn : x.length = n) (hm : y.length = m) (hw : w = (w0.alloc (.cells cx 22)).alloc (.cells cy 22)) (hsx : n ≤ 1000) (hsy : m ≤ 1000) (hU : ∀ z ∈ x, U z) (hV : ∀ z ∈ y, U z) :
    Mt (w.alloc (.cells #[.slice (some ⟨w0.heap.size, 0, none⟩) n n, .slice (some ⟨w0.heap.size + 1, 0, none⟩) m m] 32)) (some ⟨w.heap.size, 0, none⟩) [x, y] := by
  subst hw hn hm
  refine Mt.lit _ [(some ⟨w0.heap.size, 0, none⟩, x.length, x), (some ⟨w0.heap.size + 1, 0, none⟩, y.length, y)] _ rfl (by simp) (fun r hr => ?_)
  simp only [List.mem_cons, List.not_mem_nil, or_false] at hr
  rcases hr with rfl | rfl
  · exact (Ls.new w0 _ _ x hx (by omega) hU).box _
  · have := Ls.new (w0.alloc (.cells cx 22)) 22 _ y hy (by omega) hV
    rw [World.size_alloc] at this; exact this
theorem lit1 (w w0 : World) (x : List Int) (n : Nat) (cx : Array Value) (hx : cx = (x.map (fun z => Value.int .u64 z)).toArray) (hn : x.length = n) (hw : w = w0.alloc (.cells cx 22)) (hsx : n ≤ 1000) (hU : ∀ z ∈ x, U z) :
    Mt (w.alloc (.cells #[.slice (some ⟨w0.heap.size, 0, none⟩) n n] 32)) (some ⟨w.heap.size, 0, none⟩) [x] := by
  subst hw hn
  refine Mt.lit _ [(some ⟨w0.heap.size, 0, none⟩, x.length, x)] _ rfl (by simp) (fun r hr => ?_)
  simp only [List.mem_cons, List.not_mem_nil, or_false] at hr
  subst hr
  exact Ls.new w0 _ _ x hx (by omega) hU
theorem aw_U {l : List Int} (h : l.all (fun z => decide (0 ≤ z) && decide (z < 18446744073709551616)) = true) : ∀ z ∈ l, U z := fun z hz => by
  have := List.all_eq_true.1 h z hz
  simp only [Bool.and_eq_true, decide_eq_true_eq] at this
  exact ⟨this.1, by omega⟩
theorem aw_el (n m wd : Nat) (f : Nat → Nat → Int) (h : ∀ i j, 0 ≤ f i j ∧ f i j < 17) (i j : Nat) (hi : i < n) (hj : j < m) : U ((elR 17 n wd f).f i j) := by
  have := (elR_ok (n := n) (m := m) (f := f) aw_vld (fun i j _ _ => h i j) wd).el i j hi hj
  exact ⟨this.1, by omega⟩
theorem aw_iF (i j : Nat) : 0 ≤ iF 17 2 aw1 i j ∧ iF 17 2 aw1 i j < 17 := by
  unfold iF
  split
  · exact elF_lt (by omega) i j
  · split <;> exact ⟨by omega, by omega⟩
set_option maxHeartbeats 8000000 in
theorem awake05_c (w : World) : Calls Try.prog 30 #[] w (Gives (.bool true) w) := by
  go_enter Try.func30, Try.ntmps30
  go_wp2_with (go_at_call 22; refine Stop.out ?_)
  refine ⟨?_⟩
  have hm0 := lit2 (((w.alloc (.cells #[.int .u64 17] 27)).alloc (.cells #[.int .u64 2, .int .u64 4] 22)).alloc (.cells #[.int .u64 1, .int .u64 3] 22)) (w.alloc (.cells #[.int .u64 17] 27)) [2, 4] [1, 3] 2 2 _ _ rfl rfl rfl rfl rfl (by omega) (by omega) (aw_U rfl) (aw_U rfl)
  simp only [World.size_alloc] at hm0
  refine call_genE (fun W' => Below w.heap.size w W' ∧ W'.cell? ⟨w.heap.size, 0, none⟩ = some (.int .u64 17) ∧ w.heap.size < W'.heap.size ∧ Mt W' (some ⟨w.heap.size + 1 + 1 + 1, 0, none⟩) aw1) ?fx ?_
  case fx => exact ⟨(by repeat (first | exact Below.refl _ _ | refine Below.later ?_ _ | refine Below.box ?_ _ | refine Below.drew ?_ | refine Below.put ?_ (by dsimp only; omega) _)), by simp [go_sem], by simp, hm0⟩
  rintro W1 ⟨hB1, hb1, hl1, hm1⟩
  refine (inverse_lc 17 2 (some ⟨w.heap.size + 1 + 1 + 1, 0, none⟩) 2 aw1 W1 hm1 aw_vld aw_v1 rfl rfl).mono ?_
  rintro e w2 ⟨hB2, _, hI⟩
  obtain ⟨BI, bfi, cfi, rfl, hMi⟩ := hI aw_i1
  have kI : Kept (Mt w2 (some ⟨BI, 0, none⟩) [[10, 15], [8, 1]]) := ⟨by
    have := hMi.mt (by omega) (by omega) (fun i j hi hj => aw_el 2 4 2 _ aw_iF i (2 + j) hi (by omega))
    rw [aw_i2] at this; exact this⟩
  have km : Kept (∀ w', Below w2.heap.size w2 w' → Mt w' (some ⟨w.heap.size + 1 + 1 + 1, 0, none⟩) aw1) := ⟨fun w' hw => hm1.below (Nat.le_refl _) (Below.next hB2 hw)⟩
  have kbx : Kept (∀ w', Below w2.heap.size w2 w' → w'.cell? ⟨w.heap.size, 0, none⟩ = some (.int .u64 17) ∧ w.heap.size < w'.heap.size) := ⟨fun w' hw => by
    have h2 := Below.next hB2 hw
    exact ⟨by rw [h2.cell (p := ⟨w.heap.size, 0, none⟩) hl1]; exact hb1, by have := h2.size; omega⟩⟩
  have kB2 := (⟨Below.next hB1 hB2⟩ : Kept _)
  have hb2 := (kbx.out w2 (Below.refl _ _)).1
  have hl2 := (kbx.out w2 (Below.refl _ _)).2
  clear hB1 hb1 hl1 hm1 hB2 hI hMi hm0
  go_wp2_with (go_at_call 44; refine Stop.out ?_)
  refine ⟨?_⟩
  have hm0 := lit2 ((w2.alloc (.cells #[.int .u64 1, .int .u64 2, .int .u64 3] 22)).alloc (.cells #[.int .u64 2, .int .u64 4, .int .u64 7] 22)) w2 [1, 2, 3] [2, 4, 7] 3 3 _ _ rfl rfl rfl rfl rfl (by omega) (by omega) (aw_U rfl) (aw_U rfl)
  simp only [World.size_alloc] at hm0
  refine call_genE (fun W' => Below w2.heap.size w2 W' ∧ Mt W' (some ⟨w2.heap.size + 1 + 1, 0, none⟩) aw2) ?fy ?_
  case fy => exact ⟨(by repeat (first | exact Below.refl _ _ | refine Below.later ?_ _ | refine Below.box ?_ _ | refine Below.drew ?_ | refine Below.put ?_ (by dsimp only; omega) _)), hm0⟩
  rintro W3 ⟨hB3, hm3⟩
  refine (reduce_lc 17 2 3 (some ⟨w2.heap.size + 1 + 1, 0, none⟩) 2 aw2 W3 hm3 aw_vld aw_v2 rfl rfl).mono ?_
  rintro e w4 ⟨BR, bfr, cfr, ur, cr, rfl, hMr, hOr⟩
  have kB4 := (⟨Below.next hB3 hMr.below⟩ : Kept (Below w2.heap.size w2 w4))
  have kR : Kept (Mt w4 (some ⟨BR, 0, none⟩) [[1, 2, 0], [0, 0, 1]]) := ⟨by
    have := hMr.mt (by omega) (by omega) (fun i j hi hj => aw_el 2 3 3 _ (fun i j => elF_lt (by omega) i j) i j hi hj)
    rw [aw_r2] at this; exact this⟩
  rw [aw_r1] at hOr ⊢
  obtain ⟨bp, rfl, kpv⟩ : ∃ bp, ur = some ⟨bp, 0, none⟩ ∧ Kept (∀ w', Below w4.heap.size w4 w' → bp < w'.heap.size ∧ w'.cell? ⟨bp, 0, none⟩ = some (.int .i64 0) ∧ w'.cell? ⟨bp, 1, none⟩ = some (.int .i64 2)) := by
    have hG : Grown 3 W3 w4 (.slice ur 2 cr) 2 (intsV [0, 2]) := ⟨hMr.below, hOr⟩
    obtain ⟨u', c', e, h1, h2, _⟩ := hG.form
    injection e with e1 e2 e3
    subst e1
    cases ur with
    | none => have := (h1 rfl).1; omega
    | some a =>
      obtain ⟨b, rfl, _, hlt, hc⟩ := h2 a rfl
      exact ⟨b, rfl, ⟨fun w' hw => ⟨by have := hw.size; omega, by rw [hw.cell (p := ⟨b, 0, none⟩) hlt]; exact hc 0 _ rfl, by rw [hw.cell (p := ⟨b, 1, none⟩) hlt]; exact hc 1 _ rfl⟩⟩⟩
  have hb4 := (kbx.out w4 kB4.out).1
  have hl4 := (kbx.out w4 kB4.out).2
  clear hB3 hm3 hMr hOr hm0 hb2 hl2
  simp only [List.length_cons, List.length_nil, Nat.zero_add, Nat.reduceAdd]
  go_wp2_with (go_at_call 32; refine Stop.out ?_)
  refine ⟨?_⟩
  have hm0 := lit2 ((w4.alloc (.cells #[.int .u64 1, .int .u64 2, .int .u64 3] 22)).alloc (.cells #[.int .u64 2, .int .u64 4, .int .u64 7] 22)) w4 [1, 2, 3] [2, 4, 7] 3 3 _ _ rfl rfl rfl rfl rfl (by omega) (by omega) (aw_U rfl) (aw_U rfl)
  simp only [World.size_alloc] at hm0
  refine call_genE (fun W' => Below w4.heap.size w4 W' ∧ Mt W' (some ⟨w4.heap.size + 1 + 1, 0, none⟩) aw2) ?fz ?_
  case fz => exact ⟨(by repeat (first | exact Below.refl _ _ | refine Below.later ?_ _ | refine Below.box ?_ _ | refine Below.drew ?_ | refine Below.put ?_ (by dsimp only; omega) _)), hm0⟩
  rintro W5 ⟨hB5, hm5⟩
  refine (kernel_lc 17 2 3 (some ⟨w4.heap.size + 1 + 1, 0, none⟩) 2 aw2 W5 hm5 aw_vld aw_v2 rfl rfl).mono ?_
  rintro e w6 ⟨uk, ck, rfl, hMk, _, hBk⟩
  rw [aw_k] at hMk ⊢
  have kK := (⟨hMk⟩ : Kept _)
  have kB6 := (⟨Below.next hB5 hBk⟩ : Kept (Below w4.heap.size w4 w6))
  have hb6 := (kbx.out w6 (Below.next kB4.out kB6.out)).1
  have hl6 := (kbx.out w6 (Below.next kB4.out kB6.out)).2
  clear hB5 hm5 hMk hBk hm0 hb4 hl4
  simp only [List.length_cons, List.length_nil, Nat.zero_add, Nat.reduceAdd]
  go_wp2_with (go_at_call 40; refine Stop.out ?_)
  refine ⟨?_⟩
  refine call_genE (fun W' => Below w6.heap.size w6 W' ∧ Ls W' (some ⟨w6.heap.size, 0, none⟩) [6, 4]) ?fu ?_
  case fu => exact ⟨(by repeat (first | exact Below.refl _ _ | refine Below.later ?_ _ | refine Below.box ?_ _ | refine Below.drew ?_ | refine Below.put ?_ (by dsimp only; omega) _)), Ls.new w6 _ _ [6, 4] rfl (by simp) (aw_U rfl)⟩
  rintro W7 ⟨hB7, hs7⟩
  refine (solve_lc 17 2 2 (some ⟨w.heap.size + 1 + 1 + 1, 0, none⟩) (some ⟨w6.heap.size, 0, none⟩) 2 2 aw1 [6, 4] W7 (km.out W7 (Below.next kB4.out (Below.next kB6.out hB7))) hs7 rfl aw_vld aw_v1 rfl rfl).mono ?_
  rintro e w8 ⟨us, cs_, rfl, hLs, _, hBs⟩
  rw [aw_s1]
  rw [aw_s2] at hLs ⊢
  have kS := (⟨hLs⟩ : Kept _)
  have kB8 := (⟨Below.next hB7 hBs⟩ : Kept (Below w6.heap.size w6 w8))
  have hb8 := (kbx.out w8 (Below.next kB4.out (Below.next kB6.out kB8.out))).1
  have hl8 := (kbx.out w8 (Below.next kB4.out (Below.next kB6.out kB8.out))).2
  clear hB7 hs7 hLs hBs hb6 hl6
  simp only [List.length_cons, List.length_nil, Nat.zero_add, Nat.reduceAdd]
  go_wp2_with (go_at_call 20; refine Stop.out ?_)
  refine ⟨?_⟩
  refine (det_c 17 (some ⟨w.heap.size + 1 + 1 + 1, 0, none⟩) 2 aw1 w8 (km.out w8 (Below.next kB4.out (Below.next kB6.out kB8.out)))).mono ?_
  rintro e w9 ⟨rfl, hB9⟩
  rw [aw_d]
  have kB9 := (⟨Below.next kB8.out hB9⟩ : Kept (Below w6.heap.size w6 w9))
  have kS9 := (⟨kS.out.below (Nat.le_refl _) hB9⟩ : Kept _)
  obtain ⟨hp1, hp2, hp3⟩ := kpv.out w9 (Below.next kB6.out kB9.out)
  clear hb8 hl8 hB9
  have cs : Kept (∀ w' u1 u2 c1 c2 (x y : List Int), Mt w' u1 [x, y] → Mt w' u2 [x, y] → Calls Try.prog 17 #[.slice u1 2 c1, .slice u2 2 c2] w' (Gives (.bool true) w')) := ⟨fun w' u1 u2 c1 c2 x y h1 h2 => by have := same05_c u1 u2 c1 c2 [x, y] [x, y] w' h1 h2; rw [decide_eq_true rfl] at this; exact this⟩
  have cs1 : Kept (∀ w' u1 u2 c1 c2 (x : List Int), Mt w' u1 [x] → Mt w' u2 [x] → Calls Try.prog 17 #[.slice u1 1 c1, .slice u2 1 c2] w' (Gives (.bool true) w')) := ⟨fun w' u1 u2 c1 c2 x h1 h2 => by have := same05_c u1 u2 c1 c2 [x] [x] w' h1 h2; rw [decide_eq_true rfl] at this; exact this⟩
  go_wp2_with (go_at_call 17; refine Stop.out ?_)
  refine ⟨?_⟩
  have hm0 := lit2 ((w9.alloc (.cells #[.int .u64 10, .int .u64 15] 22)).alloc (.cells #[.int .u64 8, .int .u64 1] 22)) w9 [10, 15] [8, 1] 2 2 _ _ rfl rfl rfl rfl rfl (by omega) (by omega) (aw_U rfl) (aw_U rfl)
  simp only [World.size_alloc] at hm0
  refine call_genE (fun W' => Below w9.heap.size w9 W' ∧ Mt W' (some ⟨w9.heap.size + 1 + 1, 0, none⟩) [[10, 15], [8, 1]]) ?fv ?_
  case fv => exact ⟨(by repeat (first | exact Below.refl _ _ | refine Below.later ?_ _ | refine Below.box ?_ _ | refine Below.drew ?_ | refine Below.put ?_ (by dsimp only; omega) _)), hm0⟩
  rintro W10 ⟨hB10, hm10⟩
  refine use (cs.out W10 _ _ _ _ _ _ (kI.out.below (Nat.le_refl _) (Below.next kB4.out (Below.next kB6.out (Below.next kB9.out hB10)))) hm10) ?_
  intro pa
  have kB11 : Kept (Below w9.heap.size w9 (after W10 pa)) := ⟨Below.next hB10 (by repeat (first | exact Below.refl _ _ | refine Below.later ?_ _ | refine Below.box ?_ _ | refine Below.drew ?_ | refine Below.put ?_ (by dsimp only; omega) _))⟩
  generalize after W10 pa = w11 at kB11 ⊢
  obtain ⟨hq1, hq2, hq3⟩ := kpv.out w11 (Below.next kB6.out (Below.next kB9.out kB11.out))
  clear hm0 hm10 hB10 hp1 hp2 hp3
  go_wp2_with (go_at_call 17; refine Stop.out ?_)
  refine ⟨?_⟩
  have hm0 := lit2 ((w11.alloc (.cells #[.int .u64 1, .int .u64 2, .int .u64 0] 22)).alloc (.cells #[.int .u64 0, .int .u64 0, .int .u64 1] 22)) w11 [1, 2, 0] [0, 0, 1] 3 3 _ _ rfl rfl rfl rfl rfl (by omega) (by omega) (aw_U rfl) (aw_U rfl)
  simp only [World.size_alloc] at hm0
  refine call_genE (fun W' => Below w11.heap.size w11 W' ∧ Mt W' (some ⟨w11.heap.size + 1 + 1, 0, none⟩) [[1, 2, 0], [0, 0, 1]]) ?fw ?_
  case fw => exact ⟨(by repeat (first | exact Below.refl _ _ | refine Below.later ?_ _ | refine Below.box ?_ _ | refine Below.drew ?_ | refine Below.put ?_ (by dsimp only; omega) _)), hm0⟩
  rintro W12 ⟨hB12, hm12⟩
  refine use (cs.out W12 _ _ _ _ _ _ (kR.out.below (Nat.le_refl _) (Below.next kB6.out (Below.next kB9.out (Below.next kB11.out hB12)))) hm12) ?_
  intro pb
  have kB13 : Kept (Below w9.heap.size w9 (after W12 pb)) := ⟨Below.next kB11.out (Below.next hB12 (by repeat (first | exact Below.refl _ _ | refine Below.later ?_ _ | refine Below.box ?_ _ | refine Below.drew ?_ | refine Below.put ?_ (by dsimp only; omega) _)))⟩
  generalize after W12 pb = w13 at kB13 ⊢
  obtain ⟨hr1, hr2, hr3⟩ := kpv.out w13 (Below.next kB6.out (Below.next kB9.out kB13.out))
  clear hm0 hm12 hB12 hq1 hq2 hq3 kB11
  go_wp2_with (go_at_call 17; refine Stop.out ?_)
  refine ⟨?_⟩
  have hm0 := lit1 (w13.alloc (.cells #[.int .u64 15, .int .u64 1, .int .u64 0] 22)) w13 [15, 1, 0] 3 _ rfl rfl rfl (by omega) (aw_U rfl)
  simp only [World.size_alloc] at hm0
  refine call_genE (fun W' => Below w13.heap.size w13 W' ∧ Mt W' (some ⟨w13.heap.size + 1, 0, none⟩) [[15, 1, 0]]) ?fa ?_
  case fa => exact ⟨(by repeat (first | exact Below.refl _ _ | refine Below.later ?_ _ | refine Below.box ?_ _ | refine Below.drew ?_ | refine Below.put ?_ (by dsimp only; omega) _)), hm0⟩
  rintro W14 ⟨hB14, hm14⟩
  refine use (cs1.out W14 _ _ _ _ _ (kK.out.below (Nat.le_refl _) (Below.next kB9.out (Below.next kB13.out hB14))) hm14) ?_
  intro pc
  have kB15 : Kept (Below w9.heap.size w9 (after W14 pc)) := ⟨Below.next kB13.out (Below.next hB14 (by repeat (first | exact Below.refl _ _ | refine Below.later ?_ _ | refine Below.box ?_ _ | refine Below.drew ?_ | refine Below.put ?_ (by dsimp only; omega) _)))⟩
  generalize after W14 pc = w15 at kB15 ⊢
  clear hm0 hm14 hB14 kB13
  go_wp2_with (go_at_call 28; refine Stop.out ?_)
  refine ⟨?_⟩
  refine call_genE (fun W' => Below w15.heap.size w15 W' ∧ Ls W' (some ⟨w15.heap.size, 0, none⟩) [1, 1]) ?fb ?_
  case fb => exact ⟨(by repeat (first | exact Below.refl _ _ | refine Below.later ?_ _ | refine Below.box ?_ _ | refine Below.drew ?_ | refine Below.put ?_ (by dsimp only; omega) _)), Ls.new w15 _ _ [1, 1] rfl (by simp) (aw_U rfl)⟩
  rintro W16 ⟨hB16, hl16⟩
  have cs01 := same_c us (some ⟨w15.heap.size, 0, none⟩) cs_ 2 [1, 1] [1, 1] W16 (kS9.out.below (Nat.le_refl _) (Below.next kB15.out hB16)) hl16
  rw [decide_eq_true rfl] at cs01
  refine use cs01 ?_
  intro pd
  have kB17 : Kept (Below w.heap.size w (after W16 pd)) := ⟨Below.next kB2.out (Below.next kB4.out (Below.next kB6.out (Below.next kB9.out (Below.next kB15.out (Below.next hB16 (by repeat (first | exact Below.refl _ _ | refine Below.later ?_ _ | refine Below.box ?_ _ | refine Below.drew ?_ | refine Below.put ?_ (by dsimp only; omega) _)))))))⟩
  generalize after W16 pd = w17 at kB17 ⊢
  clear hB16 hl16 cs01
  go_wp2
  go_ret
  exact ⟨rfl, kB17.out⟩
end Go.Proofs.Ytjnlnbkdnjainaa
