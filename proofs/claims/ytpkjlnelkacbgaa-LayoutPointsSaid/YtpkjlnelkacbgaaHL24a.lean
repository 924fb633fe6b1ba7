/- law24: the example. -/
import Derived.Test.YtpkjlnelkacbgaaHTabN
import Derived.Test.YtpkjlnelkacbgaaHCof
import Derived.Test.YtpkjlnelkacbgaaHTgt
import Derived.Test.YtpkjlnelkacbgaaHSme
namespace Go.Proofs.Ytpkjlnelkacbgaa
open Go.RowKit Go.Sort

set_option maxRecDepth 100000
def GivesLin (n : Int) (w : World) (e : Ending) (w' : World) : Prop := ∃ u c, e = .returned (.slice u 1 c) ∧ Tm w' u [(n, 1)] ∧ Below w.heap.size w w'
theorem lin1_c (n : Int) (w : World) (hn : I n) : Calls Try.prog 29 #[.int .i64 n] w (GivesLin n w) := by
  have kn := (⟨hn⟩ : Kept _)
  clear hn
  go_enter Try.func29, Try.ntmps29
  go_wp2
  refine bodyPost_ret (v := .slice (some ⟨w.heap.size, 0, none⟩) 1 1) (by simp [results, Try.results29, go_sem]) rfl ⟨_, _, rfl, ?_, (by repeat (first | with_reducible exact Below.refl _ _ | with_reducible refine Below.later ?_ _ | with_reducible refine Below.box ?_ _ | with_reducible refine Below.drew ?_ | with_reducible refine Below.put ?_ (by dsimp only; omega) _))⟩
  refine ⟨by simp, fun x hx => ?_, fun _ => ⟨_, _, rfl, by simp, fun i x hx => ?_⟩⟩
  · rw [List.mem_singleton] at hx; subst hx; exact ⟨kn.out, ⟨by simp, by simp⟩⟩
  · match i, hx with
    | 0, hx => simp at hx; subst hx; simp
    | i + 1, hx => simp at hx

def aw24R (u1 u2 u3 : Option Addr) (c1 c2 c3 : Nat) : List Rw := [⟨⟨u1, c1, [(1, 1)]⟩, ⟨u2, c2, [(3, 1)]⟩, ⟨u3, c3, [(5, 1)]⟩⟩]
theorem aw24_rows (w : World) (u1 u2 u3 : Option Addr) (c1 c2 c3 : Nat) (h1 : Tm w u1 [(1, 1)]) (h2 : Tm w u2 [(3, 1)]) (h3 : Tm w u3 [(5, 1)]) :
    Rws (w.alloc (.cells #[.slice u1 1 c1, .slice u2 1 c2, .slice u3 1 c3] 72)) (some ⟨w.heap.size, 0, none⟩) (aw24R u1 u2 u3 c1 c2 c3) := by
  refine ⟨by simp [aw24R], fun x hx => ?_, fun _ => ⟨_, _, rfl, by simp, fun i x hx => ?_⟩⟩
  · rw [aw24R, List.mem_singleton] at hx; subst hx; exact ⟨h1.box _, h2.box _, h3.box _⟩
  · match i, hx with
    | 0, hx => simp [aw24R] at hx; subst hx; simp [Lin.v]
    | i + 1, hx => simp [aw24R] at hx
theorem aw24_mt (w w0 : World) (h : w = ((((w0.alloc (.cells #[.int .u64 87, .int .u64 0] 22)).alloc (.cells #[.int .u64 94, .int .u64 0] 22)).alloc (.cells #[.int .u64 1, .int .u64 0] 22)).alloc (.cells #[.int .u64 10, .int .u64 0] 22)).alloc (.cells #[.int .u64 3, .int .u64 0] 22)) :
    Mt (w.alloc (.cells #[.slice (some ⟨w0.heap.size, 0, none⟩) 2 2, .slice (some ⟨w0.heap.size + 1, 0, none⟩) 2 2, .slice (some ⟨w0.heap.size + 1 + 1, 0, none⟩) 2 2, .slice (some ⟨w0.heap.size + 1 + 1 + 1, 0, none⟩) 2 2, .slice (some ⟨w0.heap.size + 1 + 1 + 1 + 1, 0, none⟩) 2 2] 43)) (some ⟨w0.heap.size + 1 + 1 + 1 + 1 + 1, 0, none⟩)
      [[87, 0], [94, 0], [1, 0], [10, 0], [3, 0]] := by
  have hz : ∀ (W : World) (a : Int), U a → Ls (W.alloc (.cells #[.int .u64 a, .int .u64 0] 22)) (some ⟨W.heap.size, 0, none⟩) [a, 0] := fun W a ha => Ls.new W _ _ [a, 0] rfl (by simp) (by
    intro x hx; simp only [List.mem_cons, List.not_mem_nil, or_false] at hx; rcases hx with rfl | rfl; exact ha; exact ⟨by decide, by decide⟩)
  refine ⟨by simp, fun _ => ⟨_, _, rfl, by rw [h]; simp, fun i l hl => ?_⟩⟩
  have hs : w.heap.size = w0.heap.size + 1 + 1 + 1 + 1 + 1 := by rw [h]; simp
  rw [← hs, Nat.zero_add, World.cell?_alloc_new]
  subst h
  match i, hl with
  | 0, hl =>
    injection hl with hl; subst hl
    exact ⟨_, _, rfl, (((((hz w0 87 ⟨by decide, by decide⟩).box _).box _).box _).box _).box _⟩
  | 1, hl =>
    injection hl with hl; subst hl
    exact ⟨_, _, rfl, by have := ((((hz (w0.alloc (.cells #[.int .u64 87, .int .u64 0] 22)) 94 ⟨by decide, by decide⟩).box (.cells #[.int .u64 1, .int .u64 0] 22)).box (.cells #[.int .u64 10, .int .u64 0] 22)).box (.cells #[.int .u64 3, .int .u64 0] 22)); rw [World.size_alloc] at this; exact this.box _⟩
  | 2, hl =>
    injection hl with hl; subst hl
    exact ⟨_, _, rfl, by have := (((hz ((w0.alloc (.cells #[.int .u64 87, .int .u64 0] 22)).alloc (.cells #[.int .u64 94, .int .u64 0] 22)) 1 ⟨by decide, by decide⟩).box (.cells #[.int .u64 10, .int .u64 0] 22)).box (.cells #[.int .u64 3, .int .u64 0] 22)); simp only [World.size_alloc] at this; exact this.box _⟩
  | 3, hl =>
    injection hl with hl; subst hl
    exact ⟨_, _, rfl, by have := ((hz (((w0.alloc (.cells #[.int .u64 87, .int .u64 0] 22)).alloc (.cells #[.int .u64 94, .int .u64 0] 22)).alloc (.cells #[.int .u64 1, .int .u64 0] 22)) 10 ⟨by decide, by decide⟩).box (.cells #[.int .u64 3, .int .u64 0] 22)); simp only [World.size_alloc] at this; exact this.box _⟩
  | 4, hl =>
    injection hl with hl; subst hl
    exact ⟨_, _, rfl, by have := (hz ((((w0.alloc (.cells #[.int .u64 87, .int .u64 0] 22)).alloc (.cells #[.int .u64 94, .int .u64 0] 22)).alloc (.cells #[.int .u64 1, .int .u64 0] 22)).alloc (.cells #[.int .u64 10, .int .u64 0] 22)) 3 ⟨by decide, by decide⟩); simp only [World.size_alloc] at this; exact this.box _⟩
  | i + 5, hl => simp at hl
theorem aw24_tab (u1 u2 u3 : Option Addr) (c1 c2 c3 : Nat) : tabB 97 2 6 (aw24R u1 u2 u3 c1 c2 c3) = true := by rfl
theorem aw24_newV : newV 97 2 6 2 1 2 1 (true && true) = .agg #[.int .u64 97, .int .i64 2, .int .i64 2, .int .i64 4, .int .i64 8, .int .i64 3, .int .i64 1, .int .i64 2, .int .i64 1, .int .i64 1, .int .i64 1] := by simp [newV, newE, newN, fits, fitF, layV]
theorem aw24_newE : newE 97 2 1 2 (true && true) = 0 := by simp [newE, newN, fits, fitF]
theorem aw24_cof (u1 u2 u3 : Option Addr) (c1 c2 c3 : Nat) : cuts 2 (fun i => upl 2 (cofL 97 10 2 (aw24R u1 u2 u3 c1 c2 c3) 3 i).length) (cofL 97 10 2 (aw24R u1 u2 u3 c1 c2 c3) 3) 4 = [[87, 0], [94, 0], [1, 0], [10, 0], [3, 0]] := by kernel_rfl
theorem aw24_tg (u1 u2 u3 : Option Addr) (c1 c2 c3 : Nat) : tgV 97 10 [1, 7, 8] (aw24R u1 u2 u3 c1 c2 c3) 1 = 7 := by kernel_rfl

set_option maxHeartbeats 4000000 in
theorem awake24_c (w : World) : Calls Try.prog 10 #[] w (Gives (.bool true) w) := by
  go_enter Try.func10, Try.ntmps10
  go_wp2_with (first | (go_at_call 29; refine (lin1_c _ _ ⟨by decide, by decide⟩).mono ?_; rintro e w1 ⟨u1, c1, rfl, ht1, hb1⟩; refine Stop.out ?_))
  refine ⟨?_⟩
  go_wp2_with (first | (go_at_call 29; refine (lin1_c _ _ ⟨by decide, by decide⟩).mono ?_; rintro e w2 ⟨u2, c2, rfl, ht2, hb2⟩; refine Stop.out ?_))
  refine ⟨?_⟩
  go_wp2_with (first | (go_at_call 29; refine (lin1_c _ _ ⟨by decide, by decide⟩).mono ?_; rintro e w3 ⟨u3, c3, rfl, ht3, hb3⟩; refine Stop.out ?_))
  refine ⟨?_⟩
  go_wp2_with (first | (go_at_call 12; refine Stop.out ?_))
  refine ⟨?_⟩
  obtain ⟨TB, hTB⟩ : ∃ TB, w3.heap.size = TB := ⟨_, rfl⟩
  have hW4 : Kept (Below w.heap.size w w3) := ⟨Below.next (Below.next hb1 hb2) hb3⟩
  have hR0 := aw24_rows w3 u1 u2 u3 c1 c2 c3 ((ht1.below (Nat.le_refl _) hb2).below (Nat.le_refl _) hb3) (ht2.below (Nat.le_refl _) hb3) ht3
  refine call_gen (fun W' => Below w3.heap.size w3 W' ∧ Rws W' (some ⟨w3.heap.size, 0, none⟩) (aw24R u1 u2 u3 c1 c2 c3) ∧ W'.cell? ⟨w3.heap.size + 1, 0, none⟩ = some (.int .u64 97) ∧ W'.cell? ⟨w3.heap.size + 1, 1, none⟩ = some (.int .i64 2) ∧ W'.cell? ⟨w3.heap.size + 1, 2, none⟩ = some (.int .i64 6) ∧ W'.cell? ⟨w3.heap.size + 1, 3, none⟩ = some (.slice (some ⟨w3.heap.size, 0, none⟩) 1 1) ∧ w3.heap.size + 1 < W'.heap.size) ?fx ?_
  case fx => exact ⟨(by repeat (first | exact Below.refl _ _ | refine Below.later ?_ _ | refine Below.box ?_ _ | refine Below.drew ?_ | refine Below.put ?_ (by dsimp only; omega) _)), hR0.box _, by simp [go_sem], by simp [go_sem], by simp [go_sem], by simp [go_sem], by simp⟩
  rw [hTB]
  rintro W4 ⟨hB4, hR4, f0, f1, f2, f3, f4⟩
  clear hR0 ht1 ht2 ht3
  have kall : Kept (∀ w', Below W4.heap.size W4 w' → Rws w' (some ⟨TB, 0, none⟩) (aw24R u1 u2 u3 c1 c2 c3) ∧ w'.cell? ⟨TB + 1, 0, none⟩ = some (.int .u64 97) ∧ w'.cell? ⟨TB + 1, 1, none⟩ = some (.int .i64 2) ∧ w'.cell? ⟨TB + 1, 2, none⟩ = some (.int .i64 6) ∧ w'.cell? ⟨TB + 1, 3, none⟩ = some (.slice (some ⟨TB, 0, none⟩) 1 1) ∧ TB + 1 < w'.heap.size) := ⟨fun w' hw => by
    have hsz := hw.size
    refine ⟨hR4.below (Nat.le_refl _) hw, ?_, ?_, ?_, ?_, by omega⟩
    · rw [hw.cell (p := ⟨TB + 1, 0, none⟩) f4]; exact f0
    · rw [hw.cell (p := ⟨TB + 1, 1, none⟩) f4]; exact f1
    · rw [hw.cell (p := ⟨TB + 1, 2, none⟩) f4]; exact f2
    · rw [hw.cell (p := ⟨TB + 1, 3, none⟩) f4]; exact f3⟩
  have hB0 : Kept (Below w.heap.size w W4) := ⟨Below.next hW4.out (by rw [hTB]; exact hB4)⟩
  have cn : Kept (∀ w', Below W4.heap.size W4 w' → Calls Try.prog 12 #[.agg #[.int .u64 97, .int .i64 2, .int .i64 6, .slice (some ⟨TB, 0, none⟩) 1 1], .agg #[.int .i64 2, .int .i64 1, .int .i64 2]] w'
      (Gives (.tuple #[.agg #[.int .u64 97, .int .i64 2, .int .i64 2, .int .i64 4, .int .i64 8, .int .i64 3, .int .i64 1, .int .i64 2, .int .i64 1, .int .i64 1, .int .i64 1], .int .i64 0]) w')) := ⟨fun w' hw => by
    have := lnew_c 97 2 6 2 1 2 (some ⟨TB, 0, none⟩) 1 (aw24R u1 u2 u3 c1 c2 c3) w' (kall.out w' hw).1
    rw [aw24_tab, show okX 2 1 2 = true from by decide, aw24_newE] at this
    rw [show (aw24R u1 u2 u3 c1 c2 c3).length = 1 from rfl] at this
    rw [show ((1 : Nat) : Int) = 1 from rfl, aw24_newV] at this
    exact this⟩
  have ct : Kept (∀ w', Calls Try.prog 15 #[.agg #[.int .u64 97, .int .i64 2, .int .i64 2, .int .i64 4, .int .i64 8, .int .i64 3, .int .i64 1, .int .i64 2, .int .i64 1, .int .i64 1, .int .i64 1]] w' (Gives (.int .i64 5) w')) := ⟨fun w' => total_c 97 2 2 4 8 3 1 2 1 1 1 w' (by decide) (by decide) (by decide) (by decide)⟩
  clear f0 f1 f2 f3 hR4 hB4 hb1 hb2 hb3 hW4
  refine use (cn.out W4 (Below.refl _ _)) ?_
  intro q4
  obtain ⟨W5, hW5⟩ : ∃ W5, W5 = after W4 q4 := ⟨_, rfl⟩
  have hB5 : Kept (Below W4.heap.size W4 W5) := ⟨by rw [hW5]; exact (by repeat (first | exact Below.refl _ _ | refine Below.later ?_ _ | refine Below.box ?_ _ | refine Below.drew ?_ | refine Below.put ?_ (by dsimp only; omega) _))⟩
  rw [← hW5]
  obtain ⟨g0, t0, t1, t2, t3, t4⟩ := kall.out W5 hB5.out
  clear g0 hW5
  go_wp2_with (first | (go_at_call 15; (first | with_reducible refine use1 (ct.out _) ?_ | with_reducible refine use (ct.out _) ?_); intro pw) | (go_at_call 19; refine Stop.out ?_))
  refine ⟨?_⟩
  obtain ⟨LB, hLB⟩ : ∃ LB, W5.heap.size = LB := ⟨_, rfl⟩
  refine call_gen (fun W' => Below W5.heap.size W5 W' ∧ (W'.cell? ⟨W5.heap.size, 0, none⟩ = some (.int .u64 97) ∧ W'.cell? ⟨W5.heap.size, 1, none⟩ = some (.int .i64 2) ∧ W'.cell? ⟨W5.heap.size, 2, none⟩ = some (.int .i64 2) ∧ W'.cell? ⟨W5.heap.size, 3, none⟩ = some (.int .i64 4) ∧ W'.cell? ⟨W5.heap.size, 4, none⟩ = some (.int .i64 8) ∧ W'.cell? ⟨W5.heap.size, 5, none⟩ = some (.int .i64 3) ∧ W'.cell? ⟨W5.heap.size, 6, none⟩ = some (.int .i64 1) ∧ W'.cell? ⟨W5.heap.size, 7, none⟩ = some (.int .i64 2) ∧ W'.cell? ⟨W5.heap.size, 8, none⟩ = some (.int .i64 1) ∧ W'.cell? ⟨W5.heap.size, 9, none⟩ = some (.int .i64 1) ∧ W'.cell? ⟨W5.heap.size, 10, none⟩ = some (.int .i64 1)) ∧ W5.heap.size < W'.heap.size) ?fx ?_
  case fx => exact ⟨(by repeat (first | exact Below.refl _ _ | refine Below.later ?_ _ | refine Below.box ?_ _ | refine Below.drew ?_ | refine Below.put ?_ (by dsimp only; omega) _)), by simp [go_sem], by simp⟩
  rw [hLB]
  rintro W6 ⟨hB6, ⟨l0, l1, l2, l3, l4, l5, l6, l7, l8, l9, l10⟩, hlt⟩
  have hB46 : Kept (Below W4.heap.size W4 W6) := ⟨Below.next hB5.out (by rw [hLB]; exact hB6)⟩
  have lall : Kept (∀ w', Below W6.heap.size W6 w' → (w'.cell? ⟨LB, 0, none⟩ = some (.int .u64 97) ∧ w'.cell? ⟨LB, 1, none⟩ = some (.int .i64 2) ∧ w'.cell? ⟨LB, 2, none⟩ = some (.int .i64 2) ∧ w'.cell? ⟨LB, 3, none⟩ = some (.int .i64 4) ∧ w'.cell? ⟨LB, 4, none⟩ = some (.int .i64 8) ∧ w'.cell? ⟨LB, 5, none⟩ = some (.int .i64 3) ∧ w'.cell? ⟨LB, 6, none⟩ = some (.int .i64 1) ∧ w'.cell? ⟨LB, 7, none⟩ = some (.int .i64 2) ∧ w'.cell? ⟨LB, 8, none⟩ = some (.int .i64 1) ∧ w'.cell? ⟨LB, 9, none⟩ = some (.int .i64 1) ∧ w'.cell? ⟨LB, 10, none⟩ = some (.int .i64 1)) ∧ LB < w'.heap.size) := ⟨fun w' hw => by
    have hsz := hw.size
    have hc : ∀ k v, W6.cell? ⟨LB, k, none⟩ = some v → w'.cell? ⟨LB, k, none⟩ = some v := fun k v h => by rw [hw.cell (p := ⟨LB, k, none⟩) hlt]; exact h
    exact ⟨⟨hc _ _ l0, hc _ _ l1, hc _ _ l2, hc _ _ l3, hc _ _ l4, hc _ _ l5, hc _ _ l6, hc _ _ l7, hc _ _ l8, hc _ _ l9, hc _ _ l10⟩, by omega⟩⟩
  have hcf := lcoefs_c 2 2 1 3 97 2 4 8 2 6 10 (some ⟨TB, 0, none⟩) 1 (aw24R u1 u2 u3 c1 c2 c3) W6 (by kernel_rfl) (by omega) (by simp [aw24R]) (by decide) (by decide) (by decide) (by decide) (by simp [aw24R]) (kall.out W6 hB46.out).1 ⟨by decide, by decide⟩ (by
    intro r hr k hk t ht
    rw [aw24R, List.mem_singleton] at hr
    subst hr
    match k, hk with
    | 0, _ => simp [side] at ht; subst ht; decide
    | 1, _ => simp [side] at ht; subst ht; decide
    | 2, _ => simp [side] at ht; subst ht; decide)
  rw [aw24_cof] at hcf
  have hcf' : Calls Try.prog 19 #[.agg #[.int .u64 97, .int .i64 2, .int .i64 2, .int .i64 4, .int .i64 8, .int .i64 3, .int .i64 1, .int .i64 2, .int .i64 1, .int .i64 1, .int .i64 1], .agg #[.int .u64 97, .int .i64 2, .int .i64 6, .slice (some ⟨TB, 0, none⟩) 1 1], .int .u64 10] W6 (GivesMat [[87, 0], [94, 0], [1, 0], [10, 0], [3, 0]] W6) := hcf
  clear l0 l1 l2 l3 l4 l5 l6 l7 l8 l9 l10 hcf t0 t1 t2 t3 t4 hB6
  refine hcf'.mono ?_
  rintro e W7 ⟨v, bs, rfl, hM⟩
  obtain ⟨uv, cv, rfl, _⟩ := hM.grown.form
  have hMt := (hM.mt (by simp) (by simp)).2
  have hB67 := hM.grown.below
  have hB47 : Kept (Below W4.heap.size W4 W7) := ⟨Below.next hB46.out hB67⟩
  obtain ⟨⟨l0, l1, l2, l3, l4, l5, l6, l7, l8, l9, l10⟩, l11⟩ := lall.out W7 hB67
  clear hcf' hM
  go_wp2_with (first | (go_at_call 18; refine Stop.out ?_))
  refine ⟨?_⟩
  have hm2 := aw24_mt _ W7 rfl
  obtain ⟨SB, hSB⟩ : ∃ SB, W7.heap.size + 1 + 1 + 1 + 1 + 1 = SB := ⟨_, rfl⟩
  rw [hSB] at hm2
  refine call_gen (fun W' => Below W7.heap.size W7 W' ∧ Mt W' (some ⟨SB, 0, none⟩) [[87, 0], [94, 0], [1, 0], [10, 0], [3, 0]]) ?fx ?_
  case fx => exact ⟨(by repeat (first | exact Below.refl _ _ | refine Below.later ?_ _ | refine Below.box ?_ _ | refine Below.drew ?_ | refine Below.put ?_ (by dsimp only; omega) _)), hm2⟩
  rintro W8 ⟨hB78, hMl⟩
  have hsm := same24_c uv (some ⟨SB, 0, none⟩) cv 5 _ _ W8 (hMt.below (Nat.le_refl _) hB78) hMl rfl
  have hsm' : Calls Try.prog 18 #[.slice uv 5 cv, .slice (some ⟨SB, 0, none⟩) 5 5] W8 (Gives (.bool true) W8) := hsm
  clear hm2 hMl hMt hsm l0 l1 l2 l3 l4 l5 l6 l7 l8 l9 l10 l11
  first | rw [hSB] | skip
  refine use hsm' ?_
  intro q8
  obtain ⟨W9, hW9⟩ : ∃ W9, W9 = after W8 q8 := ⟨_, rfl⟩
  have hB89 : Below W8.heap.size W8 W9 := by rw [hW9]; exact (by repeat (first | exact Below.refl _ _ | refine Below.later ?_ _ | refine Below.box ?_ _ | refine Below.drew ?_ | refine Below.put ?_ (by dsimp only; omega) _))
  have hB79 := Below.next hB78 hB89
  have hB49 : Kept (Below W4.heap.size W4 W9) := ⟨Below.next hB47.out hB79⟩
  rw [← hW9]
  obtain ⟨⟨l0, l1, l2, l3, l4, l5, l6, l7, l8, l9, l10⟩, l11⟩ := lall.out W9 (Below.next hB67 hB79)
  obtain ⟨g0, t0, t1, t2, t3, t4⟩ := kall.out W9 hB49.out
  clear hsm' hB78 hB89 hB79 hB67 hW9 g0
  go_wp2_with (first | (go_at_call 21; refine Stop.out ?_))
  refine ⟨?_⟩
  refine call_gen (fun W' => Below W9.heap.size W9 W' ∧ Ls W' (some ⟨W9.heap.size, 0, none⟩) [7, 8]) ?fx ?_
  case fx => exact ⟨(by repeat (first | exact Below.refl _ _ | refine Below.later ?_ _ | refine Below.box ?_ _ | refine Below.drew ?_ | refine Below.put ?_ (by dsimp only; omega) _)), Ls.new W9 _ _ [7, 8] rfl (by simp) (by intro x hx; simp only [List.mem_cons, List.not_mem_nil, or_false] at hx; rcases hx with rfl | rfl <;> exact ⟨by decide, by decide⟩)⟩
  rintro W10 ⟨hB910, hL7⟩
  have htg := ltarget_c 97 2 2 4 8 3 2 1 2 6 10 (some ⟨TB, 0, none⟩) 1 (aw24R u1 u2 u3 c1 c2 c3) (some ⟨W9.heap.size, 0, none⟩) 2 [7, 8] W10 (by kernel_rfl) (by omega) (by simp [aw24R]) (by decide) (by decide) (by decide) (by decide) (by simp [aw24R]) (kall.out W10 (Below.next hB49.out hB910)).1 hL7 (by decide) (by intro e; cases e) ⟨by decide, by decide⟩
  have htg' : Calls Try.prog 21 #[.agg #[.int .u64 97, .int .i64 2, .int .i64 2, .int .i64 4, .int .i64 8, .int .i64 3, .int .i64 1, .int .i64 2, .int .i64 1, .int .i64 1, .int .i64 1], .agg #[.int .u64 97, .int .i64 2, .int .i64 6, .slice (some ⟨TB, 0, none⟩) 1 1], .slice (some ⟨W9.heap.size, 0, none⟩) 2 2, .int .u64 10] W10 (Gives (.int .u64 7) W10) := by
    have e := aw24_tg u1 u2 u3 c1 c2 c3
    have h2 := htg
    rw [show (aw24R u1 u2 u3 c1 c2 c3).length = 1 from rfl, e] at h2
    exact h2
  have hB10 : Kept (Below w.heap.size w W10) := ⟨Below.next hB0.out (Below.next hB49.out hB910)⟩
  clear htg hL7 l0 l1 l2 l3 l4 l5 l6 l7 l8 l9 l10 l11 t0 t1 t2 t3 t4
  refine use htg' ?_
  intro q10
  go_wp2
  go_ret
  exact ⟨rfl, Below.next hB10.out (by repeat (first | exact Below.refl _ _ | refine Below.later ?_ _ | refine Below.box ?_ _ | refine Below.drew ?_ | refine Below.put ?_ (by dsimp only; omega) _))⟩
end Go.Proofs.Ytpkjlnelkacbgaa
