/- LayoutPoints: for any table and any parameters the call returns true: where the layout is there (tables of up to 100 rows that Small accepts), Points gives the specified points, all of which are different and less than P; others are passed over. No condition. -/
import Derived.Test.YtpkjlnelkacbgaaHTArk
import Derived.Test.YtpkjlnelkacbgaaHL24b
import Derived.Test.YtpkjlnelkacbgaaHL29b
import Derived.Test.YtpkjlnelkacbgaaHTabM
import Derived.Test.YtpkjlnelkacbgaaHLpt
import Derived.Test.YtpkjlnelkacbgaaHMb
import Derived.Test.YtpkjlnelkacbgaaQC
namespace Go.Proofs.Ytpkjlnelkacbgaa.layoutPoints
open Go.ChangeShapes Go.WideShapes Go.ChangeAt Go.RowKit Go.Sort Go.Maps

set_option maxRecDepth 100000
theorem newE_zero {p b bl q : Int} {ok : Bool} (h : newE p b bl q ok = 0) : ok = true ∧ (p - 1) % b = 0 ∧ (p - 1) % newN b bl q = 0 ∧ newN b bl q < p - 1 ∧ newN b bl q ≤ 1024 := by
  unfold newE at h
  split at h
  · omega
  · rename_i g0
    split at h
    · omega
    · rename_i g1
      split at h
      · omega
      · exact ⟨by simpa using g0, Classical.byContradiction fun e => g1 (.inl e), Classical.byContradiction fun e => g1 (.inr (.inl e)), by omega, by omega⟩

set_option maxHeartbeats 8000000 in
theorem walk (w : World) (p pub vs : Int) (u : Option Addr) (c : Nat) (rs : List Rw) (h : U p ∧ I pub ∧ I vs ∧ Rws w u rs) (b bl q : Int) (h2 : I b ∧ I bl ∧ I q) :
    Calls Try.prog 9 #[.agg #[.int .u64 p, .int .i64 pub, .int .i64 vs, .slice u rs.length c], .agg #[.int .i64 b, .int .i64 bl, .int .i64 q]] w (Gives (.bool true) w) := by
  have _ := h2
  obtain ⟨_, _, _, hR⟩ := h
  have hs1 := hR.small
  have cs : Kept (∀ w', Below w.heap.size w w' → Calls Try.prog 11 #[.agg #[.int .u64 p, .int .i64 pub, .int .i64 vs, .slice u rs.length c]] w' (Gives (.bool (smallF rs.length rs)) w')) := ⟨fun w' hw => small2_c p pub vs u c rs w' (hR.below (Nat.le_refl _) hw)⟩
  obtain ⟨sb, hsb⟩ : ∃ sb, smallF rs.length rs = sb := ⟨_, rfl⟩
  rw [hsb] at cs
  by_cases hm : rs.length ≤ 100
  case neg =>
    clear hR hsb
    generalize rs.length = m at *
    go_enter Try.func9, Try.ntmps9
    go_wp2_with (first | (go_at_call 11; (first | with_reducible refine use1 (cs.out _ (by repeat (first | exact Below.refl _ _ | refine Below.later ?_ _ | refine Below.box ?_ _ | refine Below.drew ?_ | refine Below.put ?_ (by dsimp only; omega) _))) ?_ | with_reducible refine use (cs.out _ (by repeat (first | exact Below.refl _ _ | refine Below.later ?_ _ | refine Below.box ?_ _ | refine Below.drew ?_ | refine Below.put ?_ (by dsimp only; omega) _))) ?_); intro pw) | (go_at_call 10; (first | with_reducible refine use1 (awake24_c _) ?_ | with_reducible refine use (awake24_c _) ?_); intro pw))
    go_ret
    exact ⟨rfl, (by repeat (first | exact Below.refl _ _ | refine Below.later ?_ _ | refine Below.box ?_ _ | refine Below.drew ?_ | refine Below.put ?_ (by dsimp only; omega) _))⟩
  cases sb
  case false =>
    clear hR hsb
    generalize rs.length = m at *
    go_enter Try.func9, Try.ntmps9
    go_wp2_with (first | (go_at_call 11; (first | with_reducible refine use1 (cs.out _ (by repeat (first | exact Below.refl _ _ | refine Below.later ?_ _ | refine Below.box ?_ _ | refine Below.drew ?_ | refine Below.put ?_ (by dsimp only; omega) _))) ?_ | with_reducible refine use (cs.out _ (by repeat (first | exact Below.refl _ _ | refine Below.later ?_ _ | refine Below.box ?_ _ | refine Below.drew ?_ | refine Below.put ?_ (by dsimp only; omega) _))) ?_); intro pw) | (go_at_call 10; (first | with_reducible refine use1 (awake24_c _) ?_ | with_reducible refine use (awake24_c _) ?_); intro pw))
    go_ret
    exact ⟨rfl, (by repeat (first | exact Below.refl _ _ | refine Below.later ?_ _ | refine Below.box ?_ _ | refine Below.drew ?_ | refine Below.put ?_ (by dsimp only; omega) _))⟩
  obtain ⟨E, hE⟩ : ∃ E, newE p b bl q (tabB p pub vs rs && okX b bl q) = E := ⟨_, rfl⟩
  by_cases hE0 : E = 0
  case neg =>
    obtain ⟨a0, a1, a2, a3, a4, a5, a6, a7, a8, a9, a10, hV, _⟩ := newV_form p pub vs b bl q rs
    have cm : Kept (∀ w', Below w.heap.size w w' → Calls Try.prog 13 #[.agg #[.int .u64 p, .int .i64 pub, .int .i64 vs, .slice u rs.length c], .agg #[.int .i64 b, .int .i64 bl, .int .i64 q]] w' (Gives (.tuple #[.agg #[.int .u64 a0, .int .i64 a1, .int .i64 a2, .int .i64 a3, .int .i64 a4, .int .i64 a5, .int .i64 a6, .int .i64 a7, .int .i64 a8, .int .i64 a9, .int .i64 a10], .int .i64 E]) w')) := ⟨fun w' hw => by
      have := rnew_c p pub vs b bl q u c rs w' (hR.below (Nat.le_refl _) hw)
      rw [hV, hE] at this; exact this⟩
    have hEb : (E != 0) = true := by simp [hE0]
    clear hR hV hE hsb
    generalize rs.length = m at *
    go_enter Try.func9, Try.ntmps9
    go_wp2_with (first | (go_at_call 11; (first | with_reducible refine use1 (cs.out _ (by repeat (first | exact Below.refl _ _ | refine Below.later ?_ _ | refine Below.box ?_ _ | refine Below.drew ?_ | refine Below.put ?_ (by dsimp only; omega) _))) ?_ | with_reducible refine use (cs.out _ (by repeat (first | exact Below.refl _ _ | refine Below.later ?_ _ | refine Below.box ?_ _ | refine Below.drew ?_ | refine Below.put ?_ (by dsimp only; omega) _))) ?_); intro pw) | (go_at_call 10; (first | with_reducible refine use1 (awake24_c _) ?_ | with_reducible refine use (awake24_c _) ?_); intro pw) | (go_at_call 13; (first | with_reducible refine use1 (cm.out _ (by repeat (first | exact Below.refl _ _ | refine Below.later ?_ _ | refine Below.box ?_ _ | refine Below.drew ?_ | refine Below.put ?_ (by dsimp only; omega) _))) ?_ | with_reducible refine use (cm.out _ (by repeat (first | exact Below.refl _ _ | refine Below.later ?_ _ | refine Below.box ?_ _ | refine Below.drew ?_ | refine Below.put ?_ (by dsimp only; omega) _))) ?_); intro pw))
    go_ret
    exact ⟨rfl, (by repeat (first | exact Below.refl _ _ | refine Below.later ?_ _ | refine Below.box ?_ _ | refine Below.drew ?_ | refine Below.put ?_ (by dsimp only; omega) _))⟩
  subst hE0
  obtain ⟨hok, e1, e2, e3, e4⟩ := newE_zero hE
  simp only [Bool.and_eq_true] at hok
  obtain ⟨htab, hx⟩ := hok
  have hv : vld p = true := by
    simp only [tabB, szB, Bool.and_eq_true] at htab
    exact htab.1.1.1.1.1
  have hp := vld_pos hv
  obtain ⟨i, hi1, hi8, hbi⟩ := blk_two hx
  obtain ⟨j, hj14, hNj⟩ := newN_two hx
  obtain ⟨B, hB⟩ : ∃ B : Nat, (2 ^ i : Nat) = B := ⟨_, rfl⟩
  obtain ⟨N, hN⟩ : ∃ N : Nat, (2 ^ j : Nat) = N := ⟨_, rfl⟩
  have hb1 : 2 ≤ b ∧ b ≤ 256 ∧ 1 ≤ q ∧ q ≤ 64 ∧ (bl = 1 ∨ bl = 2 ∨ bl = 4 ∨ bl = 8) := by
    simp only [okX, Bool.and_eq_true, Bool.or_eq_true, decide_eq_true_eq, beq_iff_eq] at hx
    omega
  have hBN0 : b + q ≤ newN b bl q := by
    have hf := fitF_ge 11 1 (2 * (b + q)) (by omega)
    have : 2 * (b + q) ≤ fits (2 * (b + q)) := hf
    unfold newN
    rcases hb1.2.2.2.2 with e | e | e | e <;> subst e <;> omega
  rw [hB] at hbi
  rw [hN] at hNj
  rw [hNj] at e2 e3 e4 hBN0
  subst hbi
  obtain ⟨hpw, hlt, oB, oN⟩ := pts_all hv hB.symm hN.symm e1 e2 e3 (by omega)
  have hB2 : 2 ≤ B ∧ B ≤ 256 := by omega
  have hN2 : 1 ≤ N ∧ N ≤ 1024 := by omega
  have cm : Kept (∀ w', Below w.heap.size w w' → Calls Try.prog 13 #[.agg #[.int .u64 p, .int .i64 pub, .int .i64 vs, .slice u rs.length c], .agg #[.int .i64 (B : Int), .int .i64 bl, .int .i64 q]] w' (Gives (.tuple #[layV p B q N (vs - 1 - pub) rs.length, .int .i64 0]) w')) := ⟨fun w' hw => by
    have := rnew_c p pub vs B bl q u c rs w' (hR.below (Nat.le_refl _) hw)
    rw [newV, if_pos hE, hE, hNj] at this; exact this⟩
  unfold layV at cm
  generalize (B : Int) + q = K at *
  generalize vs - 1 - pub = S at *
  generalize (S + (B : Int) - 1) / (B : Int) = P0 at *
  generalize ((rs.length : Int) + (B : Int) - 1) / (B : Int) = P1 at *
  have cl : Kept (∀ w' s, Calls Try.prog 26 #[.agg #[.int .u64 p, .int .i64 (B : Int), .int .i64 q, .int .i64 K, .int .i64 (N : Int), .int .i64 S, .int .i64 s, .int .i64 P0, .int .i64 P1, .int .i64 P1, .int .i64 P1]] w' (GivesP (domL p 1 B) (domL p (gen p) N) w')) := ⟨fun w' s => lpoints_c _ _ _ _ _ _ _ _ _ B N w' hv oB oN (by omega) (by omega)⟩
  have cq : Kept (∀ w' s, Calls Try.prog 27 #[.agg #[.int .u64 p, .int .i64 (B : Int), .int .i64 q, .int .i64 K, .int .i64 (N : Int), .int .i64 S, .int .i64 s, .int .i64 P0, .int .i64 P1, .int .i64 P1, .int .i64 P1]] w' (GivesP (domL p 1 B) (domL p (gen p) N) w')) := ⟨fun w' s => rpoints_c _ _ _ _ _ _ _ _ _ B N w' hv oB oN (by omega) (by omega)⟩
  have co : Kept (∀ w' s, Calls Try.prog 14 #[.agg #[.int .u64 p, .int .i64 (B : Int), .int .i64 q, .int .i64 K, .int .i64 (N : Int), .int .i64 S, .int .i64 s, .int .i64 P0, .int .i64 P1, .int .i64 P1, .int .i64 P1]] w' (Gives (.agg #[.int .u64 p, .int .i64 (B : Int), .int .i64 q, .int .i64 K, .int .i64 (N : Int), .int .i64 S, .int .i64 s, .int .i64 P0, .int .i64 P1, .int .i64 P1, .int .i64 P1]) w')) := ⟨fun w' s => own24_c _ _ _ _ _ _ _ _ _ _ _ w'⟩
  have hHl : Kept ((domL p 1 B).length = B ∧ (domL p (gen p) N).length = N) := ⟨by simp [domL], by simp [domL]⟩
  have kpw := (⟨hpw⟩ : Kept _)
  have klt := (⟨hlt⟩ : Kept _)
  generalize domL p 1 B = H at *
  generalize domL p (gen p) N = D at *
  clear hR hE hsb htab hx hv hi1 hi8 hj14 hB hN hNj hb1 hBN0 e1 e2 e3 e4 hpw hlt oB oN
  generalize rs.length = m at *
  have hmm := @run_makeMap Try.prog
  go_enter Try.func9, Try.ntmps9
  go_wp2_with (first | (go_at_call 11; (first | with_reducible refine use1 (cs.out _ (by repeat (first | exact Below.refl _ _ | refine Below.later ?_ _ | refine Below.box ?_ _ | refine Below.drew ?_ | refine Below.put ?_ (by dsimp only; omega) _))) ?_ | with_reducible refine use (cs.out _ (by repeat (first | exact Below.refl _ _ | refine Below.later ?_ _ | refine Below.box ?_ _ | refine Below.drew ?_ | refine Below.put ?_ (by dsimp only; omega) _))) ?_); intro pw) | (go_at_call 10; (first | with_reducible refine use1 (awake24_c _) ?_ | with_reducible refine use (awake24_c _) ?_); intro pw) | (go_at_call 13; (first | with_reducible refine use1 (cm.out _ (by repeat (first | exact Below.refl _ _ | refine Below.later ?_ _ | refine Below.box ?_ _ | refine Below.drew ?_ | refine Below.put ?_ (by dsimp only; omega) _))) ?_ | with_reducible refine use (cm.out _ (by repeat (first | exact Below.refl _ _ | refine Below.later ?_ _ | refine Below.box ?_ _ | refine Below.drew ?_ | refine Below.put ?_ (by dsimp only; omega) _))) ?_); intro pw1) | (go_at_call 14; (first | with_reducible refine use1 (co.out _ _) ?_ | with_reducible refine use (co.out _ _) ?_); intro pw) | (go_at_call 26; refine Stop.out ?_))
  refine ⟨?_⟩
  obtain ⟨LB, hLB⟩ : ∃ LB, LB = w.heap.size + 1 + 1 + pw1.os.size := ⟨_, rfl⟩
  rw [← hLB]
  refine call_gen (fun W' => Below w.heap.size w W' ∧ LB < W'.heap.size ∧ W'.cell? ⟨LB, 0, none⟩ = some (Value.int .u64 p) ∧ W'.cell? ⟨LB, 1, none⟩ = some (.int .i64 (B : Int)) ∧ W'.cell? ⟨LB, 2, none⟩ = some (.int .i64 q) ∧ W'.cell? ⟨LB, 3, none⟩ = some (.int .i64 K) ∧ W'.cell? ⟨LB, 4, none⟩ = some (.int .i64 (N : Int)) ∧ W'.cell? ⟨LB, 5, none⟩ = some (.int .i64 S) ∧ W'.cell? ⟨LB, 6, none⟩ = some (.int .i64 (m : Int)) ∧ W'.cell? ⟨LB, 7, none⟩ = some (.int .i64 P0) ∧ W'.cell? ⟨LB, 8, none⟩ = some (.int .i64 P1) ∧ W'.cell? ⟨LB, 9, none⟩ = some (.int .i64 P1) ∧ W'.cell? ⟨LB, 10, none⟩ = some (.int .i64 P1)) ?fx ?_
  case fx => subst hLB; exact ⟨(by repeat (first | exact Below.refl _ _ | refine Below.later ?_ _ | refine Below.box ?_ _ | refine Below.drew ?_ | refine Below.put ?_ (by dsimp only; omega) _)), by simp, by simp [go_sem], by simp [go_sem], by simp [go_sem], by simp [go_sem], by simp [go_sem], by simp [go_sem], by simp [go_sem], by simp [go_sem], by simp [go_sem], by simp [go_sem], by simp [go_sem]⟩
  rintro W0 ⟨hB0, hLt, l0, l1, l2, l3, l4, l5, l6, l7, l8, l9, l10⟩
  clear hLB cm cs
  have hB0 : Kept (Below w.heap.size w W0) := ⟨hB0⟩
  have hS : Kept (∀ w', Below W0.heap.size W0 w' → (w'.cell? ⟨LB, 0, none⟩ = some (Value.int .u64 p) ∧ w'.cell? ⟨LB, 1, none⟩ = some (.int .i64 (B : Int)) ∧ w'.cell? ⟨LB, 2, none⟩ = some (.int .i64 q) ∧ w'.cell? ⟨LB, 3, none⟩ = some (.int .i64 K) ∧ w'.cell? ⟨LB, 4, none⟩ = some (.int .i64 (N : Int)) ∧ w'.cell? ⟨LB, 5, none⟩ = some (.int .i64 S) ∧ w'.cell? ⟨LB, 6, none⟩ = some (.int .i64 (m : Int)) ∧ w'.cell? ⟨LB, 7, none⟩ = some (.int .i64 P0) ∧ w'.cell? ⟨LB, 8, none⟩ = some (.int .i64 P1) ∧ w'.cell? ⟨LB, 9, none⟩ = some (.int .i64 P1) ∧ w'.cell? ⟨LB, 10, none⟩ = some (.int .i64 P1)) ∧ LB < w'.heap.size) := ⟨fun w' hw => by
    have hc : ∀ k v, W0.cell? ⟨LB, k, none⟩ = some v → w'.cell? ⟨LB, k, none⟩ = some v := fun k v h => by rw [hw.cell (p := ⟨LB, k, none⟩) hLt]; exact h
    have := hw.size
    exact ⟨⟨hc _ _ l0, hc _ _ l1, hc _ _ l2, hc _ _ l3, hc _ _ l4, hc _ _ l5, hc _ _ l6, hc _ _ l7, hc _ _ l8, hc _ _ l9, hc _ _ l10⟩, by omega⟩⟩
  clear l0 l1 l2 l3 l4 l5 l6 l7 l8 l9 l10 hLt
  refine (cl.out _ _).mono ?_
  rintro e w4 ⟨pu, d1, pv, d2, rfl, hL1, hn1, hL2, hn2, hB4⟩
  rw [hHl.out.1, hHl.out.2]
  obtain ⟨⟨l0, l1, l2, l3, l4, l5, l6, l7, l8, l9, l10⟩, hLt⟩ := hS.out w4 hB4
  have kL1 := (⟨hL1⟩ : Kept _)
  have kL2 := (⟨hL2⟩ : Kept _)
  have kn1 := (⟨hn1⟩ : Kept _)
  have kn2 := (⟨hn2⟩ : Kept _)
  have hB04 := (⟨hB4⟩ : Kept _)
  clear hL1 hL2 hn1 hn2 hB4
  go_wp2_with (first | (go_at_call 27; refine (cq.out _ _).mono ?_; rintro e w5 ⟨ru, d3, rv, d4, rfl, hL3, hn3, hL4, hn4, hB5⟩; rw [hHl.out.1, hHl.out.2]; refine Stop.out ?_))
  refine ⟨?_⟩
  have hB05 := (⟨Below.next hB04.out hB5⟩ : Kept _)
  have k1 : Kept (Ls w5 pu H) := ⟨kL1.out.below (Nat.le_refl _) hB5⟩
  have k2 : Kept (Ls w5 pv D) := ⟨kL2.out.below (Nat.le_refl _) hB5⟩
  have k3 : Kept (Ls w5 ru H) := ⟨hL3⟩
  have k4 : Kept (Ls w5 rv D) := ⟨hL4⟩
  clear l0 l1 l2 l3 l4 l5 l6 l7 l8 l9 l10 hLt hL3 hL4 hn3 hn4 hB5 kL1 kL2 hB04
  have HG : Grown 22 (w5.alloc (.map #[] 0)) ((w5.alloc (.map #[] 0)).alloc (.cells #[] 22)) (.slice (some ⟨w5.heap.size + 1, 0, none⟩) 0 0) 0 (([] : List Int).map fun z => Value.int .u64 z) := by have := Grown.empty 22 (w5.alloc (.map #[] 0)); simpa using this
  have kG := (⟨HG⟩ : Kept _)
  clear HG
  go_wp2_with (first | (at_builtin; refine wpList_pushL (W := w5.alloc (.map #[] 0)) rfl _ _ rfl _ [] 0 rfl kG.out rfl pu H B d1 hHl.out.1 rfl (k1.out.below (Nat.le_refl _) (by repeat (first | exact Below.refl _ _ | refine Below.later ?_ _ | refine Below.box ?_ _ | refine Below.drew ?_ | refine Below.put ?_ (by dsimp only; omega) _))) kn1.out (by omega) ?_; intro v3 w6 hG hkeep hsz hat; refine Stop.out ?_))
  refine ⟨?_⟩
  have kG2 := (⟨hG⟩ : Kept _)
  clear hG hkeep hsz hat kG
  go_wp2_with (first | (at_builtin; refine wpList_pushL (W := w5.alloc (.map #[] 0)) rfl _ _ rfl _ ([] ++ H) (0 + B) (by rw [List.nil_append, hHl.out.1, Nat.zero_add]) kG2.out rfl pv D N d2 hHl.out.2 rfl (k2.out.below (Nat.le_refl _) (Below.next ((Below.refl _ w5).alloc (Nat.le_refl _) _) kG2.out.below)) kn2.out (by omega) ?_; intro v4 w7 hG hkeep hsz hat; refine Stop.out ?_))
  refine ⟨?_⟩
  obtain ⟨A, hA⟩ : ∃ A, H ++ D = A := ⟨_, rfl⟩
  have hAl : Kept (A.length = B + N) := ⟨by rw [← hA, List.length_append, hHl.out.1, hHl.out.2]⟩
  rw [hA] at kpw klt
  have hG' : Grown 22 (w5.alloc (.map #[] 0)) w7 v4 (B + N) (A.map fun z => Value.int .u64 z) := by
    have := hG
    rw [List.nil_append, hA, Nat.zero_add] at this; exact this
  obtain ⟨u7, c7, rfl, hu7, _⟩ := hG'.form
  have hAU : Kept (∀ x ∈ A, U x) := ⟨fun x hx => by have := klt.out x hx; exact ⟨this.1, by omega⟩⟩
  have hLA := (hG'.ls rfl (by omega) hAU.out).1
  obtain ⟨g, rfl, hgM, hg7⟩ : ∃ g, u7 = some ⟨g, 0, none⟩ ∧ w5.heap.size + 1 ≤ g ∧ g < w7.heap.size := by
    cases u7 with
    | none => have := (hu7 rfl).1; omega
    | some a =>
      have h1 := hG'.own.lt a.block (by simp [Value.ownBlock])
      obtain ⟨b', o', e, hlt', _⟩ := hLA.mem (fun e => by rw [e] at hAl; have := hAl.out; simp at this; omega)
      rcases hG'.own.2 with ⟨e2, _⟩ | ⟨g', cap, cur, e2, hge, hc, _⟩
      · cases e2
      · injection e2 with e2 _ _
        injection e2 with e2
        subst e2
        exact ⟨g', rfl, by simpa using hge, (Array.getElem?_eq_some_iff.1 hc).1⟩
  obtain ⟨M, hM⟩ : ∃ M, w5.heap.size = M := ⟨_, rfl⟩
  have hB57 := hG'.below
  have hBm : Kept (Below w5.heap.size w5 w7) := ⟨Below.next ((Below.refl _ w5).alloc (Nat.le_refl _) (.map #[] 0)) hB57⟩
  have hown0 : Kept (w7.ownsMap Try.prog 22 (plainElem Try.prog 4) M 0 (.map [] : DataW Unit)) := ⟨by
    have h0 := World.ownsMap_made (H := Unit) w5 Try.prog 22 (plainElem Try.prog 4)
    rw [hM] at h0
    obtain ⟨es, clock, hb, r⟩ := h0
    exact ⟨es, clock, by rw [hB57.block M (by simp; omega)]; exact hb, r⟩⟩
  have hSX : Kept (∀ w', Below w5.heap.size w5 w' → (w'.cell? ⟨LB, 0, none⟩ = some (Value.int .u64 p) ∧ w'.cell? ⟨LB, 1, none⟩ = some (.int .i64 (B : Int)) ∧ w'.cell? ⟨LB, 2, none⟩ = some (.int .i64 q) ∧ w'.cell? ⟨LB, 3, none⟩ = some (.int .i64 K) ∧ w'.cell? ⟨LB, 4, none⟩ = some (.int .i64 (N : Int)) ∧ w'.cell? ⟨LB, 5, none⟩ = some (.int .i64 S) ∧ w'.cell? ⟨LB, 6, none⟩ = some (.int .i64 (m : Int)) ∧ w'.cell? ⟨LB, 7, none⟩ = some (.int .i64 P0) ∧ w'.cell? ⟨LB, 8, none⟩ = some (.int .i64 P1) ∧ w'.cell? ⟨LB, 9, none⟩ = some (.int .i64 P1) ∧ w'.cell? ⟨LB, 10, none⟩ = some (.int .i64 P1)) ∧ LB < w'.heap.size) := ⟨fun w' hw => hS.out w' (Below.next hB05.out hw)⟩
  have kLA := (⟨hLA⟩ : Kept _)
  have hMg : g ≠ M := by omega
  have hgM' : M ≠ g := by omega
  have hM7 : M < w7.heap.size := by have := hB57.size; simp at this; omega
  rw [hM]
  have kM := (⟨hM⟩ : Kept _)
  clear hG hG' hkeep hsz hat hu7 hLA hB57 hA kG2 kn1 kn2 hS hgM
  go_wp2
  go_loopw [54] (fun v wr => ∃ (k : Nat) (DD : DataW Unit), v = .int .i64 (k : Int) ∧ k ≤ B + N ∧ Kept (wr.ownsMap Try.prog 22 (plainElem Try.prog 4) M k DD) ∧ Kept (Below w5.heap.size w5 wr) ∧ Kept (Ls wr (some ⟨g, 0, none⟩) A) ∧ M < wr.heap.size ∧ Kept (∀ x : Int, x ∉ A.take k → DD.atKey (.int .u64 x) (.lit (.bool false)) = .lit (.bool false))) (fun v _ => ((B : Int) + (N : Int) - intOf v).toNat)
  case atStart => exact ⟨0, _, rfl, by omega, hown0, hBm, kLA, hM7, ⟨fun x _ => rfl⟩⟩
  case round =>
    clear hown0 hBm kLA hM7 hg7
    obtain ⟨k, DD, rfl, hk, hown, hBw, hLw, hMl, hat⟩ := hrel
    obtain ⟨w1, rfl⟩ : ∃ x, x = wr := ⟨wr, rfl⟩
    obtain ⟨⟨l0, l1, l2, l3, l4, l5, l6, l7, l8, l9, l10⟩, hLt⟩ := hSX.out w1 hBw.out
    by_cases h : k < B + N
    · obtain ⟨b', o', x, hbo, hx1, hb1, hc1, hU1⟩ := hLw.out.at_ (k := k) (by rw [hAl.out]; exact h)
      injection hbo with hbo
      injection hbo with hb3 ho3
      subst hb3 ho3
      rw [Nat.zero_add] at hc1
      have hxp := klt.out x (List.mem_of_getElem? hx1)
      have hxp1 : decide (x ≥ p) = false := by simp; omega
      have hxp2 : decide (p ≤ x) = false := by simp; omega
      have hnew : Kept (x ∉ A.take k) := ⟨fun hm => by
        obtain ⟨i', hi', e'⟩ := List.getElem_of_mem hm
        rw [List.length_take] at hi'
        rw [List.getElem_take] at e'
        have hkx := (List.getElem?_eq_some_iff.1 hx1)
        have := List.pairwise_iff_getElem.1 kpw.out i' k (by omega) hkx.1 (by omega)
        exact this (by rw [e', hkx.2])⟩
      have hrun := mb_look hown.out hU1 (hat.out x hnew.out)
      have hkI : (k : Int) < (B : Int) + (N : Int) := by omega
      have kkey := (⟨mb_key hU1⟩ : Kept _)
      have hkt : Kept (A.take (k + 1) = A.take k ++ [x]) := ⟨take_next hx1⟩
      clear hx1 hxp hnew
      go_wp2_with (first | (at_mapUpdate; refine wpList_mapUpdate_own (H := Unit) _ rfl _ _ _ 64 rfl 22 4 mb_law Try.underlying64 _ M k _ rfl hown.out (by unfold maxLen; omega) _ _ _ rfl rfl kkey.out _ [] (plainElem_bool Try.underlying4 true) ?_; intro w2 hown2 hgr; refine Stop.out ?_))
      refine ⟨?_⟩
      have hown2 := (⟨hown2⟩ : Kept _)
      have hB2 : Kept (Below w5.heap.size w5 w2) := ⟨Below.grown hBw.out hgr hBw.out.size (fun k' hk' => by injection hk' with hk'; rw [← hk', kM.out]; exact Nat.le_refl _)⟩
      have hL2 : Kept (Ls w2 (some ⟨g, 0, none⟩) A) := ⟨hLw.out.keep (g := M) (fun b o s e => by injection e with e; injection e with e1; omega) (fun j' hj' hne => hgr.block j' hj' (fun e => by injection e with e; exact hne e)) hgr.size⟩
      have hM2 : M < w2.heap.size := by have := hgr.size; omega
      have hat2 : Kept (∀ y : Int, y ∉ A.take (k + 1) → (DD.put (.int .u64 x) (.lit (.bool true))).atKey (.int .u64 y) (.lit (.bool false)) = .lit (.bool false)) := ⟨fun y hy => by
        rw [hkt.out] at hy
        rw [atKey_put_other (fun e => hy (by injection e with _ e; rw [e]; simp))]
        exact hat.out y (fun hm => hy (List.mem_append_left _ hm))⟩
      clear hgr hown hBw hLw hat hrun l0 l1 l2 l3 l4 l5 l6 l7 l8 l9 l10 hLt hc1 hb1
      go_wp2
      go_roundw
      case rel => exact ⟨k + 1, _, by go_num, by omega, hown2, hB2, hL2, hM2, hat2⟩
      case measure => first | (simp [intOf]; omega) | (simp [intOf]; done)
    · have cs1 : Kept (∀ w', Below w5.heap.size w5 w' → Calls Try.prog 28 #[.slice pu B d1, .slice ru B d3] w' (Gives (.bool true) w')) := ⟨fun w' hw => by
        have := same04_c pu ru d1 d3 H H w' (k1.out.below (Nat.le_refl _) hw) (k3.out.below (Nat.le_refl _) hw)
        rw [hHl.out.1] at this
        simpa using this⟩
      have cs2 : Kept (∀ w', Below w5.heap.size w5 w' → Calls Try.prog 28 #[.slice pv N d2, .slice rv N d4] w' (Gives (.bool true) w')) := ⟨fun w' hw => by
        have := same04_c pv rv d2 d4 D D w' (k2.out.below (Nat.le_refl _) hw) (k4.out.below (Nat.le_refl _) hw)
        rw [hHl.out.2] at this
        simpa using this⟩
      have hB5w : Kept (Below w.heap.size w w1) := ⟨Below.next hB0.out (Below.next hB05.out hBw.out)⟩
      clear hown hLw hat
      go_wp2_with (first | (go_at_call 28; (first | with_reducible refine use1 (cs1.out _ (Below.next hBw.out (by repeat (first | exact Below.refl _ _ | refine Below.later ?_ _ | refine Below.box ?_ _ | refine Below.drew ?_ | refine Below.put ?_ (by dsimp only; omega) _)))) ?_ | with_reducible refine use (cs1.out _ (Below.next hBw.out (by repeat (first | exact Below.refl _ _ | refine Below.later ?_ _ | refine Below.box ?_ _ | refine Below.drew ?_ | refine Below.put ?_ (by dsimp only; omega) _)))) ?_); intro pw7) | (go_at_call 28; (first | with_reducible refine use1 (cs2.out _ (Below.next hBw.out (by repeat (first | exact Below.refl _ _ | refine Below.later ?_ _ | refine Below.box ?_ _ | refine Below.drew ?_ | refine Below.put ?_ (by dsimp only; omega) _)))) ?_ | with_reducible refine use (cs2.out _ (Below.next hBw.out (by repeat (first | exact Below.refl _ _ | refine Below.later ?_ _ | refine Below.box ?_ _ | refine Below.drew ?_ | refine Below.put ?_ (by dsimp only; omega) _)))) ?_); intro pw8))
      go_ret
      exact ⟨rfl, Below.next hB5w.out (by repeat (first | exact Below.refl _ _ | refine Below.later ?_ _ | refine Below.box ?_ _ | refine Below.drew ?_ | refine Below.put ?_ (by dsimp only; omega) _))⟩

set_option maxRecDepth 100000 in
theorem lifted (os : Os) (started : os.Started) (H : Type) (enc : TypeId × Value → H) :
    ReturnsInHanded {} Try.checked os 9 .any (Rows.layoutPointsSpec.pre6 enc Try.prog Try.f9 Rows.layoutPointsRow.domain false) (Rows.layoutPointsSpec.post enc Try.prog Try.f9 false true false false) := by
  refine returnsInHanded_of_change (C := Try.checked) own started (by kernel_rfl) Try.func9
    (ChangeSpec.witness6 (enc := enc) (C := Try.checked) false ⟨#[], #[.agg #[.int .u64 0, .int .i64 0, .int .i64 0, .slice none 0 0], .agg #[.int .i64 0, .int .i64 0, .int .i64 0]], []⟩ 8 (by kernel_rfl) (by kernel_rfl) (by kernel_rfl) (by kernel_rfl)) ?_
  intro W base args ds gs before hval0 hW hcnd _
  have hval : ∀ (j : Nat) t v, Try.f9.params[j]? = some t → args[j]? = some v → Value.okWide Try.prog W .any base t v := hval0
  have hW0 : DataW.Whole enc Try.prog Try.f9.params.toList Rows.layoutPointsSpec.vars false W args.toList ds gs before := hW
  obtain ⟨p, q, hA0, hV, rfl, _, _⟩ := hW
  have hA : DataW.TrodAll enc Try.prog W 0 (fun _ => true) true Try.f9.params.toList args.toList ds p := hA0
  rw [Try.params9] at hA hval
  obtain ⟨v0, vs0, d0, ds0, p0, q0, hargs, rfl, rfl, h0, r0⟩ := trodAll_cons hA
  obtain ⟨v1, vs1, d1, ds1, p1, q1, rfl, rfl, rfl, h1, r1⟩ := trodAll_cons r0
  obtain ⟨rfl, rfl, rfl⟩ := trodAll_nil r1
  obtain rfl : args = #[v0, v1] := by cases args; simp_all
  obtain ⟨rfl, rfl⟩ := trodVars_none hV
  obtain ⟨a0x, a0y, a0z, a0u, a0v, a0t, rfl, u0⟩ := open_table (hval 0 25 v0 rfl rfl) h0
  obtain ⟨a1x, a1y, a1z, rfl, u1⟩ := open_params (hval 1 27 v1 rfl rfl) h1
  clear hA0 hval0
  refine (walk W a0x a0y a0z a0u a0v a0t u0 a1x a1y a1z u1).mono fun e W' ⟨he, hb⟩ => ⟨.bool true, he, ?_⟩
  exact law_post (fun t ht => by have ht' : t ∈ [25, 27] := ht; simp only [List.mem_cons, List.not_mem_nil, or_false] at ht'; rcases ht' with rfl | rfl <;> exact ⟨by kernel_rfl, of_decide_eq_true (by kernel_rfl)⟩) rfl rfl hW0 rfl hb

theorem over : Rows.layoutPointsRow.holds Try.pinned (OpenSpec.ofChange Rows.layoutPointsSpec) :=
  OpenClaim.holds_of_wide 9 Try.f9 rfl rfl rfl rfl rfl rfl rfl ⟨rfl, rfl, rfl, rfl, rfl⟩ rfl rfl rfl rfl rfl (by kernel_rfl) Try.func9 (by kernel_rfl)
    (of_decide_eq_true (by kernel_rfl)) (by unfold Func.isWrapper; first | (rw [if_pos (by decide +kernel)]; kernel_rfl) | (rw [if_neg (by decide +kernel)]; exact ⟨rfl, rfl⟩))
    (fun os started H enc _ => lifted os started H enc)

/-- The statement. -/
theorem proved : Rows.LayoutPointsSaid := over
#print axioms proved
end Go.Proofs.Ytpkjlnelkacbgaa.layoutPoints
