/- linear.Solve. -/
import Derived.Test.YtjnlnbkdnjainaaHLinB
import Derived.Test.YtjnlnbkdnjainaaHWid
import Derived.Test.YtjnlnbkdnjainaaHKer
namespace Go.Proofs.Ytjnlnbkdnjainaa
open Go.RowKit Go.Sort

set_option maxRecDepth 100000
/-- The matrix with one column more. -/
def sWd (p : Int) (m : Nat) (ls : List (List Int)) (b : List Int) : Nat → Nat → Int := fun i j => if j < m then elF p ls i j else (b.getD i 0) % p
def svf (f : Nat → Nat → Int) (piv : List Nat) (m : Nat) : Nat → Nat → Int
  | 0, _ => 0
  | k + 1, j => if j = piv.getD k 0 then f k m else svf f piv m k j
/-- Whether there is a solution. -/
def solB (n m : Nat) (s : Es) : Bool := (List.range n).all fun k => decide (k < s.piv.length) || decide (s.f k m = 0)
def solL (n m : Nat) (s : Es) : List Int := if solB n m s then (List.range m).map (svf s.f s.piv m s.piv.length) else []
def GivesSv (ok : Bool) (l : List Int) (w : World) (e : Ending) (w' : World) : Prop := ∃ u c, e = .returned (.tuple #[.slice u l.length c, .bool ok]) ∧ Ls w' u l ∧ (u = none → c = 0) ∧ Below w.heap.size w w'
theorem svf_U {f : Nat → Nat → Int} {piv : List Nat} {m n : Nat} (h : ∀ i, i < n → U (f i m)) : ∀ k j, k ≤ n → U (svf f piv m k j)
  | 0, j, _ => by unfold svf; exact ⟨by omega, by omega⟩
  | k + 1, j, hk => by
    unfold svf
    split
    · exact h k (by omega)
    · exact svf_U h k j (by omega)
set_option maxHeartbeats 16000000 in
theorem solve_lc (p : Int) (n m : Nat) (u v : Option Addr) (c d : Nat) (ls : List (List Int)) (b : List Int) (w : World) (h1 : Mt w u ls) (h2 : Ls w v b) (hb : b.length = n) (hv : vld p = true) (hM : vldM ls = true) (hn : ls.length = n) (hm : colsN ls = m) :
    Calls Try.prog 40 #[.agg #[.int .u64 p], .slice u n c, .slice v n d] w (GivesSv (solB n m (elR p n m (sWd p m ls b))) (solL n m (elR p n m (sWd p m ls b))) w) := by
  have hp := vld_pos hv
  obtain ⟨g1, g2, g3⟩ := vldM_row hM
  have hs := h1.small
  have cf : Kept (∀ w', Below w.heap.size w w' → Calls Try.prog 54 #[.agg #[.int .u64 p], .slice u n c] w' (Gives (.bool true) w')) := ⟨fun w' hw => by have := fits_lc p u c ls w' (h1.below (Nat.le_refl _) hw); rw [hv, hM, hn] at this; exact this⟩
  have cc : Kept (∀ w', Below w.heap.size w w' → Calls Try.prog 55 #[.slice u n c] w' (Gives (.int .i64 (m : Int)) w')) := ⟨fun w' hw => by have := columns_c u c ls w' (h1.below (Nat.le_refl _) hw); rw [hn, hm] at this; exact this⟩
  have cr : Kept (∀ w', Below w.heap.size w w' → Calls Try.prog 57 #[.agg #[.int .u64 p], .slice u n c] w' (GivesM0 w' n m (elF p ls))) := ⟨fun w' hw => reduced_lc0 p n m u c ls w' hv (h1.below (Nat.le_refl _) hw) hn (by omega) (by omega) (fun l hl => by rw [g3 l hl, hm])⟩
  obtain ⟨F, hF⟩ : ∃ F, sWd p m ls b = F := ⟨_, rfl⟩
  have hFl : ∀ i j, 0 ≤ F i j ∧ F i j < p := fun i j => by
    rw [← hF]; unfold sWd
    split
    · exact elF_lt (by omega) i j
    · exact ⟨Int.emod_nonneg _ (by omega), Int.emod_lt_of_pos _ (by omega)⟩
  have ce : Kept (∀ W w' B bf cf, Mx W w' B n (m + 1) bf cf F → Calls Try.prog 58 #[.agg #[.int .u64 p], .slice (some ⟨B, 0, none⟩) n n, .int .i64 (m : Int)] w' (GivesE W B n (m + 1) (elR p n m F) w')) := ⟨fun W w' B bf cf hM => elim_c p n (m + 1) m W w' B n bf cf _ hv (by omega) (by omega) (by omega) hM (fun i j _ _ => hFl i j)⟩
  have kF : Kept (∀ k j, k < n → j < m → elF p ls k j = F k j) := ⟨fun k j _ hj => by rw [← hF]; unfold sWd; rw [if_pos hj]⟩
  have kFb : Kept (∀ k x, b[k]? = some x → x % p = F k m) := ⟨fun k x hx => by rw [← hF]; unfold sWd; rw [if_neg (by omega), List.getD, hx]; rfl⟩
  have kb := (⟨h2.get hb⟩ : Kept _)
  have hmk := run_make_row' (P := Try.prog) 32 22 (.int .u64 0) 8 Try.underlying32 (by kernel_rfl) rfl .i64 .i64 m (by omega) (by omega)
  have hok := elR_ok (n := n) (m := m + 1) (f := F) hv (fun i j _ _ => hFl i j) m
  have kinc := (⟨elR_inc p n F m⟩ : Kept _)
  have hn6 : n ≤ 64 := by omega
  have hm6 : m ≤ 64 := by omega
  rw [hF]
  generalize elR p n m F = es at *
  obtain ⟨f, piv, fac⟩ := es
  simp only at kinc ⊢
  obtain ⟨np, hnp⟩ : ∃ np, piv.length = np := ⟨_, rfl⟩
  have knp := (⟨hnp⟩ : Kept _)
  have hnpn : np ≤ n := by rw [← hnp]; exact hok.len
  have kel : Kept (∀ i j, i < n → j < m + 1 → 0 ≤ f i j ∧ f i j < p) := ⟨hok.el⟩
  obtain ⟨sb, hsb⟩ : ∃ sb, solB n m ⟨f, piv, fac⟩ = sb := ⟨_, rfl⟩
  obtain ⟨sl, hsl⟩ : ∃ sl, solL n m ⟨f, piv, fac⟩ = sl := ⟨_, rfl⟩
  have ksb := (⟨hsb⟩ : Kept _)
  have ksl : Kept (sl = if sb = true then (List.range m).map (svf f piv m np) else []) := ⟨by rw [← hsl, solL, hsb, ← hnp]⟩
  rw [hsb, hsl]
  clear h1 h2 hM hn hm g1 g2 g3 hok hnp hs hb hsb hsl hF hFl
  go_enter Try.func40, Try.ntmps40
  go_wp2_with (first | (go_at_call 54; (first | with_reducible refine use1 (cf.out _ (by repeat (first | exact Below.refl _ _ | refine Below.later ?_ _ | refine Below.box ?_ _ | refine Below.drew ?_ | refine Below.put ?_ (by dsimp only; omega) _))) ?_ | with_reducible refine use (cf.out _ (by repeat (first | exact Below.refl _ _ | refine Below.later ?_ _ | refine Below.box ?_ _ | refine Below.drew ?_ | refine Below.put ?_ (by dsimp only; omega) _))) ?_); intro pw) | (go_at_call 55; (first | with_reducible refine use1 (cc.out _ (by repeat (first | exact Below.refl _ _ | refine Below.later ?_ _ | refine Below.box ?_ _ | refine Below.drew ?_ | refine Below.put ?_ (by dsimp only; omega) _))) ?_ | with_reducible refine use (cc.out _ (by repeat (first | exact Below.refl _ _ | refine Below.later ?_ _ | refine Below.box ?_ _ | refine Below.drew ?_ | refine Below.put ?_ (by dsimp only; omega) _))) ?_); intro pw) | (go_at_call 57; refine Stop.out ?_))
  refine ⟨?_⟩
  refine call_genE (fun W' => Below w.heap.size w W' ∧ W'.cell? ⟨w.heap.size, 0, none⟩ = some (.int .u64 p) ∧ w.heap.size < W'.heap.size) ?fx ?_
  case fx => exact ⟨(by repeat (first | exact Below.refl _ _ | refine Below.later ?_ _ | refine Below.box ?_ _ | refine Below.drew ?_ | refine Below.put ?_ (by dsimp only; omega) _)), by simp [go_sem], by simp⟩
  rintro W1 ⟨hB1, hb1, hl1⟩
  refine (cr.out W1 hB1).mono ?_
  rintro e w2 ⟨B, bf0, rfl, hRd⟩
  have kB1 := (⟨hB1⟩ : Kept _)
  have kbx : Kept (∀ w', Below W1.heap.size W1 w' → w'.cell? ⟨w.heap.size, 0, none⟩ = some (.int .u64 p) ∧ w.heap.size < w'.heap.size) := ⟨fun w' hw => by
    exact ⟨by rw [hw.cell (p := ⟨w.heap.size, 0, none⟩) hl1]; exact hb1, by have := hw.size; omega⟩⟩
  have hW0 : Kept (Wid W1 w2 B n 0 m (m + 1) bf0 (fun _ => 0) F) := ⟨Wid.of_red hRd kF.out⟩
  clear hB1 hb1 hl1 hRd cr cf cc kF
  go_wp2
  go_loopw [37] (fun v wr => ∃ (i : Nat) (bf cf : Nat → Nat), v = .int .i64 (i : Int) ∧ i ≤ n ∧ Kept (Wid W1 wr B n i m (m + 1) bf cf F)) (fun v _ => ((n : Int) - intOf v).toNat)
  case atStart => exact ⟨0, _, _, rfl, by omega, hW0⟩
  case round =>
    clear hW0
    obtain ⟨i, bf, cf, rfl, hi, hR⟩ := hrel
    obtain ⟨w1, rfl⟩ : ∃ x, x = wr := ⟨wr, rfl⟩
    by_cases h : i < n
    · have hB1 := Below.next kB1.out hR.out.below
      obtain ⟨b2, o2, x, rfl, hxx, hb2, hcx, hUx⟩ := kb.out i h
      have hcx' : w1.cell? ⟨b2, o2 + i, none⟩ = some (.int .u64 x) := by rw [hB1.cell (p := ⟨b2, o2 + i, none⟩) hb2]; exact hcx
      have hb2' : b2 < w1.heap.size := by have := hB1.size; omega
      obtain ⟨hcB, hfB, hlB, hlb⟩ := hR.out.cells h
      have hb3 := (kbx.out w1 hR.out.below).1
      have hl3 := (kbx.out w1 hR.out.below).2
      obtain ⟨z, hz⟩ : ∃ z, x % p = z := ⟨_, rfl⟩
      have cred : Kept (∀ w, Calls Try.prog 14 #[.agg #[.int .u64 p], .int .u64 x] w (Gives (.int .u64 z) w)) := ⟨fun w => by have := red_c p x w hUx; rw [fred, if_pos hv, hz] at this; exact this⟩
      have kz : Kept (z = F i m) := ⟨by rw [← hz]; exact kFb.out i x hxx⟩
      have hzU : Kept (U z) := ⟨by rw [← hz]; have := Int.emod_nonneg x (show p ≠ 0 by omega); have := Int.emod_lt_of_pos x (show 0 < p by omega); exact ⟨by omega, by omega⟩⟩
      have hne : ¬ w.heap.size = B := by have := hR.out.geB; have := (kbx.out W1 (Below.refl _ _)).2; omega
      have hApp : Kept (∀ w', Below w1.heap.size w1 w' → w'.ownsRow W1.heap.size 22 1 (.slice (some ⟨bf i, 0, none⟩) m m) m ((List.range m).map fun j => .int .u64 (F i j))) := ⟨fun w' hw' => (hR.out.keep hi hw').own h (by omega)⟩
      have hAb : Kept (∀ w', Below w1.heap.size w1 w' → W1.heap.size ≤ w'.heap.size) := ⟨fun w' hw' => Nat.le_trans hR.out.below.size hw'.size⟩
      have hS : Kept (∀ w', Below w1.heap.size w1 w' → (w'.cell? ⟨B, i, none⟩ = some (.slice (some ⟨bf i, 0, none⟩) m m) ∧ w'.frozen? ⟨B, i, none⟩ = false ∧ w'.cell? ⟨w.heap.size, 0, none⟩ = some (.int .u64 p))) := ⟨fun w' hw' => ⟨by rw [hw'.cell (p := ⟨B, i, none⟩) hlB]; exact hcB, by rw [World.frozen?_of_block (hw'.block B hlB)]; exact hfB, by rw [hw'.cell (p := ⟨w.heap.size, 0, none⟩) hl3]; exact hb3⟩⟩
      have kn1 : Kept (some B ≠ (Value.slice (some ⟨bf i, 0, none⟩) m m).ownBlock) := ⟨fun e => (hR.out.geR i h).2 (by injection e with e; exact e.symm)⟩
      have kn2 : Kept (some w.heap.size ≠ (Value.slice (some ⟨bf i, 0, none⟩) m m).ownBlock) := ⟨fun e => by simp only [Value.ownBlock, Option.some.injEq] at e; have := (hR.out.geR i h).1; have := (kbx.out W1 (Below.refl _ _)).2; omega⟩
      obtain ⟨i0, hi0, hz0, hz1, hz2'⟩ := info_parts (show (Try.prog.info? 22).map (fun i => (i.zero, i.size, i.bytes)) = some (some (.int .u64 0), 1, 8) from by kernel_rfl)
      clear hB1 hcx hxx hb2 hz
      go_wp2
      refine wp_region_noPanic ?_
      refine region_strip (S := (fun w' => w'.cell? ⟨B, i, none⟩ = some (.slice (some ⟨bf i, 0, none⟩) m m) ∧ w'.frozen? ⟨B, i, none⟩ = false ∧ w'.cell? ⟨w.heap.size, 0, none⟩ = some (.int .u64 p))) (by kernel_rfl) (by kernel_rfl) (hS.out _ (by repeat (first | exact Below.refl _ _ | refine Below.later ?_ _ | refine Below.box ?_ _ | refine Below.drew ?_ | refine Below.put ?_ (by dsimp only; omega) _))) (fun hHeld => ?_)
      simp only [initOf, lastOf]
      refine wpAnyH_take (i := 0) (oi := ?o0q1) (v := ?v0q1) ?hi0q1 (by kernel_rfl) (by kernel_rfl) (by kernel_rfl) (fun _ _ _ h => h) (Or.inl ⟨?hg0q1, ?hy0q1⟩) (by assumption) ?rest0q1
      case hi0q1 => rfl
      case hg0q1 => rfl
      case' hy0q1 =>
        dsimp only [List.getElem?_toArray, List.getElem?_cons_succ, List.getElem?_cons_zero, List.getElem_cons_succ, List.getElem_cons_zero, List.getElem_toArray]
        intro w hSw
        try dsimp only at hSw
        go_simp
        try with_reducible rfl
      case' rest0q1 =>
        dsimp only [List.getElem?_toArray, List.getElem?_cons_succ, List.getElem?_cons_zero, List.getElem_cons_succ, List.getElem_cons_zero, List.getElem_toArray]
        try simp only [Act.put, List.setIfInBounds_toArray, List.set_cons_zero, List.set_cons_succ]
      refine wpAnyH_take (i := 1) (oi := ?o1q2) (v := ?v1q2) ?hi1q2 (by kernel_rfl) (by kernel_rfl) (by kernel_rfl) (fun _ _ _ h => h) (Or.inl ⟨?hg1q2, ?hy1q2⟩) (by assumption) ?rest1q2
      case hi1q2 => rfl
      case hg1q2 => rfl
      case' hy1q2 =>
        dsimp only [List.getElem?_toArray, List.getElem?_cons_succ, List.getElem?_cons_zero, List.getElem_cons_succ, List.getElem_cons_zero, List.getElem_toArray]
        intro w hSw
        try dsimp only at hSw
        go_simp
        try with_reducible rfl
      case' rest1q2 =>
        dsimp only [List.getElem?_toArray, List.getElem?_cons_succ, List.getElem?_cons_zero, List.getElem_cons_succ, List.getElem_cons_zero, List.getElem_toArray]
        try simp only [Act.put, List.setIfInBounds_toArray, List.set_cons_zero, List.set_cons_succ]
      refine wpAnyH_take (i := 2) (oi := ?o2q3) (v := ?v2q3) ?hi2q3 (by kernel_rfl) (by kernel_rfl) (by kernel_rfl) (fun _ _ _ h => h) (Or.inl ⟨?hg2q3, ?hy2q3⟩) (by assumption) ?rest2q3
      case hi2q3 => rfl
      case hg2q3 => rfl
      case' hy2q3 =>
        dsimp only [List.getElem?_toArray, List.getElem?_cons_succ, List.getElem?_cons_zero, List.getElem_cons_succ, List.getElem_cons_zero, List.getElem_toArray]
        intro w hSw
        try dsimp only at hSw
        go_simp
        try with_reducible rfl
      case' rest2q3 =>
        dsimp only [List.getElem?_toArray, List.getElem?_cons_succ, List.getElem?_cons_zero, List.getElem_cons_succ, List.getElem_cons_zero, List.getElem_toArray]
        try simp only [Act.put, List.setIfInBounds_toArray, List.set_cons_zero, List.set_cons_succ]
      refine wpAnyH_take (i := 3) (oi := ?o3q4) (v := ?v3q4) ?hi3q4 (by kernel_rfl) (by kernel_rfl) (by kernel_rfl) (fun _ _ _ h => h) (Or.inl ⟨?hg3q4, ?hy3q4⟩) (by assumption) ?rest3q4
      case hi3q4 => rfl
      case hg3q4 => rfl
      case' hy3q4 =>
        dsimp only [List.getElem?_toArray, List.getElem?_cons_succ, List.getElem?_cons_zero, List.getElem_cons_succ, List.getElem_cons_zero, List.getElem_toArray]
        intro w hSw
        try dsimp only at hSw
        go_simp
        try with_reducible rfl
      case' rest3q4 =>
        dsimp only [List.getElem?_toArray, List.getElem?_cons_succ, List.getElem?_cons_zero, List.getElem_cons_succ, List.getElem_cons_zero, List.getElem_toArray]
        try simp only [Act.put, List.setIfInBounds_toArray, List.set_cons_zero, List.set_cons_succ]
      refine wpAnyH_take (i := 4) (oi := ?o4q5) (v := ?v4q5) ?hi4q5 (by kernel_rfl) (by kernel_rfl) (by kernel_rfl) (fun _ _ _ h => h) (Or.inl ⟨?hg4q5, ?hy4q5⟩) (by assumption) ?rest4q5
      case hi4q5 => rfl
      case hg4q5 => rfl
      case' hy4q5 =>
        dsimp only [List.getElem?_toArray, List.getElem?_cons_succ, List.getElem?_cons_zero, List.getElem_cons_succ, List.getElem_cons_zero, List.getElem_toArray]
        intro w hSw
        try dsimp only at hSw
        go_simp
        try with_reducible rfl
      case' rest4q5 =>
        dsimp only [List.getElem?_toArray, List.getElem?_cons_succ, List.getElem?_cons_zero, List.getElem_cons_succ, List.getElem_cons_zero, List.getElem_toArray]
        try simp only [Act.put, List.setIfInBounds_toArray, List.set_cons_zero, List.set_cons_succ]
      refine wpAnyH_take (i := 5) (oi := ?o5q6) (v := ?v5q6) ?hi5q6 (by kernel_rfl) (by kernel_rfl) (by kernel_rfl) (fun _ _ _ h => h) (Or.inl ⟨?hg5q6, ?hy5q6⟩) (by assumption) ?rest5q6
      case hi5q6 => rfl
      case hg5q6 => rfl
      case' hy5q6 =>
        dsimp only [List.getElem?_toArray, List.getElem?_cons_succ, List.getElem?_cons_zero, List.getElem_cons_succ, List.getElem_cons_zero, List.getElem_toArray]
        intro w hSw
        try dsimp only at hSw
        go_simp
        try with_reducible rfl
      case' rest5q6 =>
        dsimp only [List.getElem?_toArray, List.getElem?_cons_succ, List.getElem?_cons_zero, List.getElem_cons_succ, List.getElem_cons_zero, List.getElem_toArray]
        try simp only [Act.put, List.setIfInBounds_toArray, List.set_cons_zero, List.set_cons_succ]
      refine wpAnyH_take (i := 6) (oi := ?o6q7) (v := ?v6q7) ?hi6q7 (by kernel_rfl) (by kernel_rfl) (by kernel_rfl) (fun _ _ _ h => h) (Or.inl ⟨?hg6q7, ?hy6q7⟩) (by assumption) ?rest6q7
      case hi6q7 => rfl
      case hg6q7 => rfl
      case' hy6q7 =>
        dsimp only [List.getElem?_toArray, List.getElem?_cons_succ, List.getElem?_cons_zero, List.getElem_cons_succ, List.getElem_cons_zero, List.getElem_toArray]
        intro w hSw
        try dsimp only at hSw
        go_simp
        try with_reducible rfl
      case' rest6q7 =>
        dsimp only [List.getElem?_toArray, List.getElem?_cons_succ, List.getElem?_cons_zero, List.getElem_cons_succ, List.getElem_cons_zero, List.getElem_toArray]
        try simp only [Act.put, List.setIfInBounds_toArray, List.set_cons_zero, List.set_cons_succ]
      refine wpAnyH_take (i := 7) (oi := ?o7q8) (v := ?v7q8) ?hi7q8 (by kernel_rfl) (by kernel_rfl) (by kernel_rfl) (fun _ _ _ h => h) (Or.inl ⟨?hg7q8, ?hy7q8⟩) (by assumption) ?rest7q8
      case hi7q8 => rfl
      case hg7q8 => rfl
      case' hy7q8 =>
        dsimp only [List.getElem?_toArray, List.getElem?_cons_succ, List.getElem?_cons_zero, List.getElem_cons_succ, List.getElem_cons_zero, List.getElem_toArray]
        intro w hSw
        try dsimp only at hSw
        go_simp
        try with_reducible rfl
      case' rest7q8 =>
        dsimp only [List.getElem?_toArray, List.getElem?_cons_succ, List.getElem?_cons_zero, List.getElem_cons_succ, List.getElem_cons_zero, List.getElem_toArray]
        try simp only [Act.put, List.setIfInBounds_toArray, List.set_cons_zero, List.set_cons_succ]
      refine wpAnyH_ready (rs := [8]) (by kernel_rfl) (by simp) ?_
      refine AllReadyH.cons rfl (fun K hK => ?_) AllReadyH.nil
      dsimp only [List.getElem?_toArray, List.getElem?_cons_succ, List.getElem?_cons_zero, List.getElem_cons_succ, List.getElem_cons_zero, List.getElem_toArray]
      go_simp
      (go_at_call 14; (first | with_reducible refine use1 (cred.out _) ?_ | with_reducible refine use (cred.out _) ?_); intro pw)
      go_wp2
      refine hK.out _ _ ?_ (fun hHeld => ?_)
      · exact hS.out _ (by repeat (first | exact Below.refl _ _ | refine Below.later ?_ _ | refine Below.box ?_ _ | refine Below.drew ?_ | refine Below.put ?_ (by dsimp only; omega) _))
      clear hK K
      try simp only [Act.put, List.setIfInBounds_toArray, List.set_cons_zero, List.set_cons_succ]
      refine wpAnyH_ready (rs := [9]) (by kernel_rfl) (by simp) ?_
      refine AllReadyH.cons rfl (fun K hK => ?_) AllReadyH.nil
      dsimp only [List.getElem?_toArray, List.getElem?_cons_succ, List.getElem?_cons_zero, List.getElem_cons_succ, List.getElem_cons_zero, List.getElem_toArray]
      go_simp
      refine hK.out _ _ ?_ (fun hHeld => ?_)
      · exact hS.out _ (by repeat (first | exact Below.refl _ _ | refine Below.later ?_ _ | refine Below.box ?_ _ | refine Below.drew ?_ | refine Below.put ?_ (by dsimp only; omega) _))
      clear hK K
      try simp only [Act.put, List.setIfInBounds_toArray, List.set_cons_zero, List.set_cons_succ]
      refine wpAnyH_ready (rs := [10]) (by kernel_rfl) (by simp) ?_
      refine AllReadyH.cons rfl (fun K hK => ?_) AllReadyH.nil
      dsimp only [List.getElem?_toArray, List.getElem?_cons_succ, List.getElem?_cons_zero, List.getElem_cons_succ, List.getElem_cons_zero, List.getElem_toArray]
      rw [if_pos (by rfl)]
      refine wp_append_lies _ _ _ _ (by rfl) W1.heap.size 22 i0 (.int .u64 0) 1 8 Try.underlying32 hi0 hz0 hz1 hz2' rfl (by decide) (.slice (some ⟨bf i, 0, none⟩) m m) m ((List.range m).map fun j => .int .u64 (F i j)) (by rfl) (hApp.out _ (by repeat (first | exact Below.refl _ _ | refine Below.later ?_ _ | refine Below.box ?_ _ | refine Below.drew ?_ | refine Below.put ?_ (by dsimp only; omega) _))) ⟨w1.heap.size + pw.os.size, 0, none⟩ 1 1 [.int .u64 z] (by rfl) (by rfl)
                          (World.news_of_block (cs := #[.int .u64 z]) (t := 22) (fr := (0, 0)) (by rw [show w1.heap.size + pw.os.size = (after w1.drew pw).heap.size from by simp]; exact heap_alloc_new _ _)) (by simp [Value.oneCell']) (by omega) (by simp only [maxLen]; omega) (by omega) (hAb.out _ (by repeat (first | exact Below.refl _ _ | refine Below.later ?_ _ | refine Below.box ?_ _ | refine Below.drew ?_ | refine Below.put ?_ (by dsimp only; omega) _))) _ rfl ?_
      intro g cap w3 hown hgrow hat hlt
      refine hK.out _ _ ?_ (fun hHeld => ?_)
      · go_split_ands
        refine ⟨?_, ?_, ?_⟩
        · (rw [hgrow.cell_far ⟨B, i, none⟩ (by simp; omega) kn1.out]; assumption)
        · (rw [hgrow.frozen_far ⟨B, i, none⟩ (by simp; omega) kn1.out]; assumption)
        · (rw [hgrow.cell_far ⟨w.heap.size, 0, none⟩ (by simp; omega) kn2.out]; assumption)
      clear hK K
      try simp only [Act.put, List.setIfInBounds_toArray, List.set_cons_zero, List.set_cons_succ]
      refine wpAnyH_take (i := 11) (oi := ?o11q9) (v := ?v11q9) ?hi11q9 (by kernel_rfl) (by kernel_rfl) (by kernel_rfl) (fun _ _ _ h => h) (Or.inl ⟨?hg11q9, ?hy11q9⟩) (by assumption) ?rest11q9
      case hi11q9 => rfl
      case hg11q9 => rfl
      case' hy11q9 =>
        dsimp only [List.getElem?_toArray, List.getElem?_cons_succ, List.getElem?_cons_zero, List.getElem_cons_succ, List.getElem_cons_zero, List.getElem_toArray]
        intro w hSw
        try dsimp only at hSw
        go_simp
        try with_reducible rfl
      case' rest11q9 =>
        dsimp only [List.getElem?_toArray, List.getElem?_cons_succ, List.getElem?_cons_zero, List.getElem_cons_succ, List.getElem_cons_zero, List.getElem_toArray]
        try simp only [Act.put, List.setIfInBounds_toArray, List.set_cons_zero, List.set_cons_succ]
      refine wpAnyH_done (by kernel_rfl) ?_ _
      show wpList _ _ _ _ _ _
      go_split_ands
      go_wp2
      refine NoPanic.normal ?_
      have kR5 : Kept (Wid W1 (w3.setCell ⟨B, i, none⟩ (.slice (some ⟨g, 0, none⟩) (m + 1) cap)) B n (i + 1) m (m + 1) (fun k => if k = i then g else bf k) (fun k => if k = i then cap else cf k) F) := ⟨by
        refine Wid.push (w1 := _) (w2 := w3) (news := [z]) (N := m + 1) hR.out h ?hb rfl rfl ?he hown hgrow hat
        case hb => exact (by repeat (first | exact Below.refl _ _ | refine Below.later ?_ _ | refine Below.box ?_ _ | refine Below.drew ?_ | refine Below.put ?_ (by dsimp only; omega) _))
        case he => intro j hj; simp at hj; subst hj; exact kz.out⟩
      clear hR hown hgrow hat hS hApp hAb hcB hfB hlB hlb hb3 hl3 hne hi0 hz0 hz1 hz2' hcx' hb2' hlt
      go_wp2
      go_roundw
      case rel => exact ⟨i + 1, _, _, by go_num, by omega, kR5⟩
      case measure => first | (simp [intOf]; omega) | (simp [intOf]; done)
    · have hin : i = n := by omega
      have hD := hR.out
      rw [hin] at hD
      have kM := (⟨hD.done⟩ : Kept _)
      have hb3 := (kbx.out w1 hR.out.below).1
      have hl3 := (kbx.out w1 hR.out.below).2
      clear hR hD hin kb kFb hi
      go_wp2_with (first | (go_at_call 58; refine (ce.out W1 _ B bf cf (kM.out.keep (by repeat (first | exact Below.refl _ _ | refine Below.later ?_ _ | refine Below.box ?_ _ | refine Below.drew ?_ | refine Below.put ?_ (by dsimp only; omega) _)))).mono ?_; rintro e w5 ⟨bf5, cf5, v5, rfl, hMe, hOe⟩; refine Stop.out ?_))
      refine ⟨?_⟩
      clear hb3 hl3
      try simp only at hMe hOe
      obtain ⟨u5, c5, rfl⟩ : ∃ u5 c5, v5 = .slice u5 piv.length c5 := by
        rcases hOe.2 with ⟨e, h0⟩ | ⟨g, cap, cur, e, _⟩
        · exact ⟨none, 0, by rw [e, h0]⟩
        · exact ⟨_, cap, e⟩
      have kpv : Kept (∀ w', Below w5.heap.size w5 w' → ∀ k, k < np → ∃ b, u5 = some ⟨b, 0, none⟩ ∧ b < w'.heap.size ∧ w'.cell? ⟨b, k, none⟩ = some (.int .i64 ((piv.getD k 0 : Nat) : Int))) := ⟨fun w' hw k hk => by
        rcases hOe.2 with ⟨_, e⟩ | ⟨g, cap, cur, e, _, hc, hcap, _, hsz, htk⟩
        · rw [knp.out] at e; omega
        · injection e with e e2 e3
          have hlt : g < w5.heap.size := (Array.getElem?_eq_some_iff.1 hc).1
          refine ⟨g, e, by have := hw.size; omega, ?_⟩
          have h2 : (cur.toList.take (piv.length * 1))[k]? = (intsV piv)[k]? := by rw [htk]
          rw [List.getElem?_take, if_pos (by rw [knp.out]; omega), Array.getElem?_toList] at h2
          have hr : w5.rowIs g 3 cap (fun j => (cur[j]?).getD undef) := ⟨cur, hc, by omega, fun j hj => by dsimp only; rw [Array.getElem?_eq_getElem (by omega)]; rfl⟩
          rw [hw.cell (p := ⟨g, k, none⟩) hlt, hr.cell (by have := knp.out; omega), h2, intsV, List.getElem?_map, List.getElem?_eq_getElem (by rw [knp.out]; exact hk), List.getD, List.getElem?_eq_getElem (by rw [knp.out]; exact hk)]
          rfl⟩
      have kMe := (⟨hMe⟩ : Kept _)
      have kbw : Kept (Below w.heap.size w w5) := ⟨Below.next kB1.out hMe.below⟩
      rw [knp.out]
      clear hMe hOe kM ce
      by_cases hnn : n = np
      · go_wp2
        go_loopw [67] (fun v wr => ∃ (k : Nat), v = .int .i64 (k : Int) ∧ wr = w5 ∧ k ≤ n - np ∧ Kept (∀ j, j < k → f (np + j) m = 0)) (fun v _ => ((n : Int) - intOf v).toNat)
        case atStart => exact ⟨0, rfl, by first | rfl | trivial, by omega, ⟨fun j hj => absurd hj (by omega)⟩⟩
        case round =>
          obtain ⟨k, rfl, rfl, hk, hz⟩ := hrel
          obtain ⟨w5, rfl⟩ : ∃ x, x = wr := ⟨wr, rfl⟩
          by_cases h5 : k < n - np
          · exfalso; omega
          · have hsbt : sb = true := by
              rw [← ksb.out]; unfold solB
              refine List.all_eq_true.2 fun j hj => ?_
              have hj := List.mem_range.1 hj
              simp only [Bool.or_eq_true, decide_eq_true_eq]
              by_cases e : j < np
              · exact .inl (by rw [knp.out]; exact e)
              · have := hz.out (j - np) (by omega)
                rw [show np + (j - np) = j by omega] at this
                exact .inr this
            have ksl2 : Kept (sl = (List.range m).map (svf f piv m np)) := ⟨by rw [ksl.out, hsbt]; rfl⟩
            have ksb2 := (⟨hsbt⟩ : Kept _)
            clear hz ksl ksb hsbt
            go_wp2
            obtain ⟨V, hV⟩ : ∃ V, w5.heap.size = V := ⟨_, rfl⟩
            have hP0 : Kept (Pfx (w5.alloc (.cells (madeCells #[.int .u64 0] m) 22)) V 22 m (fun j => .int .u64 (svf f piv m 0 j))) := ⟨by
              have := World.rowIs_made w5 (.int .u64 0) m 22
              rw [hV] at this
              exact (Pfx.of_row this).congr fun j _ => by simp [svf]⟩
            have hBl0 : Kept (Below w5.heap.size w5 (w5.alloc (.cells (madeCells #[.int .u64 0] m) 22))) := ⟨(by repeat (first | exact Below.refl _ _ | refine Below.later ?_ _ | refine Below.box ?_ _ | refine Below.drew ?_ | refine Below.put ?_ (by dsimp only; omega) _))⟩
            rw [hV]
            generalize (w5.alloc (.cells (madeCells #[.int .u64 0] m) 22)) = w6 at hP0 hBl0 ⊢
            go_loopw [81] (fun v wr => ∃ (k : Nat), v = .int .i64 (k : Int) ∧ k ≤ np ∧ Kept (Pfx wr V 22 m (fun j => .int .u64 (svf f piv m k j))) ∧ Kept (Below w5.heap.size w5 wr)) (fun v _ => ((np : Int) - intOf v).toNat)
            case atStart => exact ⟨0, rfl, by omega, hP0, hBl0⟩
            case round =>
              clear hP0 hBl0
              obtain ⟨k, rfl, hk, hP, hBl⟩ := hrel
              obtain ⟨w1, rfl⟩ : ∃ x, x = wr := ⟨wr, rfl⟩
              by_cases h7 : k < np
              · obtain ⟨b1, e5, hb1, hc1⟩ := kpv.out w1 hBl.out k h7
                subst e5
                have hpl := kinc.out.lt k (by rw [knp.out]; exact h7)
                have hMx := kMe.out.keep hBl.out
                obtain ⟨hcB, hfB, hlB, hlb⟩ := hMx.cells (show k < n by omega)
                obtain ⟨hcE, hfE⟩ := hMx.elem (show k < n by omega) (show m < m + 1 by omega)
                have kz : Kept (∀ j, svf f piv m (k + 1) j = if j = piv.getD k 0 then f k m else svf f piv m k j) := ⟨fun j => rfl⟩
                generalize f k m = fkc at *
                generalize piv.getD k 0 = pk at *
                have hVc := hP.out.cell hpl
                have hVf := hP.out.frozen pk
                have hVl := hP.out.lt
                clear hMx
                go_wp2
                go_roundw
                case rel => exact ⟨k + 1, by go_num, by omega, ⟨(hP.out.set pk (.int .u64 fkc)).congr fun j _ => by
                  rw [kz.out]; by_cases e : j = pk <;> simp [e]⟩, ⟨Below.put hBl.out (Nat.le_of_eq hV) _⟩⟩
                case measure => first | (simp [intOf]; omega) | (simp [intOf]; done)
              · have hkn : k = np := by omega
                have kLs : Kept (Ls w1 (some ⟨V, 0, none⟩) sl) := ⟨by rw [ksl2.out, ← hkn]; exact hP.out.ls (by omega) (fun i _ => svf_U (n := n) (fun i hi => ⟨(kel.out i m hi (by omega)).1, by have := (kel.out i m hi (by omega)).2; omega⟩) k i (by omega))⟩
                have kb5 : Kept (Below w.heap.size w w1) := ⟨Below.next kbw.out hBl.out⟩
                have ksn : Kept (sl.length = m) := ⟨by rw [ksl2.out]; simp⟩
                clear hP hBl hkn ksl2
                go_wp2
                exact bodyPost_ret (v := .tuple #[.slice (some ⟨V, 0, none⟩) m m, .bool true]) (by simp [results, Try.results40, go_sem]) rfl ⟨some ⟨V, 0, none⟩, m, by rw [ksb2.out, ksn.out], kLs.out, fun e => (by cases e), kb5.out⟩
      · go_wp2
        go_loopw [67] (fun v wr => ∃ (k : Nat), v = .int .i64 (k : Int) ∧ wr = w5 ∧ k ≤ n - np ∧ Kept (∀ j, j < k → f (np + j) m = 0)) (fun v _ => ((n : Int) - intOf v).toNat)
        case atStart => exact ⟨0, rfl, by first | rfl | trivial, by omega, ⟨fun j hj => absurd hj (by omega)⟩⟩
        case round =>
          obtain ⟨k, rfl, rfl, hk, hz⟩ := hrel
          obtain ⟨w5, rfl⟩ : ∃ x, x = wr := ⟨wr, rfl⟩
          by_cases h5 : k < n - np
          · obtain ⟨hcB, hfB, hlB, hlb⟩ := kMe.out.cells (show np + k < n by omega)
            obtain ⟨hcE, hfE⟩ := kMe.out.elem (show np + k < n by omega) (show m < m + 1 by omega)
            by_cases h6 : f (np + k) m = 0
            · have hz2 : Kept (∀ j, j < k + 1 → f (np + j) m = 0) := ⟨fun j hj => by
                by_cases e : j = k
                · rw [e]; exact h6
                · exact hz.out j (by omega)⟩
              rw [h6] at hcE
              clear h6 hz
              go_wp2
              go_roundw
              case rel => exact ⟨k + 1, by go_num, by first | rfl | trivial, by omega, hz2⟩
              case measure => first | (simp [intOf]; omega) | (simp [intOf]; done)
            · have hsbf : sb = false := by
                rw [← ksb.out]; unfold solB
                rw [Bool.eq_false_iff]
                intro hc
                have := List.all_eq_true.1 hc (np + k) (List.mem_range.2 (by omega))
                simp only [Bool.or_eq_true, decide_eq_true_eq] at this
                rcases this with e | e
                · rw [knp.out] at e; omega
                · exact h6 e
              have ksl2 : Kept (sl = []) := ⟨by rw [ksl.out, hsbf]; rfl⟩
              have h7 : (f (np + k) m != 0) = true := by simp [h6]
              generalize f (np + k) m = y at *
              clear hz ksl ksb
              have ksb2 := (⟨hsbf⟩ : Kept _)
              clear hsbf h6
              go_wp2
              exact bodyPost_ret (v := .tuple #[.slice none 0 0, .bool false]) (by simp [results, Try.results40, go_sem]) rfl ⟨none, 0, by rw [ksl2.out, ksb2.out]; rfl, by rw [ksl2.out]; exact Ls.nil _ _, fun _ => rfl, kbw.out⟩
          · have hsbt : sb = true := by
              rw [← ksb.out]; unfold solB
              refine List.all_eq_true.2 fun j hj => ?_
              have hj := List.mem_range.1 hj
              simp only [Bool.or_eq_true, decide_eq_true_eq]
              by_cases e : j < np
              · exact .inl (by rw [knp.out]; exact e)
              · have := hz.out (j - np) (by omega)
                rw [show np + (j - np) = j by omega] at this
                exact .inr this
            have ksl2 : Kept (sl = (List.range m).map (svf f piv m np)) := ⟨by rw [ksl.out, hsbt]; rfl⟩
            have ksb2 := (⟨hsbt⟩ : Kept _)
            clear hz ksl ksb hsbt
            go_wp2
            obtain ⟨V, hV⟩ : ∃ V, w5.heap.size = V := ⟨_, rfl⟩
            have hP0 : Kept (Pfx (w5.alloc (.cells (madeCells #[.int .u64 0] m) 22)) V 22 m (fun j => .int .u64 (svf f piv m 0 j))) := ⟨by
              have := World.rowIs_made w5 (.int .u64 0) m 22
              rw [hV] at this
              exact (Pfx.of_row this).congr fun j _ => by simp [svf]⟩
            have hBl0 : Kept (Below w5.heap.size w5 (w5.alloc (.cells (madeCells #[.int .u64 0] m) 22))) := ⟨(by repeat (first | exact Below.refl _ _ | refine Below.later ?_ _ | refine Below.box ?_ _ | refine Below.drew ?_ | refine Below.put ?_ (by dsimp only; omega) _))⟩
            rw [hV]
            generalize (w5.alloc (.cells (madeCells #[.int .u64 0] m) 22)) = w6 at hP0 hBl0 ⊢
            go_loopw [81] (fun v wr => ∃ (k : Nat), v = .int .i64 (k : Int) ∧ k ≤ np ∧ Kept (Pfx wr V 22 m (fun j => .int .u64 (svf f piv m k j))) ∧ Kept (Below w5.heap.size w5 wr)) (fun v _ => ((np : Int) - intOf v).toNat)
            case atStart => exact ⟨0, rfl, by omega, hP0, hBl0⟩
            case round =>
              clear hP0 hBl0
              obtain ⟨k, rfl, hk, hP, hBl⟩ := hrel
              obtain ⟨w1, rfl⟩ : ∃ x, x = wr := ⟨wr, rfl⟩
              by_cases h7 : k < np
              · obtain ⟨b1, e5, hb1, hc1⟩ := kpv.out w1 hBl.out k h7
                subst e5
                have hpl := kinc.out.lt k (by rw [knp.out]; exact h7)
                have hMx := kMe.out.keep hBl.out
                obtain ⟨hcB, hfB, hlB, hlb⟩ := hMx.cells (show k < n by omega)
                obtain ⟨hcE, hfE⟩ := hMx.elem (show k < n by omega) (show m < m + 1 by omega)
                have kz : Kept (∀ j, svf f piv m (k + 1) j = if j = piv.getD k 0 then f k m else svf f piv m k j) := ⟨fun j => rfl⟩
                generalize f k m = fkc at *
                generalize piv.getD k 0 = pk at *
                have hVc := hP.out.cell hpl
                have hVf := hP.out.frozen pk
                have hVl := hP.out.lt
                clear hMx
                go_wp2
                go_roundw
                case rel => exact ⟨k + 1, by go_num, by omega, ⟨(hP.out.set pk (.int .u64 fkc)).congr fun j _ => by
                  rw [kz.out]; by_cases e : j = pk <;> simp [e]⟩, ⟨Below.put hBl.out (Nat.le_of_eq hV) _⟩⟩
                case measure => first | (simp [intOf]; omega) | (simp [intOf]; done)
              · have hkn : k = np := by omega
                have kLs : Kept (Ls w1 (some ⟨V, 0, none⟩) sl) := ⟨by rw [ksl2.out, ← hkn]; exact hP.out.ls (by omega) (fun i _ => svf_U (n := n) (fun i hi => ⟨(kel.out i m hi (by omega)).1, by have := (kel.out i m hi (by omega)).2; omega⟩) k i (by omega))⟩
                have kb5 : Kept (Below w.heap.size w w1) := ⟨Below.next kbw.out hBl.out⟩
                have ksn : Kept (sl.length = m) := ⟨by rw [ksl2.out]; simp⟩
                clear hP hBl hkn ksl2
                go_wp2
                exact bodyPost_ret (v := .tuple #[.slice (some ⟨V, 0, none⟩) m m, .bool true]) (by simp [results, Try.results40, go_sem]) rfl ⟨some ⟨V, 0, none⟩, m, by rw [ksb2.out, ksn.out], kLs.out, fun e => (by cases e), kb5.out⟩
end Go.Proofs.Ytjnlnbkdnjainaa
