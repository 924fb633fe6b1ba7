/- moidoreref05.Determinant. -/
import Derived.Test.YtjnlnbkdnjainaaHL5a
import Derived.Test.YtjnlnbkdnjainaaHRdp
namespace Go.Proofs.Ytjnlnbkdnjainaa
open Go.RowKit Go.Sort Go.Deep

set_option maxRecDepth 100000
theorem Ls.drop5 {w : World} {b o : Nat} {l : List Int} (h : Ls w (some ⟨b, o, none⟩) l) (n : Nat) : Ls w (some ⟨b, o + n, none⟩) (l.drop n) :=
  ⟨by have := h.small; rw [List.length_drop]; omega, fun x hx => h.all x (List.mem_of_mem_drop hx), fun hne => by
    obtain ⟨b', o', e, hlt, hc⟩ := h.mem (fun e => by subst e; simp at hne)
    injection e with e
    injection e with e1 e2
    subst e1 e2
    exact ⟨b, o + n, rfl, hlt, fun i x hx => by rw [List.getElem?_drop] at hx; rw [Nat.add_assoc]; exact hc _ x hx⟩⟩
theorem vldM_of {ls : List (List Int)} {k : Nat} (hl : ls.length = k) (h : ∀ l ∈ ls, l.length = k) (hk : k ≤ 64) : vldM ls = true ∧ colsN ls = k := by
  have hc : colsN ls = k := by
    cases ls with
    | nil => simpa [colsN] using hl
    | cons a t => simp only [colsN]; exact h a (by simp)
  refine ⟨?_, hc⟩
  simp only [vldM, Bool.and_eq_true, decide_eq_true_eq, List.all_eq_true]
  exact ⟨⟨by omega, by omega⟩, fun l hl2 => by rw [h l hl2, hc]⟩
/-- A row without its first element. -/
def tlV (R : Nat → Nat × Nat × Nat) (k : Nat) (r : Nat) : Value := .slice (some ⟨(R r).1, if (R r).2.2 = 1 then (R r).2.1 else (R r).2.1 + 1, none⟩) k ((R r).2.2 - 1)
theorem mc_minor {w0 w2 : World} {R : Nat → Nat × Nat × Nat} {ls : List (List Int)} {n k i : Nat} {um : Option Addr} {cm : Nat} (hn : n = k + 1) (hln : ls.length = n) (hn6 : n ≤ 64) (hi : i < n) (hR : ∀ r, r < n → ∃ l, ls[r]? = some l ∧ l.length = n ∧ n ≤ (R r).2.2 ∧ Ls w2 (some ⟨(R r).1, (R r).2.1, none⟩) l)
    (hG : Grown 32 w0 w2 (.slice um k cm) k ((rl i n).map (tlV R k))) : Mc w2 um (mls ls i n) ∧ (∀ l ∈ mls ls i n, l.length = k) := by
  have hrl := rl_len i n
  rw [if_pos hi] at hrl
  have hat : ∀ j, j < k → (rl i n)[j]? = some (if j < i then j else j + 1) := fun j hj => rl_at i n j (by omega)
  have hrow : ∀ j, j < k → ∃ l, (mls ls i n)[j]? = some l ∧ l.length = k ∧ ∃ r, r < n ∧ ((rl i n).map (tlV R k))[j]? = some (tlV R k r) ∧ k ≤ (R r).2.2 - 1 ∧ Ls w2 (some ⟨(R r).1, if (R r).2.2 = 1 then (R r).2.1 else (R r).2.1 + 1, none⟩) l := fun j hj => by
    have h1 := hat j hj
    obtain ⟨r, hr⟩ : ∃ r, (if j < i then j else j + 1) = r := ⟨_, rfl⟩
    rw [hr] at h1
    have hrn : r < n := by rw [← hr]; split <;> omega
    obtain ⟨l, hl, hlen, hcap, hL⟩ := hR r hrn
    refine ⟨l.drop 1, ?_, by rw [List.length_drop]; omega, r, hrn, by rw [List.getElem?_map, h1]; rfl, by omega, ?_⟩
    · rw [mls, List.getElem?_map, h1, Option.map_some, List.getD, hl]; rfl
    · by_cases e : (R r).2.2 = 1
      · rw [if_pos e]
        have : l.drop 1 = [] := List.drop_eq_nil_of_le (by omega)
        rw [this]; exact Ls.nil _ _
      · rw [if_neg e]; exact hL.drop5 1
  have hml : (mls ls i n).length = k := by rw [mls_len ls hi]; omega
  obtain ⟨u', c', e, h1, h2, _⟩ := hG.form
  injection e with e1 e2 e3
  subst e1 e3
  have hform : ∀ j, j < k → ∃ b, um = some ⟨b, 0, none⟩ ∧ b < w2.heap.size ∧ ∀ x, ((rl i n).map (tlV R k))[j]? = some x → w2.cell? ⟨b, j, none⟩ = some x := fun j hj => by
    cases um with
    | none => have := (h1 rfl).1; omega
    | some a =>
      obtain ⟨b, rfl, _, hlt, hc⟩ := h2 a rfl
      exact ⟨b, rfl, hlt, fun x hx => hc j x hx⟩
  refine ⟨⟨⟨by omega, fun hne => ?_⟩, fun j hj => ?_⟩, fun l hl => ?_⟩
  · have hk0 : 0 < k := by
      rcases Nat.eq_zero_or_pos k with e | e
      · exact absurd (List.length_eq_zero_iff.1 (by omega)) hne
      · exact e
    obtain ⟨b, e, hlt, _⟩ := hform 0 hk0
    refine ⟨b, 0, e, hlt, fun j l hl => ?_⟩
    have hj : j < k := by have := (List.getElem?_eq_some_iff.1 hl).1; omega
    obtain ⟨l', hl', hlen, r, _, hx, _, hL⟩ := hrow j hj
    obtain ⟨b2, e2, _, hc2⟩ := hform j hj
    rw [e] at e2; injection e2 with e2; injection e2 with e2; subst e2
    rw [hl] at hl'; injection hl' with hl'; subst hl'
    refine ⟨_, (R r).2.2 - 1, ?_, hL⟩
    rw [Nat.zero_add, hc2 _ hx, tlV, hlen]
  · have hj' : j < k := by omega
    obtain ⟨l', hl', hlen, r, _, hx, hcp, hL⟩ := hrow j hj'
    obtain ⟨b2, e2, hlt, hc2⟩ := hform j hj'
    exact ⟨b2, 0, l', _, (R r).2.2 - 1, e2, hl', hlt, by rw [Nat.zero_add, hc2 _ hx, tlV, hlen], hL, by omega⟩
  · obtain ⟨j, hj, e⟩ := List.getElem_of_mem hl
    obtain ⟨l', hl', hlen, _⟩ := hrow j (by omega)
    rw [List.getElem?_eq_getElem hj, e] at hl'
    injection hl' with hl'; rw [hl']; exact hlen
set_option maxHeartbeats 16000000 in
theorem rdet_c (p : Int) (hv : vld p = true) : ∀ (k : Nat), k ≤ 64 → ∀ (u : Option Addr) (c : Nat) (ls : List (List Int)) (w : World), Mc w u ls → ls.length = k → (∀ l ∈ ls, l.length = k) → Calls Try.prog 37 #[.int .u64 p, .slice u k c] w (fun e w' => e = .returned (.int .u64 (rdt p k (lf ls))) ∧ Below w.heap.size w w') := by
  intro k
  induction k with
  | zero =>
    intro _ u c ls w h1 hl hrow
    obtain ⟨hM, hm⟩ := vldM_of hl hrow (by omega)
    have co : Kept (∀ w', Below w.heap.size w w' → Calls Try.prog 70 #[.int .u64 p, .slice u 0 c] w' (Gives (.bool true) w')) := ⟨fun w' hw => by have := rok_c p u c ls w' (h1.1.below (Nat.le_refl _) hw); rw [hv, hM, hl] at this; exact this⟩
    have cc : Kept (∀ w', Below w.heap.size w w' → Calls Try.prog 39 #[.slice u 0 c] w' (Gives (.int .i64 0) w')) := ⟨fun w' hw => by have := rcolumns_c u c ls w' (h1.1.below (Nat.le_refl _) hw); rw [hl, hm] at this; exact this⟩
    clear h1 hM hm hl hrow
    go_enter Try.func37, Try.ntmps37
    go_wp2_with (first | (go_at_call 70; (first | with_reducible refine use1 (co.out _ (by repeat (first | exact Below.refl _ _ | refine Below.later ?_ _ | refine Below.box ?_ _ | refine Below.drew ?_ | refine Below.put ?_ (by dsimp only; omega) _))) ?_ | with_reducible refine use (co.out _ (by repeat (first | exact Below.refl _ _ | refine Below.later ?_ _ | refine Below.box ?_ _ | refine Below.drew ?_ | refine Below.put ?_ (by dsimp only; omega) _))) ?_); intro pw) | (go_at_call 39; (first | with_reducible refine use1 (cc.out _ (by repeat (first | exact Below.refl _ _ | refine Below.later ?_ _ | refine Below.box ?_ _ | refine Below.drew ?_ | refine Below.put ?_ (by dsimp only; omega) _))) ?_ | with_reducible refine use (cc.out _ (by repeat (first | exact Below.refl _ _ | refine Below.later ?_ _ | refine Below.box ?_ _ | refine Below.drew ?_ | refine Below.put ?_ (by dsimp only; omega) _))) ?_); intro pw))
    go_ret
    exact ⟨rfl, (by repeat (first | exact Below.refl _ _ | refine Below.later ?_ _ | refine Below.box ?_ _ | refine Below.drew ?_ | refine Below.put ?_ (by dsimp only; omega) _))⟩
  | succ k ih =>
    intro hk u c ls w h1 hl hrow
    obtain ⟨hM, hm⟩ := vldM_of hl hrow hk
    obtain ⟨n, hn⟩ : ∃ n, k + 1 = n := ⟨_, rfl⟩
    rw [hn] at hl hrow hm hk ⊢
    have hp := vld_pos hv
    have kih := (⟨ih (by omega)⟩ : Kept _)
    have co : Kept (∀ w', Below w.heap.size w w' → Calls Try.prog 70 #[.int .u64 p, .slice u n c] w' (Gives (.bool true) w')) := ⟨fun w' hw => by have := rok_c p u c ls w' (h1.1.below (Nat.le_refl _) hw); rw [hv, hM, hl] at this; exact this⟩
    have cc : Kept (∀ w', Below w.heap.size w w' → Calls Try.prog 39 #[.slice u n c] w' (Gives (.int .i64 (n : Int)) w')) := ⟨fun w' hw => by have := rcolumns_c u c ls w' (h1.1.below (Nat.le_refl _) hw); rw [hl, hm] at this; exact this⟩
    obtain ⟨mb, mo, rfl⟩ : ∃ mb mo, u = some ⟨mb, mo, none⟩ := by
      obtain ⟨b, o, _, _, _, e, _⟩ := h1.2 0 (by omega)
      exact ⟨b, o, e⟩
    have g : ∀ r, r < n → ∃ x : Nat × Nat × Nat, mb < w.heap.size ∧ w.cell? ⟨mb, mo + r, none⟩ = some (.slice (some ⟨x.1, x.2.1, none⟩) n x.2.2) ∧ ∃ l, ls[r]? = some l ∧ l.length = n ∧ n ≤ x.2.2 ∧ Ls w (some ⟨x.1, x.2.1, none⟩) l := fun r hr => by
      obtain ⟨b, o, l, v, d, e, hlr, hlt, hc, hL, hcp⟩ := h1.2 r (by omega)
      injection e with e; injection e with e1 e2; subst e1 e2
      have hll := hrow l (List.mem_of_getElem? hlr)
      obtain ⟨b1, o1, e3, _⟩ := hL.mem (fun e => by subst e; simp at hll; omega)
      subst e3
      rw [hll] at hc hcp
      exact ⟨⟨b1, o1, d⟩, hlt, hc, l, hlr, hll, hcp, hL⟩
    have : Inhabited (Nat × Nat × Nat) := ⟨⟨0, 0, 0⟩⟩
    obtain ⟨R, hR⟩ := choose_lt g
    have kR := (⟨hR⟩ : Kept _)
    have hbn : ((n : Int) == 0) = false := by simp; omega
    have kn : Kept (k + 1 = n) := ⟨hn⟩
    have kl : Kept (ls.length = n) := ⟨hl⟩
    have kT : Kept (rdt p n (lf ls) = fsm p (fun i => tmS p i (fmul p (lf ls i 0) (rdt p k (mnr (lf ls) i)))) n) := ⟨by rw [← hn]; rfl⟩
    generalize rdt p n (lf ls) = DD at *
    clear ih h1 hM hm hl hrow g hR hn this
    go_enter Try.func37, Try.ntmps37
    go_wp2_with (first | (go_at_call 70; (first | with_reducible refine use1 (co.out _ (by repeat (first | exact Below.refl _ _ | refine Below.later ?_ _ | refine Below.box ?_ _ | refine Below.drew ?_ | refine Below.put ?_ (by dsimp only; omega) _))) ?_ | with_reducible refine use (co.out _ (by repeat (first | exact Below.refl _ _ | refine Below.later ?_ _ | refine Below.box ?_ _ | refine Below.drew ?_ | refine Below.put ?_ (by dsimp only; omega) _))) ?_); intro pw) | (go_at_call 39; (first | with_reducible refine use1 (cc.out _ (by repeat (first | exact Below.refl _ _ | refine Below.later ?_ _ | refine Below.box ?_ _ | refine Below.drew ?_ | refine Below.put ?_ (by dsimp only; omega) _))) ?_ | with_reducible refine use (cc.out _ (by repeat (first | exact Below.refl _ _ | refine Below.later ?_ _ | refine Below.box ?_ _ | refine Below.drew ?_ | refine Below.put ?_ (by dsimp only; omega) _))) ?_); intro pw))
    obtain ⟨w0, hw0⟩ : ∃ w0, w0 = after w pw := ⟨_, rfl⟩
    have kB0 : Kept (Below w.heap.size w w0) := ⟨by rw [hw0]; exact (by repeat (first | exact Below.refl _ _ | refine Below.later ?_ _ | refine Below.box ?_ _ | refine Below.drew ?_ | refine Below.put ?_ (by dsimp only; omega) _))⟩
    rw [← hw0]
    clear hw0 hbn co cc
    go_loopw [5, 6] (fun vs vi wr => ∃ (i : Nat) (s : Int), vi = .int .i64 (i : Int) ∧ vs = .int .u64 s ∧ i ≤ n ∧ Kept (s = fsm p (fun i => tmS p i (fmul p (lf ls i 0) (rdt p k (mnr (lf ls) i)))) i) ∧ Kept (Below w0.heap.size w0 wr)) (fun _ v _ => ((n : Int) - intOf v).toNat)
    case atStart => exact ⟨0, 0, rfl, rfl, by omega, ⟨rfl⟩, ⟨Below.refl _ _⟩⟩
    case round =>
      obtain ⟨i, s, rfl, rfl, hi, hsS, hB⟩ := hrel
      obtain ⟨w1, rfl⟩ : ∃ x, x = wr := ⟨wr, rfl⟩
      have kB1 : Kept (Below w.heap.size w w1) := ⟨Below.next kB0.out hB.out⟩
      by_cases h : i < n
      · go_wp2
        have hG0 : Kept (Grown 32 w1 (w1.alloc (.cells #[] 32)) (.slice (some ⟨w1.heap.size, 0, none⟩) 0 0) (rl i 0).length ((rl i 0).map (tlV R k))) := ⟨Grown.empty 32 w1⟩
        obtain ⟨V0, hV0⟩ : ∃ V0, Value.slice (some ⟨w1.heap.size, 0, none⟩) 0 0 = V0 := ⟨_, rfl⟩
        rw [hV0] at hG0 ⊢
        generalize w1.alloc (.cells #[] 32) = w2 at hG0 ⊢
        clear hV0
        go_loopw [7, 8] (fun vm vk wr => ∃ (r : Nat), vk = .int .i64 (r : Int) ∧ r ≤ n ∧ Kept (Grown 32 w1 wr vm (rl i r).length ((rl i r).map (tlV R k)))) (fun _ v _ => ((n : Int) - intOf v).toNat)
        case atStart => exact ⟨0, rfl, by omega, hG0⟩
        case round =>
          clear hG0
          obtain ⟨r, rfl, hr, hG⟩ := hrel
          obtain ⟨w3, rfl⟩ : ∃ x, x = wr := ⟨wr, rfl⟩
          have hB3 := Below.next kB1.out hG.out.below
          by_cases h5 : r < n
          · by_cases h6 : r = i
            · have hbe : (((r : Nat) : Int) != (i : Int)) = false := by simp [h6]
              have hG2 : Kept (Grown 32 w1 w3 u7 (rl i (r + 1)).length ((rl i (r + 1)).map (tlV R k))) := ⟨by rw [rl, if_pos h6]; exact hG.out⟩
              clear hG h6
              go_wp2
              go_roundw
              case rel => exact ⟨r + 1, by go_num, by omega, hG2⟩
              case measure => first | (simp [intOf]; omega) | (simp [intOf]; done)
            · have hbe : (((r : Nat) : Int) != (i : Int)) = true := by simp; omega
              obtain ⟨hb1, hc1, l, hlr, hll, hcp, hL⟩ := kR.out r h5
              have hc1' : w3.cell? ⟨mb, mo + r, none⟩ = some (.slice (some ⟨(R r).1, (R r).2.1, none⟩) n (R r).2.2) := by rw [hB3.cell (p := ⟨mb, mo + r, none⟩) hb1]; exact hc1
              have hb1' : mb < w3.heap.size := by have := hB3.size; omega
              have hlen : (rl i (r + 1)).length = (rl i r).length + 1 := by rw [rl, if_neg h6, List.length_append]; rfl
              have hrl6 : (rl i r).length ≤ 64 := by rw [rl_len]; split <;> omega
              have kE : Kept ((rl i (r + 1)).map (tlV R k) = (rl i r).map (tlV R k) ++ [.slice (some ⟨(R r).1, if (R r).2.2 = 1 then (R r).2.1 else (R r).2.1 + 1, none⟩) (n - 1) ((R r).2.2 - 1)]) := ⟨by
                rw [rl, if_neg h6, List.map_append, List.map_cons, List.map_nil, tlV, show n - 1 = k by have := kn.out; omega]⟩
              have klen := (⟨hlen⟩ : Kept _)
              generalize (R r).1 = rb at *
              generalize hrc : (R r).2.2 = rc at *
              generalize (R r).2.1 = ro at *
              have h7 : ¬ rc = 1 := fun e => by omega
              rw [if_neg h7] at kE
              clear hlr hll hc1 hL hb1 hrc h6 hB3 hlen
              go_wp2_with (first | (at_builtin; refine Stop.out ?_))
              refine ⟨?_⟩
              refine wpList_push (W := w1) 28 32 (.slice none 0 0) 24 Try.underlying28 (by kernel_rfl) rfl (by decide) rfl _ _ rfl _ _ _ (hG.out.box _) rfl (.slice (some ⟨rb, ro + 1, none⟩) (n - 1) (rc - 1)) rfl _ rfl (by rw [World.cell?_alloc_new]; rfl) (by omega) ?_
              intro v2 w4 hG2
              have hG3 : Kept (Grown 32 w1 w4 v2 (rl i (r + 1)).length ((rl i (r + 1)).map (tlV R k))) := ⟨by rw [kE.out, klen.out]; exact hG2⟩
              clear hG hG2
              go_wp2
              go_roundw
              case rel => exact ⟨r + 1, by go_num, by omega, hG3⟩
              case measure => first | (simp [intOf]; omega) | (simp [intOf]; done)
          · have hrn : r = n := by omega
            have hrl := rl_len i n
            rw [if_pos h] at hrl
            have hG2 := hG.out
            rw [hrn, hrl, show n - 1 = k by have := kn.out; omega] at hG2
            obtain ⟨um, cm, rfl, _⟩ := hG2.form
            obtain ⟨hMc, hmrow⟩ := mc_minor (ls := ls) kn.out.symm kl.out hk h (fun r hr => by
              obtain ⟨_, _, l, hlr, hll, hcp, hL⟩ := kR.out r hr
              exact ⟨l, hlr, hll, hcp, hL.below (Nat.le_refl _) hB3⟩) hG2
            have kMc := (⟨hMc⟩ : Kept _)
            have kB3 := (⟨hB3⟩ : Kept _)
            have krec : Kept (∀ w', Below w3.heap.size w3 w' → Calls Try.prog 37 #[.int .u64 p, .slice um k cm] w' (fun e w'' => e = .returned (.int .u64 (rdt p k (mnr (lf ls) i))) ∧ Below w'.heap.size w' w'')) := ⟨fun w' hw => by
              have := kih.out um cm (mls ls i n) w' (kMc.out.below hw) (by rw [mls_len ls h]; have := kn.out; omega) hmrow
              rw [rdt_ext p k (lf (mls ls i n)) (mnr (lf ls) i) (fun r c hr _ => mls_lf ls h (by have := kn.out; omega))] at this
              exact this⟩
            obtain ⟨hb1, hc1, l, hlr, hll, hcp, hL⟩ := kR.out i h
            obtain ⟨x, hx0⟩ : ∃ x, l[0]? = some x := ⟨l[0], List.getElem?_eq_getElem (by omega)⟩
            obtain ⟨xb, xo, e5, hxb, hxc⟩ := hL.mem (fun e => by subst e; simp at hll; omega)
            injection e5 with e5; injection e5 with e5 e6
            have hxc0 := hxc 0 x hx0
            rw [← e5, ← e6, Nat.add_zero] at hxc0
            rw [← e5] at hxb
            have hUx := hL.all x (List.mem_of_getElem? hx0)
            have kx : Kept (lf ls i 0 = x) := ⟨by rw [lf, List.getD, List.getD, hlr]; simp [hx0]⟩
            have hS : Kept (∀ w', Below w3.heap.size w3 w' → w'.cell? ⟨mb, mo + i, none⟩ = some (.slice (some ⟨(R i).1, (R i).2.1, none⟩) n (R i).2.2) ∧ w'.cell? ⟨(R i).1, (R i).2.1, none⟩ = some (.int .u64 x)) := ⟨fun w' hw => by
              have h2 := Below.next kB3.out hw
              exact ⟨by rw [h2.cell (p := ⟨mb, mo + i, none⟩) hb1]; exact hc1, by rw [h2.cell (p := ⟨(R i).1, (R i).2.1, none⟩) hxb]; exact hxc0⟩⟩
            have hrd := rdt_lt hv k (mnr (lf ls) i)
            have kTn : Kept (fsm p (fun i => tmS p i (fmul p (lf ls i 0) (rdt p k (mnr (lf ls) i)))) (i + 1) = fadd p s (tmS p i (fmul p x (rdt p k (mnr (lf ls) i))))) := ⟨by rw [fsm, ← hsS.out, kx.out]⟩
            have hsU : U s := by rw [hsS.out]; have := fsm_lt hv (fun i => tmS p i (fmul p (lf ls i 0) (rdt p k (mnr (lf ls) i)))) i; exact ⟨this.1, by omega⟩
            generalize rdt p k (mnr (lf ls) i) = d at *
            have cmul : Kept (∀ w, Calls Try.prog 43 #[.int .u64 p, .int .u64 x, .int .u64 d] w (Gives (.int .u64 (fmul p x d)) w)) := ⟨fun w => rmul_c p x d w hUx ⟨hrd.1, by omega⟩⟩
            have hfU : U (fmul p x d) := ⟨(fmul_lt hv).1, by have := (fmul_lt (a := x) (b := d) hv).2; omega⟩
            generalize fmul p x d = y at *
            have cneg : Kept (∀ w, Calls Try.prog 69 #[.int .u64 p, .int .u64 y] w (Gives (.int .u64 (fneg p y)) w)) := ⟨fun w => rneg_c p y w hfU⟩
            have htU : U (tmS p i y) := by
              unfold tmS
              split
              · have := fneg_lt (a := y) hv; exact ⟨this.1, by omega⟩
              · exact hfU
            have cadd : Kept (∀ w, Calls Try.prog 72 #[.int .u64 p, .int .u64 s, .int .u64 (tmS p i y)] w (Gives (.int .u64 (fadd p s (tmS p i y))) w)) := ⟨fun w => radd_c p s _ w hsU htU⟩
            generalize hb4 : (R i).1 = rb at *
            generalize hb5 : (R i).2.1 = ro at *
            generalize hb6 : (R i).2.2 = rc at *
            have kw3 : Kept (Below w0.heap.size w0 w3) := ⟨Below.next hB.out hG.out.below⟩
            clear hG hG2 hMc hmrow hB3 hc1 hlr hll hcp hL hx0 hxc hxc0 hUx hrd hsU hfU htU hb4 hb5 hb6 e5 e6 hB hsS hxb hb1 hrl
            have hn0 : 0 < n := by omega
            go_wp2
            refine wp_region_noPanic ?_
            refine wp_region_held_drew (S := (fun w' => w'.cell? ⟨mb, mo + i, none⟩ = some (.slice (some ⟨rb, ro, none⟩) n rc) ∧ w'.cell? ⟨rb, ro, none⟩ = some (.int .u64 x))) (by kernel_rfl) (hS.out _ (by repeat (first | exact Below.refl _ _ | refine Below.later ?_ _ | refine Below.box ?_ _ | refine Below.drew ?_ | refine Below.put ?_ (by dsimp only; omega) _))) (fun hHeld => ?_)
            refine wpAnyH_take (i := 0) (oi := ?o0q1) (v := ?v0q1) ?hi0q1 (by kernel_rfl) (by kernel_rfl) (by kernel_rfl) (fun _ _ _ h => h) (Or.inl ⟨?hg0q1, ?hy0q1⟩) (by assumption) ?rest0q1
            case hi0q1 => rfl
            case hg0q1 => rfl
            case' hy0q1 =>
              dsimp only [List.getElem?_toArray, List.getElem?_cons_succ, List.getElem?_cons_zero, List.getElem_cons_succ, List.getElem_cons_zero, List.getElem_toArray]
              intro w hSw
              try dsimp only at hSw
              go_simp
              try with_reducible rfl
            case' rest0q1 =>
              dsimp only [List.getElem?_toArray, List.getElem?_cons_succ, List.getElem?_cons_zero, List.getElem_cons_succ, List.getElem_cons_zero, List.getElem_toArray]
              try simp only [Act.put, List.setIfInBounds_toArray, List.set_cons_zero, List.set_cons_succ]
            refine wpAnyH_take (i := 1) (oi := ?o1q2) (v := ?v1q2) ?hi1q2 (by kernel_rfl) (by kernel_rfl) (by kernel_rfl) (fun _ _ _ h => h) (Or.inl ⟨?hg1q2, ?hy1q2⟩) (by assumption) ?rest1q2
            case hi1q2 => rfl
            case hg1q2 => rfl
            case' hy1q2 =>
              dsimp only [List.getElem?_toArray, List.getElem?_cons_succ, List.getElem?_cons_zero, List.getElem_cons_succ, List.getElem_cons_zero, List.getElem_toArray]
              intro w hSw
              try dsimp only at hSw
              go_simp
              try with_reducible rfl
            case' rest1q2 =>
              dsimp only [List.getElem?_toArray, List.getElem?_cons_succ, List.getElem?_cons_zero, List.getElem_cons_succ, List.getElem_cons_zero, List.getElem_toArray]
              try simp only [Act.put, List.setIfInBounds_toArray, List.set_cons_zero, List.set_cons_succ]
            refine wpAnyH_take (i := 2) (oi := ?o2q3) (v := ?v2q3) ?hi2q3 (by kernel_rfl) (by kernel_rfl) (by kernel_rfl) (fun _ _ _ h => h) (Or.inl ⟨?hg2q3, ?hy2q3⟩) (by assumption) ?rest2q3
            case hi2q3 => rfl
            case hg2q3 => rfl
            case' hy2q3 =>
              dsimp only [List.getElem?_toArray, List.getElem?_cons_succ, List.getElem?_cons_zero, List.getElem_cons_succ, List.getElem_cons_zero, List.getElem_toArray]
              intro w hSw
              try dsimp only at hSw
              go_simp
              try with_reducible rfl
            case' rest2q3 =>
              dsimp only [List.getElem?_toArray, List.getElem?_cons_succ, List.getElem?_cons_zero, List.getElem_cons_succ, List.getElem_cons_zero, List.getElem_toArray]
              try simp only [Act.put, List.setIfInBounds_toArray, List.set_cons_zero, List.set_cons_succ]
            refine wpAnyH_take (i := 3) (oi := ?o3q4) (v := ?v3q4) ?hi3q4 (by kernel_rfl) (by kernel_rfl) (by kernel_rfl) (fun _ _ _ h => h) (Or.inl ⟨?hg3q4, ?hy3q4⟩) (by assumption) ?rest3q4
            case hi3q4 => rfl
            case hg3q4 => rfl
            case' hy3q4 =>
              dsimp only [List.getElem?_toArray, List.getElem?_cons_succ, List.getElem?_cons_zero, List.getElem_cons_succ, List.getElem_cons_zero, List.getElem_toArray]
              intro w hSw
              try dsimp only at hSw
              go_simp
              try with_reducible rfl
            case' rest3q4 =>
              dsimp only [List.getElem?_toArray, List.getElem?_cons_succ, List.getElem?_cons_zero, List.getElem_cons_succ, List.getElem_cons_zero, List.getElem_toArray]
              try simp only [Act.put, List.setIfInBounds_toArray, List.set_cons_zero, List.set_cons_succ]
            refine wpAnyH_take (i := 4) (oi := ?o4q5) (v := ?v4q5) ?hi4q5 (by kernel_rfl) (by kernel_rfl) (by kernel_rfl) (fun _ _ _ h => h) (Or.inl ⟨?hg4q5, ?hy4q5⟩) (by assumption) ?rest4q5
            case hi4q5 => rfl
            case hg4q5 => rfl
            case' hy4q5 =>
              dsimp only [List.getElem?_toArray, List.getElem?_cons_succ, List.getElem?_cons_zero, List.getElem_cons_succ, List.getElem_cons_zero, List.getElem_toArray]
              intro w hSw
              try dsimp only at hSw
              go_simp
              try with_reducible rfl
            case' rest4q5 =>
              dsimp only [List.getElem?_toArray, List.getElem?_cons_succ, List.getElem?_cons_zero, List.getElem_cons_succ, List.getElem_cons_zero, List.getElem_toArray]
              try simp only [Act.put, List.setIfInBounds_toArray, List.set_cons_zero, List.set_cons_succ]
            refine wpAnyH_take (i := 5) (oi := ?o5q6) (v := ?v5q6) ?hi5q6 (by kernel_rfl) (by kernel_rfl) (by kernel_rfl) (fun _ _ _ h => h) (Or.inl ⟨?hg5q6, ?hy5q6⟩) (by assumption) ?rest5q6
            case hi5q6 => rfl
            case hg5q6 => rfl
            case' hy5q6 =>
              dsimp only [List.getElem?_toArray, List.getElem?_cons_succ, List.getElem?_cons_zero, List.getElem_cons_succ, List.getElem_cons_zero, List.getElem_toArray]
              intro w hSw
              try dsimp only at hSw
              go_simp
              try with_reducible rfl
            case' rest5q6 =>
              dsimp only [List.getElem?_toArray, List.getElem?_cons_succ, List.getElem?_cons_zero, List.getElem_cons_succ, List.getElem_cons_zero, List.getElem_toArray]
              try simp only [Act.put, List.setIfInBounds_toArray, List.set_cons_zero, List.set_cons_succ]
            refine wpAnyH_take (i := 6) (oi := ?o6q7) (v := ?v6q7) ?hi6q7 (by kernel_rfl) (by kernel_rfl) (by kernel_rfl) (fun _ _ _ h => h) (Or.inl ⟨?hg6q7, ?hy6q7⟩) (by assumption) ?rest6q7
            case hi6q7 => rfl
            case hg6q7 => rfl
            case' hy6q7 =>
              dsimp only [List.getElem?_toArray, List.getElem?_cons_succ, List.getElem?_cons_zero, List.getElem_cons_succ, List.getElem_cons_zero, List.getElem_toArray]
              intro w hSw
              try dsimp only at hSw
              go_simp
              try with_reducible rfl
            case' rest6q7 =>
              dsimp only [List.getElem?_toArray, List.getElem?_cons_succ, List.getElem?_cons_zero, List.getElem_cons_succ, List.getElem_cons_zero, List.getElem_toArray]
              try simp only [Act.put, List.setIfInBounds_toArray, List.set_cons_zero, List.set_cons_succ]
            refine wpAnyH_take (i := 7) (oi := ?o7q8) (v := ?v7q8) ?hi7q8 (by kernel_rfl) (by kernel_rfl) (by kernel_rfl) (fun _ _ _ h => h) (Or.inl ⟨?hg7q8, ?hy7q8⟩) (by assumption) ?rest7q8
            case hi7q8 => rfl
            case hg7q8 => rfl
            case' hy7q8 =>
              dsimp only [List.getElem?_toArray, List.getElem?_cons_succ, List.getElem?_cons_zero, List.getElem_cons_succ, List.getElem_cons_zero, List.getElem_toArray]
              intro w hSw
              try dsimp only at hSw
              go_simp
              try with_reducible rfl
            case' rest7q8 =>
              dsimp only [List.getElem?_toArray, List.getElem?_cons_succ, List.getElem?_cons_zero, List.getElem_cons_succ, List.getElem_cons_zero, List.getElem_toArray]
              try simp only [Act.put, List.setIfInBounds_toArray, List.set_cons_zero, List.set_cons_succ]
            refine wpAnyH_take (i := 8) (oi := ?o8q9) (v := ?v8q9) ?hi8q9 (by kernel_rfl) (by kernel_rfl) (by kernel_rfl) (fun _ _ _ h => h) (Or.inl ⟨?hg8q9, ?hy8q9⟩) (by assumption) ?rest8q9
            case hi8q9 => rfl
            case hg8q9 => rfl
            case' hy8q9 =>
              dsimp only [List.getElem?_toArray, List.getElem?_cons_succ, List.getElem?_cons_zero, List.getElem_cons_succ, List.getElem_cons_zero, List.getElem_toArray]
              intro w hSw
              try dsimp only at hSw
              go_simp
              try with_reducible rfl
            case' rest8q9 =>
              dsimp only [List.getElem?_toArray, List.getElem?_cons_succ, List.getElem?_cons_zero, List.getElem_cons_succ, List.getElem_cons_zero, List.getElem_toArray]
              try simp only [Act.put, List.setIfInBounds_toArray, List.set_cons_zero, List.set_cons_succ]
            refine wpAnyH_ready (rs := [9]) (by kernel_rfl) (by simp) ?_
            refine AllReadyH.cons rfl (fun K hK => ?_) AllReadyH.nil
            dsimp only [List.getElem?_toArray, List.getElem?_cons_succ, List.getElem?_cons_zero, List.getElem_cons_succ, List.getElem_cons_zero, List.getElem_toArray]
            go_simp
            go_at_call 37
            refine (krec.out _ (by repeat (first | exact Below.refl _ _ | refine Below.later ?_ _ | refine Below.box ?_ _ | refine Below.drew ?_ | refine Below.put ?_ (by dsimp only; omega) _))).mono ?_
            rintro e w4 ⟨rfl, hB4⟩
            replace hB4 : Below w3.heap.size w3 w4 := Below.next (by repeat (first | exact Below.refl _ _ | refine Below.later ?_ _ | refine Below.box ?_ _ | refine Below.drew ?_ | refine Below.put ?_ (by dsimp only; omega) _)) hB4
            go_wp2
            refine hK.out _ _ ?_ (fun hHeld => ?_)
            · exact hS.out _ (hB4)
            clear hK K
            try simp only [Act.put, List.setIfInBounds_toArray, List.set_cons_zero, List.set_cons_succ]
            refine wpAnyH_ready (rs := [10]) (by kernel_rfl) (by simp) ?_
            refine AllReadyH.cons rfl (fun K hK => ?_) AllReadyH.nil
            dsimp only [List.getElem?_toArray, List.getElem?_cons_succ, List.getElem?_cons_zero, List.getElem_cons_succ, List.getElem_cons_zero, List.getElem_toArray]
            go_simp
            go_at_call 43
            refine use (cmul.out _) ?_
            intro pw4
            go_wp2
            refine hK.out _ _ ?_ (fun hHeld => ?_)
            · exact hS.out _ (Below.later hB4 _)
            clear hK K
            try simp only [Act.put, List.setIfInBounds_toArray, List.set_cons_zero, List.set_cons_succ]
            refine wpAnyH_take (i := 11) (oi := ?o11q10) (v := ?v11q10) ?hi11q10 (by kernel_rfl) (by kernel_rfl) (by kernel_rfl) (fun _ _ _ h => h) (Or.inl ⟨?hg11q10, ?hy11q10⟩) (by assumption) ?rest11q10
            case hi11q10 => rfl
            case hg11q10 => rfl
            case' hy11q10 =>
              dsimp only [List.getElem?_toArray, List.getElem?_cons_succ, List.getElem?_cons_zero, List.getElem_cons_succ, List.getElem_cons_zero, List.getElem_toArray]
              intro w hSw
              try dsimp only at hSw
              go_simp
              try with_reducible rfl
            case' rest11q10 =>
              dsimp only [List.getElem?_toArray, List.getElem?_cons_succ, List.getElem?_cons_zero, List.getElem_cons_succ, List.getElem_cons_zero, List.getElem_toArray]
              try simp only [Act.put, List.setIfInBounds_toArray, List.set_cons_zero, List.set_cons_succ]
            refine wpAnyH_done (by kernel_rfl) ?_ _
            refine NoPanic.normal ?_
            have kB5 : Kept (Below w3.heap.size w3 (after w4 pw4)) := ⟨Below.later hB4 _⟩
            generalize after w4 pw4 = w5 at kB5 ⊢
            clear hHeld hS hB4 krec cmul
            by_cases hodd : i % 2 = 1
            · have ht1 : (((i : Nat) : Int).tmod 2 == 1) = true := by rw [Int.tmod_eq_emod_of_nonneg (by omega)]; simp; omega
              have ht2 : (((i : Nat) : Int) % 2 == 1) = true := by simp; omega
              have kt : Kept (tmS p i y = fneg p y) := ⟨by rw [tmS, if_pos hodd]⟩
              rw [kt.out] at cadd kTn
              generalize fneg p y = z at *
              generalize hfa : fadd p s z = s2 at *
              clear hodd kt
              go_wp2_with (first | (go_at_call 69; (first | with_reducible refine use1 (cneg.out _) ?_ | with_reducible refine use (cneg.out _) ?_); intro pw) | (go_at_call 72; (first | with_reducible refine use1 (cadd.out _) ?_ | with_reducible refine use (cadd.out _) ?_); intro pw))
              go_roundw
              case rel => exact ⟨i + 1, s2, by go_num, rfl, by omega, ⟨kTn.out.symm⟩, ⟨Below.next kw3.out (Below.next kB5.out (by repeat (first | exact Below.refl _ _ | refine Below.later ?_ _ | refine Below.box ?_ _ | refine Below.drew ?_ | refine Below.put ?_ (by dsimp only; omega) _)))⟩⟩
              case measure => first | (simp [intOf]; omega) | (simp [intOf]; done)
            · have ht1 : (((i : Nat) : Int).tmod 2 == 1) = false := by rw [Int.tmod_eq_emod_of_nonneg (by omega)]; simp; omega
              have ht2 : (((i : Nat) : Int) % 2 == 1) = false := by simp; omega
              have kt : Kept (tmS p i y = y) := ⟨by rw [tmS, if_neg hodd]⟩
              rw [kt.out] at cadd kTn
              generalize hfa : fadd p s y = s2 at *
              clear hodd kt
              go_wp2_with (first | (go_at_call 69; (first | with_reducible refine use1 (cneg.out _) ?_ | with_reducible refine use (cneg.out _) ?_); intro pw) | (go_at_call 72; (first | with_reducible refine use1 (cadd.out _) ?_ | with_reducible refine use (cadd.out _) ?_); intro pw))
              go_roundw
              case rel => exact ⟨i + 1, s2, by go_num, rfl, by omega, ⟨kTn.out.symm⟩, ⟨Below.next kw3.out (Below.next kB5.out (by repeat (first | exact Below.refl _ _ | refine Below.later ?_ _ | refine Below.box ?_ _ | refine Below.drew ?_ | refine Below.put ?_ (by dsimp only; omega) _)))⟩⟩
              case measure => first | (simp [intOf]; omega) | (simp [intOf]; done)
      · have hin : i = n := by omega
        have hs2 : Kept (s = DD) := ⟨by rw [hsS.out, hin, kT.out]⟩
        clear hsS
        go_wp2
        go_ret
        exact ⟨by rw [hs2.out]; rfl, kB1.out⟩
end Go.Proofs.Ytjnlnbkdnjainaa
