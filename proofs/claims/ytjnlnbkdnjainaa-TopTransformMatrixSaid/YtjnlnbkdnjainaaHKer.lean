/- linear.Kernel. -/
import Derived.Test.YtjnlnbkdnjainaaHLinB
import Derived.Test.YtjnlnbkdnjainaaHCpm
import Derived.Test.YtjnlnbkdnjainaaQE
namespace Go.Proofs.Ytjnlnbkdnjainaa
open Go.RowKit Go.Sort

set_option maxRecDepth 100000
theorem Pfx.ls {w : World} {b : Nat} {t : TypeId} {n : Nat} {g : Nat → Int} (h : Pfx w b t n (fun i => .int .u64 (g i))) (hn : n ≤ 1000000) (hU : ∀ i, i < n → U (g i)) : Ls w (some ⟨b, 0, none⟩) ((List.range n).map g) := by
  obtain ⟨C, g', hr, hC, hg⟩ := h
  refine ⟨by simp; omega, fun x hx => ?_, fun _ => ⟨b, 0, rfl, hr.lt, fun i x hx => ?_⟩⟩
  · obtain ⟨i, hi, e⟩ := List.mem_map.1 hx
    rw [← e]; exact hU i (List.mem_range.1 hi)
  · rw [List.getElem?_map] at hx
    obtain ⟨j, hj, e⟩ := Option.map_eq_some_iff.1 hx
    have hj2 := List.getElem?_eq_some_iff.1 hj
    have hi : i < n := by have := hj2.1; simpa using this
    have : j = i := by rw [← hj2.2]; simp
    subst this
    rw [Nat.zero_add, hr.cell (by omega), hg j hi]
    dsimp only; rw [e]
theorem unit_pfx (w : World) (c m : Nat) (t : TypeId) : Pfx (w.alloc (.cells ((madeCells #[.int .u64 0] m).setIfInBounds c (.int .u64 1)) t)) w.heap.size t m (fun j => .int .u64 (if j = c then 1 else 0)) :=
  Pfx.of_row ⟨_, Go.Deep.blk_alloc_new _ _, by simp [madeCells], fun j hj => by
    rw [Array.getElem?_setIfInBounds]
    by_cases e : c = j
    · subst e; simp [madeCells, hj]
    · simp [madeCells, hj, e, Nat.mod_one, show ¬ j = c from fun e2 => e e2.symm]⟩
theorem kernel_no (p : Int) (u : Option Addr) (c : Nat) (ls : List (List Int)) (w : World) (h1 : Mt w u ls) (hv : (vld p && vldM ls) = false) : Calls Try.prog 32 #[.agg #[.int .u64 p], .slice u ls.length c] w (Gives (.slice none 0 0) w) := by
  have hs := h1.small
  have cf : Kept (∀ w', Below w.heap.size w w' → Calls Try.prog 54 #[.agg #[.int .u64 p], .slice u ls.length c] w' (Gives (.bool false) w')) := ⟨fun w' hw => by have := fits_lc p u c ls w' (h1.below (Nat.le_refl _) hw); rw [hv] at this; exact this⟩
  generalize ls.length = n at *
  clear h1 hv
  go_enter Try.func32, Try.ntmps32
  go_wp2_with (first | (go_at_call 54; (first | with_reducible refine use1 (cf.out _ (by repeat (first | exact Below.refl _ _ | refine Below.later ?_ _ | refine Below.box ?_ _ | refine Below.drew ?_ | refine Below.put ?_ (by dsimp only; omega) _))) ?_ | with_reducible refine use (cf.out _ (by repeat (first | exact Below.refl _ _ | refine Below.later ?_ _ | refine Below.box ?_ _ | refine Below.drew ?_ | refine Below.put ?_ (by dsimp only; omega) _))) ?_); intro pw))
  go_ret
  exact ⟨rfl, (by repeat (first | exact Below.refl _ _ | refine Below.later ?_ _ | refine Below.box ?_ _ | refine Below.drew ?_ | refine Below.put ?_ (by dsimp only; omega) _))⟩
set_option maxHeartbeats 8000000 in
theorem kernel_lc (p : Int) (n m : Nat) (u : Option Addr) (c : Nat) (ls : List (List Int)) (w : World) (h1 : Mt w u ls) (hv : vld p = true) (hM : vldM ls = true) (hn : ls.length = n) (hm : colsN ls = m) : Calls Try.prog 32 #[.agg #[.int .u64 p], .slice u n c] w (GivesC (kerL p m (elR p n m (elF p ls)).f (elR p n m (elF p ls)).piv) w) := by
  have hp := vld_pos hv
  obtain ⟨g1, g2, g3⟩ := vldM_row hM
  have hs := h1.small
  have cf : Kept (∀ w', Below w.heap.size w w' → Calls Try.prog 54 #[.agg #[.int .u64 p], .slice u n c] w' (Gives (.bool true) w')) := ⟨fun w' hw => by have := fits_lc p u c ls w' (h1.below (Nat.le_refl _) hw); rw [hv, hM, hn] at this; exact this⟩
  have cc : Kept (∀ w', Below w.heap.size w w' → Calls Try.prog 55 #[.slice u n c] w' (Gives (.int .i64 (m : Int)) w')) := ⟨fun w' hw => by have := columns_c u c ls w' (h1.below (Nat.le_refl _) hw); rw [hn, hm] at this; exact this⟩
  have cr : Kept (∀ w', Below w.heap.size w w' → Calls Try.prog 44 #[.agg #[.int .u64 p], .slice u n c] w' (GivesRd n m (elR p n m (elF p ls)) w')) := ⟨fun w' hw => reduce_lc p n m u c ls w' (h1.below (Nat.le_refl _) hw) hv hM hn hm⟩
  have hmk := run_make_row' (P := Try.prog) 32 22 (.int .u64 0) 8 Try.underlying32 (by kernel_rfl) rfl .i64 .i64 m (by omega) (by omega)
  have hok := elR_ok (n := n) (m := m) (f := elF p ls) hv (fun i j _ _ => elF_lt (by omega) i j) m
  have kinc := (⟨elR_inc p n (elF p ls) m⟩ : Kept _)
  have hn6 : n ≤ 64 := by omega
  have hm6 : m ≤ 64 := by omega
  generalize elR p n m (elF p ls) = es at *
  obtain ⟨f, piv, fac⟩ := es
  simp only at kinc ⊢
  obtain ⟨np, hnp⟩ : ∃ np, piv.length = np := ⟨_, rfl⟩
  have knp := (⟨hnp⟩ : Kept _)
  have hnpn : np ≤ n := by rw [← hnp]; exact hok.len
  have kel : Kept (∀ i j, i < n → j < m → 0 ≤ f i j ∧ f i j < p) := ⟨hok.el⟩
  clear h1 hM hn hm g1 g2 g3 hok hnp hs
  obtain ⟨KL, hKL⟩ : ∃ KL, kerL p m f piv = KL := ⟨_, rfl⟩
  have kKL := (⟨hKL⟩ : Kept _)
  rw [hKL]
  clear hKL
  go_enter Try.func32, Try.ntmps32
  go_wp2_with (first | (go_at_call 54; (first | with_reducible refine use1 (cf.out _ (by repeat (first | exact Below.refl _ _ | refine Below.later ?_ _ | refine Below.box ?_ _ | refine Below.drew ?_ | refine Below.put ?_ (by dsimp only; omega) _))) ?_ | with_reducible refine use (cf.out _ (by repeat (first | exact Below.refl _ _ | refine Below.later ?_ _ | refine Below.box ?_ _ | refine Below.drew ?_ | refine Below.put ?_ (by dsimp only; omega) _))) ?_); intro pw) | (go_at_call 44; refine Stop.out ?_))
  refine ⟨?_⟩
  refine call_genE (fun W' => Below w.heap.size w W' ∧ W'.cell? ⟨w.heap.size, 0, none⟩ = some (.int .u64 p) ∧ w.heap.size < W'.heap.size) ?fx ?_
  case fx => exact ⟨(by repeat (first | exact Below.refl _ _ | refine Below.later ?_ _ | refine Below.box ?_ _ | refine Below.drew ?_ | refine Below.put ?_ (by dsimp only; omega) _)), by simp [go_sem], by simp⟩
  rintro W1 ⟨hB1, hb1, hl1⟩
  refine (cr.out W1 hB1).mono ?_
  rintro e w2 ⟨B, bf0, cf0, u5, c5, rfl, hMx, hOw⟩
  simp only at hMx hOw ⊢
  have kB1 := (⟨hB1⟩ : Kept _)
  have kM := (⟨hMx⟩ : Kept _)
  have kbx : Kept (∀ w', Below w2.heap.size w2 w' → w'.cell? ⟨w.heap.size, 0, none⟩ = some (.int .u64 p) ∧ w.heap.size < w'.heap.size) := ⟨fun w' hw => by
    have h2 : Below W1.heap.size W1 w' := Below.next hMx.below hw
    exact ⟨by rw [h2.cell (p := ⟨w.heap.size, 0, none⟩) hl1]; exact hb1, by have := h2.size; omega⟩⟩
  have kpv : Kept (∀ w', Below w2.heap.size w2 w' → ∀ k, k < np → ∃ b, u5 = some ⟨b, 0, none⟩ ∧ b < w'.heap.size ∧ w'.cell? ⟨b, k, none⟩ = some (.int .i64 ((piv.getD k 0 : Nat) : Int))) := ⟨fun w' hw k hk => by
    have hG : Grown 3 W1 w2 (.slice u5 piv.length c5) piv.length (intsV piv) := ⟨hMx.below, hOw⟩
    obtain ⟨u', c', e, h1, h2, _⟩ := hG.form
    injection e with e1 e2 e3
    subst e1
    cases u5 with
    | none => have := (h1 rfl).1; rw [knp.out] at this; omega
    | some a =>
      obtain ⟨b, rfl, _, hlt, hc⟩ := h2 a rfl
      refine ⟨b, rfl, by have := hw.size; omega, ?_⟩
      rw [hw.cell (p := ⟨b, k, none⟩) hlt, hc k (.int .i64 ((piv.getD k 0 : Nat) : Int)) (by
        rw [intsV, List.getElem?_map, List.getElem?_eq_getElem (by rw [knp.out]; exact hk), List.getD, List.getElem?_eq_getElem (by rw [knp.out]; exact hk)]; rfl)]⟩
  have kB2 : Kept (Below w.heap.size w w2) := ⟨Below.next hB1 hMx.below⟩
  rw [knp.out]
  clear hB1 hb1 hl1 hMx hOw kB1 cr cf
  go_wp2_with (go_at_call 55; refine use (cc.out _ kB2.out) ?_; intro pwc; refine Stop.out ?_)
  refine ⟨?_⟩
  obtain ⟨w3, hw3⟩ : ∃ w3, w3 = after w2 pwc := ⟨_, rfl⟩
  have kB3 : Kept (Below w2.heap.size w2 w3) := ⟨by rw [hw3]; exact (by repeat (first | exact Below.refl _ _ | refine Below.later ?_ _ | refine Below.box ?_ _ | refine Below.drew ?_ | refine Below.put ?_ (by dsimp only; omega) _))⟩
  rw [← hw3]
  clear hw3
  have kfl : Kept (∀ c, c ≤ 64 → (frees piv c).length ≤ 64) := ⟨fun c hc => by have := frees_len piv c; omega⟩
  go_wp2
  go_loopw [7, 8, 25] (fun vo vx vc wr => ∃ (cl x : Nat) (bf cf : Nat → Nat), vx = .int .i64 (x : Int) ∧ vc = .int .i64 (cl : Int) ∧ cl ≤ m ∧ x ≤ np ∧ Kept (Nxt piv cl x) ∧ Kept (Cpy w3 wr vo (frees piv cl).length bf cf KL)) (fun _ _ v _ => ((m : Int) - intOf v).toNat)
  case atStart => exact ⟨0, 0, fun _ => 0, fun _ => 0, rfl, rfl, by omega, by omega, ⟨Nxt.zero piv⟩, ⟨⟨Below.refl _ _, World.ownsRow_nil _ _ _ _, fun k hk => absurd hk (by simp [frees]), fun k hk => absurd hk (by simp [frees])⟩⟩⟩
  case round =>
    obtain ⟨cl, x, bf, cf, rfl, rfl, hc, hx, hN, hR⟩ := hrel
    obtain ⟨w1, rfl⟩ : ∃ x, x = wr := ⟨wr, rfl⟩
    have kB4 : Kept (Below w2.heap.size w2 w1) := ⟨Below.next kB3.out hR.out.below⟩
    by_cases h : cl < m
    · by_cases hmem : cl ∈ piv
      · obtain ⟨hx1, hx2⟩ := (hN.out.mem kinc.out).1 hmem
        rw [knp.out] at hx1
        obtain ⟨b1, rfl, hb1, hc1⟩ := kpv.out w1 kB4.out x hx1
        rw [hx2] at hc1
        have kN2 : Kept (Nxt piv (cl + 1) (x + 1)) := ⟨hN.out.yes kinc.out hmem⟩
        have kR2 : Kept (Cpy w3 w1 u7 (frees piv (cl + 1)).length bf cf KL) := ⟨by rw [frees_next, if_pos hmem]; exact hR.out⟩
        clear hR hN hx2 hmem
        go_wp2
        go_roundw
        case rel => exact ⟨cl + 1, x + 1, bf, cf, by go_num, by go_num, by omega, by omega, kN2, kR2⟩
        case measure => first | (simp [intOf]; omega) | (simp [intOf]; done)
      · have hno := (not_congr (hN.out.mem kinc.out)).1 hmem
        rw [knp.out] at hno
        have kN2 : Kept (Nxt piv (cl + 1) x) := ⟨hN.out.no hmem⟩
        have hcu : Kept (∀ w', Below w1.heap.size w1 w' → Calls Try.prog 55 #[.slice u n c] w' (Gives (.int .i64 (m : Int)) w')) := ⟨fun w' hw => cc.out w' (Below.next kB2.out (Below.next kB4.out hw))⟩
        have kmem := (⟨hmem⟩ : Kept _)
        have hstop : x < np ∧ ((((piv.getD x 0 : Nat) : Int) == (cl : Int)) = false) ∨ ¬ x < np := by
          by_cases h5 : x < np
          · exact .inl ⟨h5, by have : piv.getD x 0 ≠ cl := fun e => hno ⟨h5, e⟩
                               simp only [beq_eq_false_iff_ne]; omega⟩
          · exact .inr h5
        clear hno hmem hN
        rcases hstop with ⟨h5, h6⟩ | h5
        · obtain ⟨b1, rfl, hb1, hc1⟩ := kpv.out w1 kB4.out x h5
          generalize ((piv.getD x 0 : Nat) : Int) = z at hc1 h6
          go_wp2_with (go_at_call 55; refine use (hcu.out _ (by repeat (first | exact Below.refl _ _ | refine Below.later ?_ _ | refine Below.box ?_ _ | refine Below.drew ?_ | refine Below.put ?_ (by dsimp only; omega) _))) ?_; intro pwc; refine Stop.out ?_)
          refine ⟨?_⟩
          clear hb1 hc1 h6 h5
          obtain ⟨w4, hw4⟩ : ∃ w4, w4 = after w1 pwc := ⟨_, rfl⟩
          have kR4 : Kept (Cpy w3 w4 u7 (frees piv cl).length bf cf KL) := ⟨by rw [hw4]; exact hR.out.keep (by repeat (first | exact Below.refl _ _ | refine Below.later ?_ _ | refine Below.box ?_ _ | refine Below.drew ?_ | refine Below.put ?_ (by dsimp only; omega) _))⟩
          rw [← hw4]
          clear hw4 hR kB4 hcu
          have kB5 : Kept (Below w2.heap.size w2 w4) := ⟨Below.next kB3.out kR4.out.below⟩
          have hmc : (madeCells #[Value.int .u64 0] m)[cl]? = some (.int .u64 0) := by simp [madeCells, h, Nat.mod_one]
          go_wp2
          clear hmc
          obtain ⟨V, hV⟩ : ∃ V, w4.heap.size = V := ⟨_, rfl⟩
          have hP0 : Kept (Pfx (w4.alloc (.cells ((madeCells #[.int .u64 0] m).setIfInBounds cl (.int .u64 1)) 22)) V 22 m (fun j => .int .u64 (kvf p f piv cl 0 j))) := ⟨by
            rw [← hV]
            exact unit_pfx w4 cl m _⟩
          have hBl0 : Kept (Below V w4 (w4.alloc (.cells ((madeCells #[.int .u64 0] m).setIfInBounds cl (.int .u64 1)) 22))) := ⟨by rw [← hV]; exact (by repeat (first | exact Below.refl _ _ | refine Below.later ?_ _ | refine Below.box ?_ _ | refine Below.drew ?_ | refine Below.put ?_ (by dsimp only; omega) _))⟩
          rw [hV]
          generalize w4.alloc (.cells ((madeCells #[.int .u64 0] m).setIfInBounds cl (.int .u64 1)) 22) = w5 at hP0 hBl0 ⊢
          go_loopw [50] (fun v wr => ∃ (k : Nat), v = .int .i64 (k : Int) ∧ k ≤ np ∧ Kept (Pfx wr V 22 m (fun j => .int .u64 (kvf p f piv cl k j))) ∧ Kept (Below V w4 wr)) (fun v _ => ((np : Int) - intOf v).toNat)
          case atStart => exact ⟨0, rfl, by omega, hP0, hBl0⟩
          case round =>
            clear hP0 hBl0
            obtain ⟨k, rfl, hk, hP, hBl⟩ := hrel
            obtain ⟨w1, rfl⟩ : ∃ x, x = wr := ⟨wr, rfl⟩
            have kB6 : Kept (Below w2.heap.size w2 w1) := ⟨Below.next kB5.out (by rw [hV]; exact hBl.out)⟩
            by_cases h5 : k < np
            · obtain ⟨b1, e5, hb1, hc1⟩ := kpv.out w1 kB6.out k h5
              (first | subst e5 | (injection e5 with e5; injection e5 with e5 _; subst e5))
              have hpl := kinc.out.lt k (by rw [knp.out]; exact h5)
              have hb2 := (kbx.out w1 kB6.out).1
              have hl2 := (kbx.out w1 kB6.out).2
              have hMx := kM.out.keep kB6.out
              obtain ⟨hcB, hfB, hlB, hlb⟩ := hMx.cells (show k < n by omega)
              obtain ⟨hcE, hfE⟩ := hMx.elem (show k < n by omega) h
              have hfU : U (f k cl) := ⟨(kel.out k cl (by omega) h).1, by have := (kel.out k cl (by omega) h).2; omega⟩
              have cng : Kept (∀ w, Calls Try.prog 68 #[.agg #[.int .u64 p], .int .u64 (f k cl)] w (Gives (.int .u64 (fneg p (f k cl))) w)) := ⟨fun w => neg_c p (f k cl) w hfU⟩
              have kz : Kept (∀ j, kvf p f piv cl (k + 1) j = if j = piv.getD k 0 then fneg p (f k cl) else kvf p f piv cl k j) := ⟨fun j => rfl⟩
              generalize fneg p (f k cl) = ng at *
              generalize f k cl = fkc at *
              generalize piv.getD k 0 = pk at *
              have hVc := hP.out.cell hpl
              have hVf := hP.out.frozen pk
              have hVl := hP.out.lt
              clear hMx hfU
              go_wp2
              first | refine region_tail1 (by kernel_rfl) (by kernel_rfl) (by kernel_rfl) ?_ | refine region_tail (by kernel_rfl) (by kernel_rfl) (by kernel_rfl) ?_
              simp only [initOf, lastOf]
              repeat (go_big_quiet_step (first | (go_at_call 68; with_reducible exact quiet (cng.out _))))
              refine wpQuiet_nil ?_
              intro _
              go_wp2
              go_roundw
              case rel => exact ⟨k + 1, by go_num, by omega, ⟨((hP.out.of_block (w' := _) (Below.block (show Below w1.heap.size w1 _ from (by repeat (first | exact Below.refl _ _ | refine Below.later ?_ _ | refine Below.box ?_ _ | refine Below.drew ?_ | refine Below.put ?_ (by dsimp only; omega) _))) _ hP.out.lt)).set pk (.int .u64 ng)).congr fun j _ => by
                rw [kz.out]; by_cases e : j = pk <;> simp [e]⟩, ⟨by have hb2 := hBl.out; rw [← hV] at hb2 ⊢; exact Below.put (Below.later hb2 _) (Nat.le_refl _) _⟩⟩
              case measure => first | (simp [intOf]; omega) | (simp [intOf]; done)
            · have hkn : k = piv.length := by rw [knp.out]; omega
              have hgd : Kept (KL.getD (frees piv cl).length [] = (List.range m).map (kvf p f piv cl k)) := ⟨by rw [← kKL.out, kerL_at p m f piv cl h kmem.out, kerR, hkn]⟩
              have kLs : Kept (Ls w1 (some ⟨V, 0, none⟩) ((List.range m).map (kvf p f piv cl k))) := ⟨hP.out.ls (by omega) (fun i _ => kvf_U p f piv cl k i)⟩
              have hVl : Kept (V < w1.heap.size) := ⟨hP.out.lt⟩
              have kR5 : Kept (Cpy w3 w1 u7 (frees piv cl).length bf cf KL) := ⟨kR4.out.keep (by rw [hV]; exact hBl.out)⟩
              have hap : Kept (u7.ownBlock ≠ some V) := ⟨fun e => by have := (kR4.out.own.lt _ e).2; omega⟩
              have hil := kfl.out cl (by omega)
              have kfn : Kept ((frees piv (cl + 1)).length = (frees piv cl).length + 1) := ⟨by rw [frees_next, if_neg kmem.out, List.length_append]; rfl⟩
              obtain ⟨i, hi⟩ : ∃ i, (frees piv cl).length = i := ⟨_, rfl⟩
              rw [hi] at hgd kR5 hil kfn
              clear hP hBl hi kR4 hkn
              go_wp2_with (first | (at_builtin; refine wpList_pushC rfl _ _ rfl _ (kR5.out.keep (by repeat (first | exact Below.refl _ _ | refine Below.later ?_ _ | refine Below.box ?_ _ | refine Below.drew ?_ | refine Below.put ?_ (by dsimp only; omega) _))) rfl _ rfl V m m (by first | simp | (rw [World.cell?_alloc_new]; rfl)) (by rw [hgd.out]; simp) (by rw [hgd.out]; exact kLs.out.below (Nat.le_refl _) (by repeat (first | exact Below.refl _ _ | refine Below.later ?_ _ | refine Below.box ?_ _ | refine Below.drew ?_ | refine Below.put ?_ (by dsimp only; omega) _))) (fun _ => by have := hVl.out; simp; omega) hap.out (by omega) ?_; intro v5 w5 hR5; refine Stop.out ?_))
              refine ⟨?_⟩
              have kR6 := (⟨hR5⟩ : Kept _)
              clear hR5 kR5
              go_wp2
              go_roundw
              case rel => exact ⟨cl + 1, x, _, _, by go_num, by go_num, by omega, by omega, kN2, by rw [kfn.out]; exact kR6⟩
              case measure => first | (simp [intOf]; omega) | (simp [intOf]; done)
        · go_wp2_with (go_at_call 55; refine use (hcu.out _ (by repeat (first | exact Below.refl _ _ | refine Below.later ?_ _ | refine Below.box ?_ _ | refine Below.drew ?_ | refine Below.put ?_ (by dsimp only; omega) _))) ?_; intro pwc; refine Stop.out ?_)
          refine ⟨?_⟩
          clear h5
          obtain ⟨w4, hw4⟩ : ∃ w4, w4 = after w1 pwc := ⟨_, rfl⟩
          have kR4 : Kept (Cpy w3 w4 u7 (frees piv cl).length bf cf KL) := ⟨by rw [hw4]; exact hR.out.keep (by repeat (first | exact Below.refl _ _ | refine Below.later ?_ _ | refine Below.box ?_ _ | refine Below.drew ?_ | refine Below.put ?_ (by dsimp only; omega) _))⟩
          rw [← hw4]
          clear hw4 hR kB4 hcu
          have kB5 : Kept (Below w2.heap.size w2 w4) := ⟨Below.next kB3.out kR4.out.below⟩
          have hmc : (madeCells #[Value.int .u64 0] m)[cl]? = some (.int .u64 0) := by simp [madeCells, h, Nat.mod_one]
          go_wp2
          clear hmc
          obtain ⟨V, hV⟩ : ∃ V, w4.heap.size = V := ⟨_, rfl⟩
          have hP0 : Kept (Pfx (w4.alloc (.cells ((madeCells #[.int .u64 0] m).setIfInBounds cl (.int .u64 1)) 22)) V 22 m (fun j => .int .u64 (kvf p f piv cl 0 j))) := ⟨by
            rw [← hV]
            exact unit_pfx w4 cl m _⟩
          have hBl0 : Kept (Below V w4 (w4.alloc (.cells ((madeCells #[.int .u64 0] m).setIfInBounds cl (.int .u64 1)) 22))) := ⟨by rw [← hV]; exact (by repeat (first | exact Below.refl _ _ | refine Below.later ?_ _ | refine Below.box ?_ _ | refine Below.drew ?_ | refine Below.put ?_ (by dsimp only; omega) _))⟩
          rw [hV]
          generalize w4.alloc (.cells ((madeCells #[.int .u64 0] m).setIfInBounds cl (.int .u64 1)) 22) = w5 at hP0 hBl0 ⊢
          go_loopw [50] (fun v wr => ∃ (k : Nat), v = .int .i64 (k : Int) ∧ k ≤ np ∧ Kept (Pfx wr V 22 m (fun j => .int .u64 (kvf p f piv cl k j))) ∧ Kept (Below V w4 wr)) (fun v _ => ((np : Int) - intOf v).toNat)
          case atStart => exact ⟨0, rfl, by omega, hP0, hBl0⟩
          case round =>
            clear hP0 hBl0
            obtain ⟨k, rfl, hk, hP, hBl⟩ := hrel
            obtain ⟨w1, rfl⟩ : ∃ x, x = wr := ⟨wr, rfl⟩
            have kB6 : Kept (Below w2.heap.size w2 w1) := ⟨Below.next kB5.out (by rw [hV]; exact hBl.out)⟩
            by_cases h5 : k < np
            · obtain ⟨b1, e5, hb1, hc1⟩ := kpv.out w1 kB6.out k h5
              (first | subst e5 | (injection e5 with e5; injection e5 with e5 _; subst e5))
              have hpl := kinc.out.lt k (by rw [knp.out]; exact h5)
              have hb2 := (kbx.out w1 kB6.out).1
              have hl2 := (kbx.out w1 kB6.out).2
              have hMx := kM.out.keep kB6.out
              obtain ⟨hcB, hfB, hlB, hlb⟩ := hMx.cells (show k < n by omega)
              obtain ⟨hcE, hfE⟩ := hMx.elem (show k < n by omega) h
              have hfU : U (f k cl) := ⟨(kel.out k cl (by omega) h).1, by have := (kel.out k cl (by omega) h).2; omega⟩
              have cng : Kept (∀ w, Calls Try.prog 68 #[.agg #[.int .u64 p], .int .u64 (f k cl)] w (Gives (.int .u64 (fneg p (f k cl))) w)) := ⟨fun w => neg_c p (f k cl) w hfU⟩
              have kz : Kept (∀ j, kvf p f piv cl (k + 1) j = if j = piv.getD k 0 then fneg p (f k cl) else kvf p f piv cl k j) := ⟨fun j => rfl⟩
              generalize fneg p (f k cl) = ng at *
              generalize f k cl = fkc at *
              generalize piv.getD k 0 = pk at *
              have hVc := hP.out.cell hpl
              have hVf := hP.out.frozen pk
              have hVl := hP.out.lt
              clear hMx hfU
              go_wp2
              first | refine region_tail1 (by kernel_rfl) (by kernel_rfl) (by kernel_rfl) ?_ | refine region_tail (by kernel_rfl) (by kernel_rfl) (by kernel_rfl) ?_
              simp only [initOf, lastOf]
              repeat (go_big_quiet_step (first | (go_at_call 68; with_reducible exact quiet (cng.out _))))
              refine wpQuiet_nil ?_
              intro _
              go_wp2
              go_roundw
              case rel => exact ⟨k + 1, by go_num, by omega, ⟨((hP.out.of_block (w' := _) (Below.block (show Below w1.heap.size w1 _ from (by repeat (first | exact Below.refl _ _ | refine Below.later ?_ _ | refine Below.box ?_ _ | refine Below.drew ?_ | refine Below.put ?_ (by dsimp only; omega) _))) _ hP.out.lt)).set pk (.int .u64 ng)).congr fun j _ => by
                rw [kz.out]; by_cases e : j = pk <;> simp [e]⟩, ⟨by have hb2 := hBl.out; rw [← hV] at hb2 ⊢; exact Below.put (Below.later hb2 _) (Nat.le_refl _) _⟩⟩
              case measure => first | (simp [intOf]; omega) | (simp [intOf]; done)
            · have hkn : k = piv.length := by rw [knp.out]; omega
              have hgd : Kept (KL.getD (frees piv cl).length [] = (List.range m).map (kvf p f piv cl k)) := ⟨by rw [← kKL.out, kerL_at p m f piv cl h kmem.out, kerR, hkn]⟩
              have kLs : Kept (Ls w1 (some ⟨V, 0, none⟩) ((List.range m).map (kvf p f piv cl k))) := ⟨hP.out.ls (by omega) (fun i _ => kvf_U p f piv cl k i)⟩
              have hVl : Kept (V < w1.heap.size) := ⟨hP.out.lt⟩
              have kR5 : Kept (Cpy w3 w1 u7 (frees piv cl).length bf cf KL) := ⟨kR4.out.keep (by rw [hV]; exact hBl.out)⟩
              have hap : Kept (u7.ownBlock ≠ some V) := ⟨fun e => by have := (kR4.out.own.lt _ e).2; omega⟩
              have hil := kfl.out cl (by omega)
              have kfn : Kept ((frees piv (cl + 1)).length = (frees piv cl).length + 1) := ⟨by rw [frees_next, if_neg kmem.out, List.length_append]; rfl⟩
              obtain ⟨i, hi⟩ : ∃ i, (frees piv cl).length = i := ⟨_, rfl⟩
              rw [hi] at hgd kR5 hil kfn
              clear hP hBl hi kR4 hkn
              go_wp2_with (first | (at_builtin; refine wpList_pushC rfl _ _ rfl _ (kR5.out.keep (by repeat (first | exact Below.refl _ _ | refine Below.later ?_ _ | refine Below.box ?_ _ | refine Below.drew ?_ | refine Below.put ?_ (by dsimp only; omega) _))) rfl _ rfl V m m (by first | simp | (rw [World.cell?_alloc_new]; rfl)) (by rw [hgd.out]; simp) (by rw [hgd.out]; exact kLs.out.below (Nat.le_refl _) (by repeat (first | exact Below.refl _ _ | refine Below.later ?_ _ | refine Below.box ?_ _ | refine Below.drew ?_ | refine Below.put ?_ (by dsimp only; omega) _))) (fun _ => by have := hVl.out; simp; omega) hap.out (by omega) ?_; intro v5 w5 hR5; refine Stop.out ?_))
              refine ⟨?_⟩
              have kR6 := (⟨hR5⟩ : Kept _)
              clear hR5 kR5
              go_wp2
              go_roundw
              case rel => exact ⟨cl + 1, x, _, _, by go_num, by go_num, by omega, by omega, kN2, by rw [kfn.out]; exact kR6⟩
              case measure => first | (simp [intOf]; omega) | (simp [intOf]; done)
    · have hin : cl = m := by omega
      have hlen : KL.length = (frees piv m).length := by rw [← kKL.out, kerL, List.length_map]
      have hD := hR.out
      rw [hin, ← hlen] at hD
      obtain ⟨u', c', e, hMt, hz⟩ := hD.mt (by rw [hlen]; have := kfl.out m hm6; omega)
      have kM2 := (⟨hMt⟩ : Kept _)
      have kz := (⟨hz⟩ : Kept _)
      have kb : Kept (Below w.heap.size w w1) := ⟨Below.next kB2.out kB4.out⟩
      subst e
      clear hR hD hMt hz hin kKL
      go_wp2
      exact bodyPost_ret (v := .slice u' KL.length c') (by simp [results, Try.results32, go_sem]) rfl ⟨u', c', rfl, kM2.out, kz.out, kb.out⟩
end Go.Proofs.Ytjnlnbkdnjainaa
