/- soundness.LinearPasses. -/
import Derived.Test.YtkpkgjniicnkcaaHCof
import Derived.Test.YtkpkgjniicnkcaaHSm
namespace Go.Proofs.Ytkpkgjniicnkcaa
open Go.RowKit Go.Sort

set_option maxRecDepth 100000
set_option pp.maxSteps 300
/-- The coefficients as rows. -/
def cofM (p pub : Int) (R : List Rw) (B P0 P1 S : Nat) (rho : Int) : List (List Int) := cuts B (fun i => if i = 0 then P0 else P1) (cofL p rho pub R S) 4
theorem cuts_pf {b : Nat} {pf pf' : Nat → Nat} {lf : Nat → List Int} : ∀ n, (∀ i, i < n → pf i = pf' i) → cuts b pf lf n = cuts b pf' lf n
  | 0, _ => rfl
  | n + 1, h => by rw [cuts, cuts, cuts_pf n (fun i hi => h i (by omega)), h n (by omega)]
theorem cofL_lens {p rho pub : Int} {R : List Rw} {S : Nat} : (cofL p rho pub R S 0).length = S ∧ ∀ k, k < 3 → (cofL p rho pub R S (k + 1)).length = R.length := by
  refine ⟨by simp [cofL, secL], fun k hk => ?_⟩
  unfold cofL
  rw [if_neg (by omega), List.length_take, List.length_drop, Nat.add_sub_cancel]
  have : k * R.length ≤ 2 * R.length := Nat.mul_le_mul_right _ (by omega)
  simp [powL]; omega
theorem cofM_eq {p rho pub : Int} {R : List Rw} {B P0 P1 S : Nat} (h0 : upl B S = P0) (h1 : upl B R.length = P1) : cuts B (fun i => upl B (cofL p rho pub R S i).length) (cofL p rho pub R S) 4 = cofM p pub R B P0 P1 S rho := by
  refine cuts_pf 4 fun i hi => ?_
  match i, hi with
  | 0, _ => simp only [cofL_lens.1, h0, if_true]
  | 1, _ => rw [cofL_lens.2 0 (by omega), h1]; rfl
  | 2, _ => rw [cofL_lens.2 1 (by omega), h1]; rfl
  | 3, _ => rw [cofL_lens.2 2 (by omega), h1]; rfl
theorem cofM_len (p pub : Int) (R : List Rw) (B P0 P1 S : Nat) (rho : Int) : (cofM p pub R B P0 P1 S rho).length = P0 + P1 + P1 + P1 := by
  simp [cofM, cuts, cutL_len]; omega
theorem cuts_row {b : Nat} {pf : Nat → Nat} {lf : Nat → List Int} : ∀ i, ∀ l ∈ cuts b pf lf i, l.length = b
  | 0 => by simp [cuts]
  | i + 1 => fun l hl => by
    rw [cuts] at hl
    rcases List.mem_append.1 hl with hl | hl
    · exact cuts_row i l hl
    · simp only [cutL, List.mem_map] at hl
      obtain ⟨k, _, rfl⟩ := hl
      exact chunk_len _ _ _
theorem upl_int {B n P : Nat} (hB : 1 ≤ B) (h : ((n : Int) + (B : Int) - 1) / (B : Int) = P) : upl B n = P := by
  unfold upl
  have : ((n + B - 1 : Nat) : Int) = (n : Int) + (B : Int) - 1 := by omega
  rw [← this] at h
  have h2 : (((n + B - 1) / B : Nat) : Int) = (P : Int) := by rw [← h]; simp
  exact Int.ofNat_inj.1 h2

set_option maxHeartbeats 8000000 in
theorem linPasses_c (B P0 P1 S pn : Nat) (q k n pub vs : Int) (u : Option Addr) (c : Nat) (ls : List (List Int)) (up : Option Addr) (cp : Nat) (ps : List Int) (ur : Option Addr) (cr : Nat) (R : List Rw) (w : World) (hv : vld (pn : Int) = true) (hpn : pn ≤ 257) (hb : 1 ≤ B ∧ B ≤ 256) (hP0' : P0 ≤ 70000) (hP1' : P1 ≤ 70000) (hm16 : R.length ≤ 16384) (hpub : 0 ≤ pub) (hs : (S : Int) = vs - 1 - pub) (hvs : vs ≤ 65536)
    (hP0 : ((S : Int) + (B : Int) - 1) / (B : Int) = P0) (hP1 : ((R.length : Int) + (B : Int) - 1) / (B : Int) = P1) (hMt : Mt w u ls) (hlen : ls.length = P0 + P1 + P1 + P1)
    (hps : Ls w up ps) (hpl : (ps.length : Int) = pub) (hup : up = none → cp = 0) (hR : Rws w ur R) (hvar : ∀ r ∈ R, ∀ k, k < 3 → ∀ t ∈ (side k r).l, 0 ≤ t.1 ∧ t.1 < vs) :
    Calls Try.prog 28 #[.agg #[.int .u64 (pn : Int), .int .i64 (B : Int), .int .i64 q, .int .i64 k, .int .i64 n, .int .i64 (S : Int), .int .i64 R.length, .int .i64 (P0 : Nat), .int .i64 (P1 : Nat), .int .i64 (P1 : Nat), .int .i64 (P1 : Nat)], .agg #[.int .u64 (pn : Int), .int .i64 pub, .int .i64 vs, .slice ur R.length cr], .slice up ps.length cp, .slice u ls.length c] w
      (Gives (.tuple #[.int .i64 (linN (pn : Int) ls (cofM (pn : Int) pub R B P0 P1 S) (fun rho => tgV (pn : Int) rho (1 :: ps) R R.length) pn : Nat), .int .i64 0]) w) := by
  have hp0 := vld_pos hv
  obtain ⟨N, hN⟩ : ∃ N, P0 + P1 + P1 + P1 = N := ⟨_, rfl⟩
  have hN6 : N ≤ 280000 := by omega
  have cc : Kept (∀ (rho : Nat) w', Below w.heap.size w w' → rho < pn → Calls Try.prog 50 #[.agg #[.int .u64 (pn : Int), .int .i64 (B : Int), .int .i64 q, .int .i64 k, .int .i64 n, .int .i64 (S : Int), .int .i64 R.length, .int .i64 (P0 : Nat), .int .i64 (P1 : Nat), .int .i64 (P1 : Nat), .int .i64 (P1 : Nat)], .agg #[.int .u64 (pn : Int), .int .i64 pub, .int .i64 vs, .slice ur R.length cr], .int .u64 (rho : Int)] w' (GivesMat (cofM (pn : Int) pub R B P0 P1 S (rho : Int)) w')) := ⟨fun rho w' hw hr => by
    have := lcoefs_c B P0 P1 S (pn : Int) q k n pub vs (rho : Int) ur cr R w' hv hb hm16 hpub hs hvs hP0 hP1 (hR.below (Nat.le_refl _) hw) ⟨by omega, by omega⟩ hvar
    rw [cofM_eq (upl_int hb.1 hP0) (upl_int hb.1 hP1)] at this
    exact this⟩
  obtain ⟨tg, htg⟩ : ∃ tg : Int → Int, ∀ rho, tgV (pn : Int) rho (1 :: ps) R R.length = tg rho := ⟨_, fun _ => rfl⟩
  have ct : Kept (∀ (rho : Nat) w', Below w.heap.size w w' → rho < pn → Calls Try.prog 53 #[.agg #[.int .u64 (pn : Int), .int .i64 (B : Int), .int .i64 q, .int .i64 k, .int .i64 n, .int .i64 (S : Int), .int .i64 R.length, .int .i64 (P0 : Nat), .int .i64 (P1 : Nat), .int .i64 (P1 : Nat), .int .i64 (P1 : Nat)], .agg #[.int .u64 (pn : Int), .int .i64 pub, .int .i64 vs, .slice ur R.length cr], .slice up ps.length cp, .int .u64 (rho : Int)] w' (Gives (.int .u64 (tg (rho : Int))) w')) := ⟨fun rho w' hw hr => by
    rw [← htg]
    exact ltarget_c (pn : Int) B q k n S P0 P1 pub vs (rho : Int) ur cr R up cp ps w' hv (by omega) hm16 hpub ⟨by omega, hs⟩ hvs hP0 hP1 (hR.below (Nat.le_refl _) hw) (hps.below (Nat.le_refl _) hw) hpl hup ⟨by omega, by omega⟩⟩
  rw [show (fun rho => tgV (pn : Int) rho (1 :: ps) R R.length) = tg from funext htg]
  obtain ⟨cf, hcf⟩ : ∃ cf, cofM (pn : Int) pub R B P0 P1 S = cf := ⟨_, rfl⟩
  have kcf : Kept (∀ rho, (cf rho).length = N ∧ ∀ l ∈ cf rho, l.length = B) := ⟨fun rho => by rw [← hcf, ← hN]; exact ⟨cofM_len _ _ _ _ _ _ _ _, cuts_row 4⟩⟩
  have kMt : Kept (Mt w u ls) := ⟨hMt⟩
  have el : Kept (ls.length = N) := ⟨by omega⟩
  have ktU : Kept (∀ rho, 0 ≤ tg rho) := ⟨fun rho => by rw [← htg]; exact Int.emod_nonneg _ (by omega)⟩
  rw [hcf] at cc ⊢
  rw [show ls.length = N by omega]
  clear hR hps hup hpl hP0 hP1 hMt hlen htg hcf hvar hs hm16 hN
  generalize R.length = m at *
  generalize ps.length = np at *
  go_enter Try.func28, Try.ntmps28
  go_wp2
  obtain ⟨W2, hW2⟩ : ∃ W2, W2 = ((w.alloc (.cells #[.int .u64 (pn : Int), .int .i64 (B : Int), .int .i64 q, .int .i64 k, .int .i64 n, .int .i64 (S : Int), .int .i64 (m : Int), .int .i64 (P0 : Nat), .int .i64 (P1 : Nat), .int .i64 (P1 : Nat), .int .i64 (P1 : Nat)] 46)).alloc (.cells #[.int .u64 (pn : Int), .int .i64 pub, .int .i64 vs, .slice ur m cr] 33)).alloc (.cells #[.int .u64 (pn : Int)] 96) := ⟨_, rfl⟩
  rw [← hW2]
  have hWs : W2.heap.size = w.heap.size + 1 + 1 + 1 := by rw [hW2]; simp
  have hB2 : Kept (Below w.heap.size w W2) := ⟨by rw [hW2]; exact (by repeat (first | exact Below.refl _ _ | refine Below.later ?_ _ | refine Below.box ?_ _ | refine Below.drew ?_ | refine Below.put ?_ (by dsimp only; omega) _))⟩
  have kall : Kept (∀ w', Below W2.heap.size W2 w' → (∀ i x, (#[Value.int .u64 (pn : Int), .int .i64 (B : Int), .int .i64 q, .int .i64 k, .int .i64 n, .int .i64 (S : Int), .int .i64 (m : Int), .int .i64 (P0 : Nat), .int .i64 (P1 : Nat), .int .i64 (P1 : Nat), .int .i64 (P1 : Nat)] : Array Value)[i]? = some x → w'.cell? ⟨w.heap.size, i, none⟩ = some x) ∧ (∀ i x, (#[Value.int .u64 (pn : Int), .int .i64 pub, .int .i64 vs, .slice ur m cr] : Array Value)[i]? = some x → w'.cell? ⟨w.heap.size + 1, i, none⟩ = some x) ∧ w'.cell? ⟨w.heap.size + 1 + 1, 0, none⟩ = some (.int .u64 (pn : Int)) ∧ w.heap.size < w'.heap.size ∧ w.heap.size + 1 < w'.heap.size ∧ w.heap.size + 1 + 1 < w'.heap.size) := ⟨fun w' hw => by
    have := hw.size
    refine ⟨fun i x hx => ?_, fun i x hx => ?_, ?_, by omega, by omega, by omega⟩
    · rw [hw.cell (p := ⟨w.heap.size, i, none⟩) (by simp only []; omega), hW2, World.cell?_alloc_lt _ _ _ (by simp), World.cell?_alloc_lt _ _ _ (by simp), World.cell?_alloc_new]; exact hx
    · rw [hw.cell (p := ⟨w.heap.size + 1, i, none⟩) (by simp only []; omega), hW2, World.cell?_alloc_lt _ _ _ (by simp), ← World.size_alloc w, World.cell?_alloc_new]; exact hx
    · rw [hw.cell (p := ⟨w.heap.size + 1 + 1, 0, none⟩) (by simp only []; omega), hW2]; simp [go_sem]⟩
  clear hW2
  go_loopw [11, 24] (fun vc vr wr => ∃ (t : Nat), vc = .int .i64 (linN (pn : Int) ls cf tg t : Nat) ∧ vr = .int .u64 (t : Int) ∧ t ≤ pn ∧ Below W2.heap.size W2 wr) (fun _ vr _ => ((pn : Int) - intOf vr).toNat)
  case atStart => exact ⟨0, rfl, rfl, by omega, Below.refl _ _⟩
  case round =>
    obtain ⟨t, rfl, rfl, ht, hB⟩ := hrel
    obtain ⟨w1, rfl⟩ : ∃ x, x = wr := ⟨wr, rfl⟩
    have hle := linN_le (pn : Int) ls cf tg t
    obtain ⟨cnt, hcnt⟩ : ∃ x, linN (pn : Int) ls cf tg t = x := ⟨_, rfl⟩
    have kcnt : Kept (linN (pn : Int) ls cf tg t = cnt) := ⟨hcnt⟩
    rw [hcnt] at hle ⊢
    clear hcnt
    have hBk : Kept (Below W2.heap.size W2 w1) := ⟨hB⟩
    have hBw : Kept (Below w.heap.size w w1) := ⟨Below.next hB2.out hB⟩
    by_cases h : t < pn
    · obtain ⟨kl, kt, f0, lt0, lt1, lt2⟩ := kall.out w1 hB
      have l0 := kl 0 _ rfl
      have l1 := kl 1 _ rfl
      have l2 := kl 2 _ rfl
      have l3 := kl 3 _ rfl
      have l4 := kl 4 _ rfl
      have l5 := kl 5 _ rfl
      have l6 := kl 6 _ rfl
      have l7 := kl 7 _ rfl
      have l8 := kl 8 _ rfl
      have l9 := kl 9 _ rfl
      have l10 := kl 10 _ rfl
      have t0 := kt 0 _ rfl
      have t1 := kt 1 _ rfl
      have t2 := kt 2 _ rfl
      have t3 := kt 3 _ rfl
      clear kl kt hB
      go_wp2_with (first | (go_at_call 50; refine (cc.out t _ hBw.out h).mono ?_; rintro e w3 ⟨vm, bs, rfl, hM⟩; refine Stop.out ?_))
      refine ⟨?_⟩
      obtain ⟨u3, c3, rfl, _⟩ := hM.grown.form
      rw [(kcf.out _).1]
      have hMb := hM.grown.below
      have hMtc : Kept (Mt w3 u3 (cf (t : Int))) := ⟨by
        have hm := hM.mt (by rw [(kcf.out _).1]; omega) (fun l hl => by rw [(kcf.out _).2 l hl]; omega)
        exact hm.2⟩
      have hB3 : Kept (Below W2.heap.size W2 w3) := ⟨Below.next hBk.out hMb⟩
      have hB3w : Kept (Below w.heap.size w w3) := ⟨Below.next hB2.out hB3.out⟩
      obtain ⟨kl3, kt3, g0, mt0, mt1, mt2⟩ := kall.out w3 hB3.out
      have n0 := kl3 0 _ rfl
      have n1 := kl3 1 _ rfl
      have n2 := kl3 2 _ rfl
      have n3 := kl3 3 _ rfl
      have n4 := kl3 4 _ rfl
      have n5 := kl3 5 _ rfl
      have n6 := kl3 6 _ rfl
      have n7 := kl3 7 _ rfl
      have n8 := kl3 8 _ rfl
      have n9 := kl3 9 _ rfl
      have n10 := kl3 10 _ rfl
      have o0 := kt3 0 _ rfl
      have o1 := kt3 1 _ rfl
      have o2 := kt3 2 _ rfl
      have o3 := kt3 3 _ rfl
      have k1 := (⟨hMtc.out.get (kcf.out _).1⟩ : Kept _)
      have k2 := (⟨(kMt.out.below (Nat.le_refl _) hB3w.out).get el.out⟩ : Kept _)
      have elc : Kept ((cf (t : Int)).length = N) := ⟨(kcf.out _).1⟩
      clear kl3 kt3 hM hMb hMtc l0 l1 l2 l3 l4 l5 l6 l7 l8 l9 l10 t0 t1 t2 t3 f0 lt0 lt1 lt2
      go_wp2
      go_loopw [13, 32] (fun vs vi wr => ∃ (i : Nat) (S : Int) (q : Regrown), vs = .int .u64 S ∧ vi = .int .i64 (i : Int) ∧ i ≤ N ∧ U S ∧ wr = after w3 q ∧ Kept (msum (pn : Int) ((cf (t : Int)).take i) (ls.take i) = S)) (fun _ vi _ => ((N : Int) - intOf vi).toNat)
      case atStart => exact ⟨0, 0, ⟨w3.drawn, #[]⟩, rfl, rfl, by omega, ⟨by decide, by decide⟩, (after_none w3).symm, ⟨rfl⟩⟩
      case round =>
        obtain ⟨i, Sm, q3, rfl, rfl, hi, hU, rfl, hI⟩ := hrel
        by_cases h2 : i < N
        · obtain ⟨b1, o1, x, v1, d1, rfl, hx1, hb1, hc1, hL1⟩ := k1.out i h2
          obtain ⟨b2, o2, y, v2, d2, rfl, hy1, hb2, hc2, hL2⟩ := k2.out i h2
          have hI2 : Kept (msum (pn : Int) ((cf (t : Int)).take (i + 1)) (ls.take (i + 1)) = fadd (pn : Int) Sm (ldot (pn : Int) x y)) := ⟨by rw [msum_next hx1 hy1, hI.out]⟩
          have cd : Kept (∀ q, Calls Try.prog 52 #[.agg #[.int .u64 (pn : Int)], .slice v1 x.length d1, .slice v2 y.length d2] (after w3 q) (Gives (.int .u64 (ldot (pn : Int) x y)) (after w3 q))) := ⟨fun q => dot_c (pn : Int) v1 v2 d1 d2 x y (after w3 q) (hL1.later q) (hL2.later q)⟩
          have ca : Kept (∀ w, Calls Try.prog 51 #[.agg #[.int .u64 (pn : Int)], .int .u64 Sm, .int .u64 (ldot (pn : Int) x y)] w (Gives (.int .u64 (fadd (pn : Int) Sm (ldot (pn : Int) x y))) w)) := ⟨fun w => add_c (pn : Int) Sm _ w hU ldot_U⟩
          have hU2 : U (fadd (pn : Int) Sm (ldot (pn : Int) x y)) := fadd_U
          have hiN : (i : Int) < (N : Int) := by omega
          clear hI hx1 hy1 k1 k2 hL1 hL2
          generalize fadd (pn : Int) Sm (ldot (pn : Int) x y) = A at *
          generalize ldot (pn : Int) x y = D at *
          generalize x.length = nx at *
          generalize y.length = ny at *
          go_wp2
          first | refine region_quiet1 (by kernel_rfl) ?_ | refine region_quiet (by kernel_rfl) ?_
          repeat (go_big_quiet_step (first | (go_at_call 52; with_reducible exact quiet (cd.out _)) | (go_at_call 51; with_reducible exact quiet (ca.out _))))
          refine wpQuiet_nil ?_
          intro _
          go_wp2
          go_roundw
          case rel => exact ⟨i + 1, A, _, rfl, by go_num, by omega, hU2, rfl, hI2⟩
          case measure => first | (simp [intOf]; omega) | (simp [intOf]; done)
        · have hI2 : Kept (msum (pn : Int) (cf (t : Int)) ls = Sm) := ⟨by rw [← hI.out, List.take_of_length_le (by rw [elc.out]; omega), List.take_of_length_le (by rw [el.out]; omega)]⟩
          have c2 : Kept (∀ w', Below w.heap.size w w' → Calls Try.prog 53 #[.agg #[.int .u64 (pn : Int), .int .i64 (B : Int), .int .i64 q, .int .i64 k, .int .i64 n, .int .i64 (S : Int), .int .i64 (m : Int), .int .i64 (P0 : Nat), .int .i64 (P1 : Nat), .int .i64 (P1 : Nat), .int .i64 (P1 : Nat)], .agg #[.int .u64 (pn : Int), .int .i64 pub, .int .i64 vs, .slice ur m cr], .slice up np cp, .int .u64 (t : Int)] w' (Gives (.int .u64 (tg (t : Int))) w')) := ⟨fun w' hw => ct.out t w' hw h⟩
          obtain ⟨z, hz⟩ : ∃ z, tg (t : Int) = z := ⟨_, rfl⟩
          rw [hz] at c2
          have hB3' := hB3.out
          clear hI k1 k2
          by_cases hSz : Sm = z
          · have hq : (Sm == z) = true := by simp [hSz]
            have hn2 : Kept (linN (pn : Int) ls cf tg (t + 1) = cnt + 1) := ⟨by rw [linN_next, kcnt.out, hI2.out, hz, if_pos hSz]⟩
            clear hSz hI2 hz
            go_wp2_with (first | (go_at_call 53; (first | with_reducible refine use1 (c2.out _ (Below.later hB3w.out _)) ?_ | with_reducible refine use (c2.out _ (Below.later hB3w.out _)) ?_); intro pw))
            go_roundw
            case rel => exact ⟨t + 1, by rw [hn2.out]; go_num, by go_num, by omega, by first | exact Below.later hB3' _ | exact Below.later (Below.later hB3' _) _⟩
            case measure => first | (simp [intOf]; omega) | (simp [intOf]; done)
          · have hq : (Sm == z) = false := by simp [hSz]
            have hn2 : Kept (linN (pn : Int) ls cf tg (t + 1) = cnt) := ⟨by rw [linN_next, kcnt.out, hI2.out, hz, if_neg hSz]; rfl⟩
            clear hSz hI2 hz
            go_wp2_with (first | (go_at_call 53; (first | with_reducible refine use1 (c2.out _ (Below.later hB3w.out _)) ?_ | with_reducible refine use (c2.out _ (Below.later hB3w.out _)) ?_); intro pw))
            go_roundw
            case rel => exact ⟨t + 1, by rw [hn2.out], by go_num, by omega, by first | exact Below.later hB3' _ | exact Below.later (Below.later hB3' _) _⟩
            case measure => first | (simp [intOf]; omega) | (simp [intOf]; done)
    · have htp : t = pn := by omega
      have hn2 : Kept (linN (pn : Int) ls cf tg pn = cnt) := ⟨by have := kcnt.out; rw [htp] at this; exact this⟩
      clear hB
      go_wp2
      go_ret2
      exact ⟨by rw [hn2.out]; rfl, hBw.out⟩
end Go.Proofs.Ytkpkgjniicnkcaa
