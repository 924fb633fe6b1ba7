/- The reference's LinearPasses. -/
import Derived.Test.YtkpkgjniicnkcaaHLps
import Derived.Test.YtkpkgjniicnkcaaHRcf
import Derived.Deep.RegionHeld3
namespace Go.Proofs.Ytkpkgjniicnkcaa
open Go.RowKit Go.Sort

set_option maxRecDepth 100000
set_option pp.maxSteps 300
set_option maxHeartbeats 8000000 in
theorem rlinPasses_c (B P0 P1 S pn : Nat) (q k n pub vs : Int) (u : Option Addr) (c : Nat) (ls : List (List Int)) (up : Option Addr) (cp : Nat) (ps : List Int) (ur : Option Addr) (cr : Nat) (R : List Rw) (w : World) (hv : vld (pn : Int) = true) (hpn : pn ≤ 257) (hb : 1 ≤ B ∧ B ≤ 256) (hP0' : P0 ≤ 70000) (hP1' : P1 ≤ 70000) (hm16 : R.length ≤ 16384) (hpub : 0 ≤ pub) (hs : (S : Int) = vs - 1 - pub) (hvs : vs ≤ 65536)
    (hMt : Mt w u ls) (hlen : ls.length = P0 + P1 + P1 + P1)
    (hps : Ls w up ps) (hpl : (ps.length : Int) = pub) (hup : up = none → cp = 0) (hR : Rws w ur R) (hvar : ∀ r ∈ R, ∀ k, k < 3 → ∀ t ∈ (side k r).l, 0 ≤ t.1 ∧ t.1 < vs) :
    Calls Try.prog 29 #[.agg #[.int .u64 (pn : Int), .int .i64 (B : Int), .int .i64 q, .int .i64 k, .int .i64 n, .int .i64 (S : Int), .int .i64 R.length, .int .i64 (P0 : Nat), .int .i64 (P1 : Nat), .int .i64 (P1 : Nat), .int .i64 (P1 : Nat)], .agg #[.int .u64 (pn : Int), .int .i64 pub, .int .i64 vs, .slice ur R.length cr], .slice up ps.length cp, .slice u ls.length c] w
      (Gives (.int .i64 (linN (pn : Int) ls (cofM (pn : Int) pub R B P0 P1 S) (fun rho => tgV (pn : Int) rho (1 :: ps) R R.length) pn : Nat)) w) := by
  have hp0 := vld_pos hv
  obtain ⟨N, hN⟩ : ∃ N, P0 + P1 + P1 + P1 = N := ⟨_, rfl⟩
  have hN6 : N ≤ 280000 := by omega
  have cc : Kept (∀ (rho : Nat) w', Below w.heap.size w w' → rho < pn → Calls Try.prog 55 #[.agg #[.int .u64 (pn : Int), .int .i64 (B : Int), .int .i64 q, .int .i64 k, .int .i64 n, .int .i64 (S : Int), .int .i64 R.length, .int .i64 (P0 : Nat), .int .i64 (P1 : Nat), .int .i64 (P1 : Nat), .int .i64 (P1 : Nat)], .agg #[.int .u64 (pn : Int), .int .i64 pub, .int .i64 vs, .slice ur R.length cr], .int .u64 (rho : Int)] w' (GivesMat (cofM (pn : Int) pub R B P0 P1 S (rho : Int)) w')) := ⟨fun rho w' hw hr =>
    rcoefs_c B P0 P1 S (pn : Int) q k n R.length pub vs (rho : Int) ur cr R w' hv hb hm16 hpub hs hvs hP0' hP1' (hR.below (Nat.le_refl _) hw) ⟨by omega, by omega⟩ hvar⟩
  obtain ⟨tg, htg⟩ : ∃ tg : Int → Int, ∀ rho, tgV (pn : Int) rho (1 :: ps) R R.length = tg rho := ⟨_, fun _ => rfl⟩
  have ct : Kept (∀ (rho : Nat) w', Below w.heap.size w w' → rho < pn → Calls Try.prog 56 #[.agg #[.int .u64 (pn : Int), .int .i64 (B : Int), .int .i64 q, .int .i64 k, .int .i64 n, .int .i64 (S : Int), .int .i64 R.length, .int .i64 (P0 : Nat), .int .i64 (P1 : Nat), .int .i64 (P1 : Nat), .int .i64 (P1 : Nat)], .agg #[.int .u64 (pn : Int), .int .i64 pub, .int .i64 vs, .slice ur R.length cr], .slice up ps.length cp, .int .u64 (rho : Int)] w' (Gives (.int .u64 (tg (rho : Int))) w')) := ⟨fun rho w' hw hr => by
    rw [← htg]
    exact rtarget_c (pn : Int) B q k n S R.length P0 P1 P1 P1 pub vs (rho : Int) ur cr R up cp ps w' hv hm16 (hR.below (Nat.le_refl _) hw) (hps.below (Nat.le_refl _) hw) (by omega) hup ⟨by omega, by omega⟩⟩
  rw [show (fun rho => tgV (pn : Int) rho (1 :: ps) R R.length) = tg from funext htg]
  obtain ⟨cf, hcf⟩ : ∃ cf, cofM (pn : Int) pub R B P0 P1 S = cf := ⟨_, rfl⟩
  have kcf : Kept (∀ rho, (cf rho).length = N ∧ ∀ l ∈ cf rho, l.length = B) := ⟨fun rho => by rw [← hcf, ← hN]; exact ⟨cofM_len _ _ _ _ _ _ _ _, cuts_row 4⟩⟩
  have kMt : Kept (Mt w u ls) := ⟨hMt⟩
  have el : Kept (ls.length = N) := ⟨by omega⟩
  rw [hcf] at cc ⊢
  rw [show ls.length = N by omega]
  clear hR hps hup hpl hMt hlen htg hcf hvar hs hm16 hN
  generalize R.length = m at *
  generalize ps.length = np at *
  go_enter Try.func29, Try.ntmps29
  go_wp2
  obtain ⟨W2, hW2⟩ : ∃ W2, W2 = (w.alloc (.cells #[.int .u64 (pn : Int), .int .i64 (B : Int), .int .i64 q, .int .i64 k, .int .i64 n, .int .i64 (S : Int), .int .i64 (m : Int), .int .i64 (P0 : Nat), .int .i64 (P1 : Nat), .int .i64 (P1 : Nat), .int .i64 (P1 : Nat)] 41)).alloc (.cells #[.int .u64 (pn : Int), .int .i64 pub, .int .i64 vs, .slice ur m cr] 33) := ⟨_, rfl⟩
  rw [← hW2]
  have hWs : W2.heap.size = w.heap.size + 1 + 1 := by rw [hW2]; simp
  have hB2 : Kept (Below w.heap.size w W2) := ⟨by rw [hW2]; exact (by repeat (first | exact Below.refl _ _ | refine Below.later ?_ _ | refine Below.box ?_ _ | refine Below.drew ?_ | refine Below.put ?_ (by dsimp only; omega) _))⟩
  have kall : Kept (∀ w', Below W2.heap.size W2 w' → (∀ i x, (#[Value.int .u64 (pn : Int), .int .i64 (B : Int), .int .i64 q, .int .i64 k, .int .i64 n, .int .i64 (S : Int), .int .i64 (m : Int), .int .i64 (P0 : Nat), .int .i64 (P1 : Nat), .int .i64 (P1 : Nat), .int .i64 (P1 : Nat)] : Array Value)[i]? = some x → w'.cell? ⟨w.heap.size, i, none⟩ = some x) ∧ (∀ i x, (#[Value.int .u64 (pn : Int), .int .i64 pub, .int .i64 vs, .slice ur m cr] : Array Value)[i]? = some x → w'.cell? ⟨w.heap.size + 1, i, none⟩ = some x) ∧ w.heap.size < w'.heap.size ∧ w.heap.size + 1 < w'.heap.size) := ⟨fun w' hw => by
    have := hw.size
    refine ⟨fun i x hx => ?_, fun i x hx => ?_, by omega, by omega⟩
    · rw [hw.cell (p := ⟨w.heap.size, i, none⟩) (by simp only []; omega), hW2, World.cell?_alloc_lt _ _ _ (by simp), World.cell?_alloc_new]; exact hx
    · rw [hw.cell (p := ⟨w.heap.size + 1, i, none⟩) (by simp only []; omega), hW2, ← World.size_alloc w, World.cell?_alloc_new]; exact hx⟩
  clear hW2
  go_loopw [9, 10] (fun vc vr wr => ∃ (t : Nat), vc = .int .i64 (linN (pn : Int) ls cf tg t : Nat) ∧ vr = .int .u64 (t : Int) ∧ t ≤ pn ∧ Below W2.heap.size W2 wr) (fun _ vr _ => ((pn : Int) - intOf vr).toNat)
  case atStart => exact ⟨0, rfl, rfl, by omega, Below.refl _ _⟩
  case round =>
    obtain ⟨t, rfl, rfl, ht, hB⟩ := hrel
    obtain ⟨w1, rfl⟩ : ∃ x, x = wr := ⟨wr, rfl⟩
    have hle := linN_le (pn : Int) ls cf tg t
    obtain ⟨cnt, hcnt⟩ : ∃ x, linN (pn : Int) ls cf tg t = x := ⟨_, rfl⟩
    have kcnt : Kept (linN (pn : Int) ls cf tg t = cnt) := ⟨hcnt⟩
    rw [hcnt] at hle ⊢
    clear hcnt
    have hBk : Kept (Below W2.heap.size W2 w1) := ⟨hB⟩
    have hBw : Kept (Below w.heap.size w w1) := ⟨Below.next hB2.out hB⟩
    obtain ⟨kl, kt, lt0, lt1⟩ := kall.out w1 hB
    have l0 := kl 0 _ rfl
    by_cases h : t < pn
    · clear l0
      have l0 := kl 0 _ rfl
      have l1 := kl 1 _ rfl
      have l2 := kl 2 _ rfl
      have l3 := kl 3 _ rfl
      have l4 := kl 4 _ rfl
      have l5 := kl 5 _ rfl
      have l6 := kl 6 _ rfl
      have l7 := kl 7 _ rfl
      have l8 := kl 8 _ rfl
      have l9 := kl 9 _ rfl
      have l10 := kl 10 _ rfl
      have t0 := kt 0 _ rfl
      have t1 := kt 1 _ rfl
      have t2 := kt 2 _ rfl
      have t3 := kt 3 _ rfl
      clear kl kt hB
      have hS : Kept (∀ w', Below w1.heap.size w1 w' → w'.cell? ⟨w.heap.size, 0, none⟩ = some (.int .u64 (pn : Int)) ∧ w'.cell? ⟨w.heap.size, 1, none⟩ = some (.int .i64 (B : Int)) ∧ w'.cell? ⟨w.heap.size, 2, none⟩ = some (.int .i64 q) ∧ w'.cell? ⟨w.heap.size, 3, none⟩ = some (.int .i64 k) ∧ w'.cell? ⟨w.heap.size, 4, none⟩ = some (.int .i64 n) ∧ w'.cell? ⟨w.heap.size, 5, none⟩ = some (.int .i64 (S : Int)) ∧ w'.cell? ⟨w.heap.size, 6, none⟩ = some (.int .i64 (m : Int)) ∧ w'.cell? ⟨w.heap.size, 7, none⟩ = some (.int .i64 (P0 : Nat)) ∧ w'.cell? ⟨w.heap.size, 8, none⟩ = some (.int .i64 (P1 : Nat)) ∧ w'.cell? ⟨w.heap.size, 9, none⟩ = some (.int .i64 (P1 : Nat)) ∧ w'.cell? ⟨w.heap.size, 10, none⟩ = some (.int .i64 (P1 : Nat)) ∧ w'.cell? ⟨w.heap.size + 1, 0, none⟩ = some (.int .u64 (pn : Int)) ∧ w'.cell? ⟨w.heap.size + 1, 1, none⟩ = some (.int .i64 pub) ∧ w'.cell? ⟨w.heap.size + 1, 2, none⟩ = some (.int .i64 vs) ∧ w'.cell? ⟨w.heap.size + 1, 3, none⟩ = some (.slice ur m cr)) := ⟨fun w' hw' => ⟨by rw [hw'.cell (p := ⟨w.heap.size, 0, none⟩) lt0]; exact l0, by rw [hw'.cell (p := ⟨w.heap.size, 1, none⟩) lt0]; exact l1, by rw [hw'.cell (p := ⟨w.heap.size, 2, none⟩) lt0]; exact l2, by rw [hw'.cell (p := ⟨w.heap.size, 3, none⟩) lt0]; exact l3, by rw [hw'.cell (p := ⟨w.heap.size, 4, none⟩) lt0]; exact l4, by rw [hw'.cell (p := ⟨w.heap.size, 5, none⟩) lt0]; exact l5, by rw [hw'.cell (p := ⟨w.heap.size, 6, none⟩) lt0]; exact l6, by rw [hw'.cell (p := ⟨w.heap.size, 7, none⟩) lt0]; exact l7, by rw [hw'.cell (p := ⟨w.heap.size, 8, none⟩) lt0]; exact l8, by rw [hw'.cell (p := ⟨w.heap.size, 9, none⟩) lt0]; exact l9, by rw [hw'.cell (p := ⟨w.heap.size, 10, none⟩) lt0]; exact l10, by rw [hw'.cell (p := ⟨w.heap.size + 1, 0, none⟩) lt1]; exact t0, by rw [hw'.cell (p := ⟨w.heap.size + 1, 1, none⟩) lt1]; exact t1, by rw [hw'.cell (p := ⟨w.heap.size + 1, 2, none⟩) lt1]; exact t2, by rw [hw'.cell (p := ⟨w.heap.size + 1, 3, none⟩) lt1]; exact t3⟩⟩
      obtain ⟨Sm, hSm⟩ : ∃ x, msum (pn : Int) (cf (t : Int)) ls = x := ⟨_, rfl⟩
      obtain ⟨z, hz⟩ : ∃ z, tg (t : Int) = z := ⟨_, rfl⟩
      have csum : Kept (∀ w' u3 c3, Mt w' u3 (cf (t : Int)) → Below w.heap.size w w' → Calls Try.prog 54 #[.int .u64 (pn : Int), .slice u3 N c3, .slice u N c] w' (Gives (.int .u64 Sm) w')) := ⟨fun w' u3 c3 hm hw => by
        rw [← hSm]; exact sum_c (pn : Int) u3 u c3 c N (cf (t : Int)) ls w' hm (kMt.out.below (Nat.le_refl _) hw) (kcf.out _).1 el.out⟩
      have c2 : Kept (∀ w', Below w.heap.size w w' → Calls Try.prog 56 #[.agg #[.int .u64 (pn : Int), .int .i64 (B : Int), .int .i64 q, .int .i64 k, .int .i64 n, .int .i64 (S : Int), .int .i64 (m : Int), .int .i64 (P0 : Nat), .int .i64 (P1 : Nat), .int .i64 (P1 : Nat), .int .i64 (P1 : Nat)], .agg #[.int .u64 (pn : Int), .int .i64 pub, .int .i64 vs, .slice ur m cr], .slice up np cp, .int .u64 (t : Int)] w' (Gives (.int .u64 z) w')) := ⟨fun w' hw => by rw [← hz]; exact ct.out t w' hw h⟩
      by_cases hSz : Sm = z
      · have hq : (Sm == z) = true := by simp [hSz]
        have hn2 : Kept (linN (pn : Int) ls cf tg (t + 1) = cnt + 1) := ⟨by rw [linN_next, kcnt.out, hSm, hz, if_pos hSz]⟩
        clear hSz hSm hz
        go_wp2
        go_region_held3 (fun w' => w'.cell? ⟨w.heap.size, 0, none⟩ = some (.int .u64 (pn : Int)) ∧ w'.cell? ⟨w.heap.size, 1, none⟩ = some (.int .i64 (B : Int)) ∧ w'.cell? ⟨w.heap.size, 2, none⟩ = some (.int .i64 q) ∧ w'.cell? ⟨w.heap.size, 3, none⟩ = some (.int .i64 k) ∧ w'.cell? ⟨w.heap.size, 4, none⟩ = some (.int .i64 n) ∧ w'.cell? ⟨w.heap.size, 5, none⟩ = some (.int .i64 (S : Int)) ∧ w'.cell? ⟨w.heap.size, 6, none⟩ = some (.int .i64 (m : Int)) ∧ w'.cell? ⟨w.heap.size, 7, none⟩ = some (.int .i64 (P0 : Nat)) ∧ w'.cell? ⟨w.heap.size, 8, none⟩ = some (.int .i64 (P1 : Nat)) ∧ w'.cell? ⟨w.heap.size, 9, none⟩ = some (.int .i64 (P1 : Nat)) ∧ w'.cell? ⟨w.heap.size, 10, none⟩ = some (.int .i64 (P1 : Nat)) ∧ w'.cell? ⟨w.heap.size + 1, 0, none⟩ = some (.int .u64 (pn : Int)) ∧ w'.cell? ⟨w.heap.size + 1, 1, none⟩ = some (.int .i64 pub) ∧ w'.cell? ⟨w.heap.size + 1, 2, none⟩ = some (.int .i64 vs) ∧ w'.cell? ⟨w.heap.size + 1, 3, none⟩ = some (.slice ur m cr))
          (first | with_reducible exact hS.out _ (Below.drew (Below.refl _ _)) | with_reducible exact hS.out _ hMb | with_reducible exact hS.out _ (Below.later hMb _) | with_reducible exact hS.out _ (Below.later (Below.later hMb _) _))
          (first
            | (go_at_call 55; refine (cc.out t _ (Below.next hBw.out (by repeat (first | exact Below.refl _ _ | refine Below.later ?_ _ | refine Below.box ?_ _ | refine Below.drew ?_ | refine Below.put ?_ (by dsimp only; omega) _))) h).mono ?_; rintro e w3 ⟨vm, bs, rfl, hM⟩; replace hM := hM.base (W := w1) (by repeat (first | exact Below.refl _ _ | refine Below.later ?_ _ | refine Below.box ?_ _ | refine Below.drew ?_ | refine Below.put ?_ (by dsimp only; omega) _)); obtain ⟨u3, c3, rfl, _⟩ := hM.grown.form; rw [(kcf.out _).1]; have hMb := hM.grown.below; have hMt := hM.mt (by rw [(kcf.out _).1]; omega) (fun l hl => by rw [(kcf.out _).2 l hl]; omega))
            | (go_at_call 54; refine use (csum.out _ u3 c3 hMt.2 (Below.next hBw.out hMb)) ?_; intro pw3)
            | (go_at_call 56; refine use (c2.out _ (Below.next hBw.out (Below.later hMb _))) ?_; intro pw4))
        try with_reducible refine NoPanic.normal ?_
        go_wp2
        go_roundw
        case rel => exact ⟨t + 1, by rw [hn2.out]; go_num, by go_num, by omega, Below.next hBk.out (Below.later (Below.later hMb _) _)⟩
        case measure => first | (simp [intOf]; omega) | (simp [intOf]; done)
      · have hq : (Sm == z) = false := by simp [hSz]
        have hn2 : Kept (linN (pn : Int) ls cf tg (t + 1) = cnt) := ⟨by rw [linN_next, kcnt.out, hSm, hz, if_neg hSz]; rfl⟩
        clear hSz hSm hz
        go_wp2
        go_region_held3 (fun w' => w'.cell? ⟨w.heap.size, 0, none⟩ = some (.int .u64 (pn : Int)) ∧ w'.cell? ⟨w.heap.size, 1, none⟩ = some (.int .i64 (B : Int)) ∧ w'.cell? ⟨w.heap.size, 2, none⟩ = some (.int .i64 q) ∧ w'.cell? ⟨w.heap.size, 3, none⟩ = some (.int .i64 k) ∧ w'.cell? ⟨w.heap.size, 4, none⟩ = some (.int .i64 n) ∧ w'.cell? ⟨w.heap.size, 5, none⟩ = some (.int .i64 (S : Int)) ∧ w'.cell? ⟨w.heap.size, 6, none⟩ = some (.int .i64 (m : Int)) ∧ w'.cell? ⟨w.heap.size, 7, none⟩ = some (.int .i64 (P0 : Nat)) ∧ w'.cell? ⟨w.heap.size, 8, none⟩ = some (.int .i64 (P1 : Nat)) ∧ w'.cell? ⟨w.heap.size, 9, none⟩ = some (.int .i64 (P1 : Nat)) ∧ w'.cell? ⟨w.heap.size, 10, none⟩ = some (.int .i64 (P1 : Nat)) ∧ w'.cell? ⟨w.heap.size + 1, 0, none⟩ = some (.int .u64 (pn : Int)) ∧ w'.cell? ⟨w.heap.size + 1, 1, none⟩ = some (.int .i64 pub) ∧ w'.cell? ⟨w.heap.size + 1, 2, none⟩ = some (.int .i64 vs) ∧ w'.cell? ⟨w.heap.size + 1, 3, none⟩ = some (.slice ur m cr))
          (first | with_reducible exact hS.out _ (Below.drew (Below.refl _ _)) | with_reducible exact hS.out _ hMb | with_reducible exact hS.out _ (Below.later hMb _) | with_reducible exact hS.out _ (Below.later (Below.later hMb _) _))
          (first
            | (go_at_call 55; refine (cc.out t _ (Below.next hBw.out (by repeat (first | exact Below.refl _ _ | refine Below.later ?_ _ | refine Below.box ?_ _ | refine Below.drew ?_ | refine Below.put ?_ (by dsimp only; omega) _))) h).mono ?_; rintro e w3 ⟨vm, bs, rfl, hM⟩; replace hM := hM.base (W := w1) (by repeat (first | exact Below.refl _ _ | refine Below.later ?_ _ | refine Below.box ?_ _ | refine Below.drew ?_ | refine Below.put ?_ (by dsimp only; omega) _)); obtain ⟨u3, c3, rfl, _⟩ := hM.grown.form; rw [(kcf.out _).1]; have hMb := hM.grown.below; have hMt := hM.mt (by rw [(kcf.out _).1]; omega) (fun l hl => by rw [(kcf.out _).2 l hl]; omega))
            | (go_at_call 54; refine use (csum.out _ u3 c3 hMt.2 (Below.next hBw.out hMb)) ?_; intro pw3)
            | (go_at_call 56; refine use (c2.out _ (Below.next hBw.out (Below.later hMb _))) ?_; intro pw4))
        try with_reducible refine NoPanic.normal ?_
        go_wp2
        go_roundw
        case rel => exact ⟨t + 1, by rw [hn2.out], by go_num, by omega, Below.next hBk.out (Below.later (Below.later hMb _) _)⟩
        case measure => first | (simp [intOf]; omega) | (simp [intOf]; done)
    · have htp : t = pn := by omega
      have hn2 : Kept (linN (pn : Int) ls cf tg pn = cnt) := ⟨by have := kcnt.out; rw [htp] at this; exact this⟩
      clear hB kl kt
      go_wp2
      go_ret
      exact ⟨by rw [hn2.out]; rfl, hBw.out⟩
end Go.Proofs.Ytkpkgjniicnkcaa
