/- soundness.Consistent. -/
import Derived.Test.YtkpkgjniicnkcaaHLin
import Derived.Test.YtkpkgjniicnkcaaQE
namespace Go.Proofs.Ytkpkgjniicnkcaa
open Go.RowKit Go.Sort

set_option maxRecDepth 100000
set_option pp.maxSteps 300
def zeroR (l : List Int) : Bool := l.all fun x => x == 0
def quadC (gs : List (List Int)) : Bool := gs.all zeroR
theorem fullB_yes {B : Nat} {ls : List (List Int)} (h : ∀ l ∈ ls, l.length = B) : fullB (B : Int) ls = true := by
  simp only [fullB, List.all_eq_true, decide_eq_true_eq]
  intro l hl; rw [h l hl]

set_option maxHeartbeats 8000000 in
theorem consistent_c (B P0 P S : Nat) (p q k n pub vs : Int) (u : Option Addr) (c : Nat) (ls : List (List Int)) (up : Option Addr) (cp : Nat) (ps : List Int) (ur : Option Addr) (cr : Nat) (R : List Rw) (w : World) (hb : 1 ≤ B ∧ B ≤ 256) (hP0 : P0 ≤ 70000) (hP : P ≤ 70000) (hP0B : P0 * B ≤ 70000) (hPB : P * B ≤ 70000) (hS : S ≤ P0 * B)
    (hm16 : R.length ≤ P * B) (hMt : Mt w u ls) (hlen : ls.length = P0 + P + P + P) (hc : ls.length ≤ c) (hu : (u = none ∧ c = 0) ∨ ∃ mb mo, u = some ⟨mb, mo, none⟩) (hfull : ∀ l ∈ ls, l.length = B) (hUl : ∀ l ∈ ls, ∀ x ∈ l, U x)
    (hps : Ls w up ps) (hup : up = none → cp = 0) (hpl : ps.length ≤ 65536) (hR : Rws w ur R) :
    Calls Try.prog 24 #[.agg #[.int .u64 p, .int .i64 (B : Int), .int .i64 q, .int .i64 k, .int .i64 n, .int .i64 (S : Int), .int .i64 R.length, .int .i64 (P0 : Nat), .int .i64 (P : Nat), .int .i64 (P : Nat), .int .i64 (P : Nat)], .agg #[.int .u64 p, .int .i64 pub, .int .i64 vs, .slice ur R.length cr], .slice up ps.length cp, .slice u ls.length c] w
      (Gives (.tuple #[.bool (linC p (wsC ls B P0 P S ps) R (eleV ls B P0 P P) R.length), .bool (quadC (gaps p ls P0 P B))]) w) := by
  obtain ⟨lb, hlb⟩ : ∃ x, linC p (wsC ls B P0 P S ps) R (eleV ls B P0 P P) R.length = x := ⟨_, rfl⟩
  have cl : Kept (∀ w', Below w.heap.size w w' → Calls Try.prog 45 #[.agg #[.int .u64 p, .int .i64 (B : Int), .int .i64 q, .int .i64 k, .int .i64 n, .int .i64 (S : Int), .int .i64 R.length, .int .i64 (P0 : Nat), .int .i64 (P : Nat), .int .i64 (P : Nat), .int .i64 (P : Nat)], .agg #[.int .u64 p, .int .i64 pub, .int .i64 vs, .slice ur R.length cr], .slice up ps.length cp, .slice u ls.length c] w' (Gives (.bool lb) w')) := ⟨fun w' hw => by
    rw [← hlb]
    exact linear_c B P0 P S p q k n pub vs u c ls up cp ps ur cr R w' hb hP0 hP hP0B hPB hS hm16 (hMt.below (Nat.le_refl _) hw) hlen hc hu hfull hUl (hps.below (Nat.le_refl _) hw) hup hpl (hR.below (Nat.le_refl _) hw)⟩
  have cd : Kept (∀ w', Below w.heap.size w w' → Calls Try.prog 37 #[.agg #[.int .u64 p, .int .i64 (B : Int), .int .i64 q, .int .i64 k, .int .i64 n, .int .i64 (S : Int), .int .i64 R.length, .int .i64 (P0 : Nat), .int .i64 (P : Nat), .int .i64 (P : Nat), .int .i64 (P : Nat)], .slice u ls.length c] w' (GivesGaps P (gaps p ls P0 P B) w')) := ⟨fun w' hw =>
    dif_c B P0 P p q k n S R.length u c ls w' hb hP0 hP hu (hMt.below (Nat.le_refl _) hw) hlen hc hfull⟩
  obtain ⟨M, hM⟩ : ∃ m, ls.length = m := ⟨_, rfl⟩
  have ct : Kept (∀ w', Calls Try.prog 43 #[.agg #[.int .u64 p, .int .i64 (B : Int), .int .i64 q, .int .i64 k, .int .i64 n, .int .i64 (S : Int), .int .i64 R.length, .int .i64 (P0 : Nat), .int .i64 (P : Nat), .int .i64 (P : Nat), .int .i64 (P : Nat)]] w' (Gives (.int .i64 (M : Int)) w')) := ⟨fun w' => by
    have := total_c p B q k n S R.length P0 P P P w' (by omega) (by omega) (by omega) (by omega)
    rw [show (P0 : Int) + (P : Int) + (P : Int) + (P : Int) = (M : Int) by omega] at this
    exact this⟩
  have cf : Kept (∀ w', Below w.heap.size w w' → Calls Try.prog 44 #[.agg #[.int .u64 p, .int .i64 (B : Int), .int .i64 q, .int .i64 k, .int .i64 n, .int .i64 (S : Int), .int .i64 R.length, .int .i64 (P0 : Nat), .int .i64 (P : Nat), .int .i64 (P : Nat), .int .i64 (P : Nat)], .slice u ls.length c] w' (Gives (.bool true) w')) := ⟨fun w' hw => by
    have := full_c p B q k n S R.length P0 P P P u c ls w' (hMt.below (Nat.le_refl _) hw)
    rw [fullB_yes hfull] at this
    exact this⟩
  have hrow : Kept (∀ l ∈ gaps p ls P0 P B, l.length = B) := ⟨gaps_rows p ls P0 P B⟩
  have hgl : Kept ((gaps p ls P0 P B).length = P) := ⟨gaps_len p ls P0 P B⟩
  rw [hlb]
  rw [hM] at cl cd cf ⊢
  obtain ⟨gs, hgs⟩ : ∃ gs, gaps p ls P0 P B = gs := ⟨_, rfl⟩
  rw [hgs] at cd hrow hgl ⊢
  clear hlb hlen hc hu hfull hUl hps hup hpl hR hMt hM hgs hm16 hS hP0B hPB hP0
  generalize R.length = m at *
  generalize ps.length = np at *
  go_enter Try.func24, Try.ntmps24
  go_wp2_with (first | (go_at_call 43; (first | with_reducible refine use1 (ct.out _) ?_ | with_reducible refine use (ct.out _) ?_); intro pw) | (go_at_call 44; (first | with_reducible refine use1 (cf.out _ (by repeat (first | exact Below.refl _ _ | refine Below.later ?_ _ | refine Below.box ?_ _ | refine Below.drew ?_ | refine Below.put ?_ (by dsimp only; omega) _))) ?_ | with_reducible refine use (cf.out _ (by repeat (first | exact Below.refl _ _ | refine Below.later ?_ _ | refine Below.box ?_ _ | refine Below.drew ?_ | refine Below.put ?_ (by dsimp only; omega) _))) ?_); intro pw) | (go_at_call 37; refine (cd.out _ (by repeat (first | exact Below.refl _ _ | refine Below.later ?_ _ | refine Below.box ?_ _ | refine Below.drew ?_ | refine Below.put ?_ (by dsimp only; omega) _))).mono ?_; rintro e w2 ⟨G, rfl, hB, hMt⟩; refine Stop.out ?_))
  refine ⟨?_⟩
  have hB2 : Kept (Below w.heap.size w w2) := ⟨Below.next (by repeat (first | exact Below.refl _ _ | refine Below.later ?_ _ | refine Below.box ?_ _ | refine Below.drew ?_ | refine Below.put ?_ (by dsimp only; omega) _)) hB⟩
  have l0 : w2.cell? ⟨w.heap.size, 0, none⟩ = some (Value.int .u64 p) := by rw [hB.cell (p := ⟨w.heap.size, 0, none⟩) (by simp)]; simp [go_sem]
  have l1 : w2.cell? ⟨w.heap.size, 1, none⟩ = some (.int .i64 (B : Int)) := by rw [hB.cell (p := ⟨w.heap.size, 1, none⟩) (by simp)]; simp [go_sem]
  have l2 : w2.cell? ⟨w.heap.size, 2, none⟩ = some (.int .i64 q) := by rw [hB.cell (p := ⟨w.heap.size, 2, none⟩) (by simp)]; simp [go_sem]
  have l3 : w2.cell? ⟨w.heap.size, 3, none⟩ = some (.int .i64 k) := by rw [hB.cell (p := ⟨w.heap.size, 3, none⟩) (by simp)]; simp [go_sem]
  have l4 : w2.cell? ⟨w.heap.size, 4, none⟩ = some (.int .i64 n) := by rw [hB.cell (p := ⟨w.heap.size, 4, none⟩) (by simp)]; simp [go_sem]
  have l5 : w2.cell? ⟨w.heap.size, 5, none⟩ = some (.int .i64 (S : Int)) := by rw [hB.cell (p := ⟨w.heap.size, 5, none⟩) (by simp)]; simp [go_sem]
  have l6 : w2.cell? ⟨w.heap.size, 6, none⟩ = some (.int .i64 (m : Int)) := by rw [hB.cell (p := ⟨w.heap.size, 6, none⟩) (by simp)]; simp [go_sem]
  have l7 : w2.cell? ⟨w.heap.size, 7, none⟩ = some (.int .i64 (P0 : Nat)) := by rw [hB.cell (p := ⟨w.heap.size, 7, none⟩) (by simp)]; simp [go_sem]
  have l8 : w2.cell? ⟨w.heap.size, 8, none⟩ = some (.int .i64 (P : Nat)) := by rw [hB.cell (p := ⟨w.heap.size, 8, none⟩) (by simp)]; simp [go_sem]
  have l9 : w2.cell? ⟨w.heap.size, 9, none⟩ = some (.int .i64 (P : Nat)) := by rw [hB.cell (p := ⟨w.heap.size, 9, none⟩) (by simp)]; simp [go_sem]
  have l10 : w2.cell? ⟨w.heap.size, 10, none⟩ = some (.int .i64 (P : Nat)) := by rw [hB.cell (p := ⟨w.heap.size, 10, none⟩) (by simp)]; simp [go_sem]
  have t0 : w2.cell? ⟨w.heap.size + 1, 0, none⟩ = some (.int .u64 p) := by rw [hB.cell (p := ⟨w.heap.size + 1, 0, none⟩) (by simp)]; simp [go_sem]
  have t1 : w2.cell? ⟨w.heap.size + 1, 1, none⟩ = some (.int .i64 pub) := by rw [hB.cell (p := ⟨w.heap.size + 1, 1, none⟩) (by simp)]; simp [go_sem]
  have t2 : w2.cell? ⟨w.heap.size + 1, 2, none⟩ = some (.int .i64 vs) := by rw [hB.cell (p := ⟨w.heap.size + 1, 2, none⟩) (by simp)]; simp [go_sem]
  have t3 : w2.cell? ⟨w.heap.size + 1, 3, none⟩ = some (.slice ur m cr) := by rw [hB.cell (p := ⟨w.heap.size + 1, 3, none⟩) (by simp)]; simp [go_sem]
  have lt0 : w.heap.size < w2.heap.size := by have := hB.size; simp at this; omega
  have lt1 : w.heap.size + 1 < w2.heap.size := by have := hB.size; simp at this; omega
  have kg := (⟨hMt.get hgl.out⟩ : Kept _)
  clear hB hMt cd cf ct
  go_wp2
  go_loopw [10, 30] (fun vq vj wr => ∃ (j : Nat) (qb : Bool), vq = .bool qb ∧ vj = .int .i64 (j : Int) ∧ j ≤ P ∧ Below w2.heap.size w2 wr ∧ Kept (qb = (gs.take j).all zeroR)) (fun _ vj _ => ((P : Int) - intOf vj).toNat)
  case atStart => exact ⟨0, true, rfl, rfl, by omega, (by repeat (first | exact Below.refl _ _ | refine Below.later ?_ _ | refine Below.box ?_ _ | refine Below.drew ?_ | refine Below.put ?_ (by dsimp only; omega) _)), ⟨rfl⟩⟩
  case round =>
    obtain ⟨j, qb, rfl, rfl, hj, hBr, hI⟩ := hrel
    obtain ⟨q4, rfl⟩ := after_of hBr
    clear hBr
    by_cases h : j < P
    · obtain ⟨b1, o1, l, v, cl', hGo, hl, hb1, hc1, hL⟩ := kg.out j h
      injection hGo with hGo
      injection hGo with hG1 hG2
      subst hG1 hG2
      rw [Nat.zero_add] at hc1
      have hlB := hrow.out l (List.mem_of_getElem? hl)
      rw [hlB] at hc1
      have kl := (⟨hL.get hlB⟩ : Kept _)
      have hnx : Kept ((gs.take (j + 1)).all zeroR = ((gs.take j).all zeroR && zeroR l)) := ⟨by rw [List.take_add_one, hl, List.all_append]; simp⟩
      have hlk : Kept (l.length = B) := ⟨hlB⟩
      clear hL hlB hl
      go_wp2
      go_loopw [10, 36] (fun vq vk wr => ∃ (k : Nat) (qb : Bool), vq = .bool qb ∧ vk = .int .i64 (k : Int) ∧ k ≤ B ∧ Below w2.heap.size w2 wr ∧ Kept (qb = ((gs.take j).all zeroR && zeroR (l.take k)))) (fun _ vk _ => ((B : Int) - intOf vk).toNat)
      case atStart => exact ⟨0, qb, rfl, rfl, by omega, (by repeat (first | exact Below.refl _ _ | refine Below.later ?_ _ | refine Below.box ?_ _ | refine Below.drew ?_ | refine Below.put ?_ (by dsimp only; omega) _)), ⟨by rw [hI.out]; simp [zeroR]⟩⟩
      case round =>
        clear hI
        obtain ⟨kk, qb, rfl, rfl, hk, hBr, hI⟩ := hrel
        obtain ⟨q5, rfl⟩ := after_of hBr
        clear hBr
        by_cases h2 : kk < B
        · obtain ⟨b2, o2, x, rfl, hx, hb2, hxc, hxU⟩ := kl.out kk h2
          have hI2 : Kept ((qb && (x == 0)) = ((gs.take j).all zeroR && zeroR (l.take (kk + 1)))) := ⟨by
            rw [hI.out]
            unfold zeroR
            rw [List.take_add_one, hx, List.all_append, ← Bool.and_assoc]; simp⟩
          clear hI hx
          cases qb
          · go_wp2
            go_roundw
            case rel => exact ⟨kk + 1, false, rfl, by go_num, by omega, (by repeat (first | exact Below.refl _ _ | refine Below.later ?_ _ | refine Below.box ?_ _ | refine Below.drew ?_ | refine Below.put ?_ (by dsimp only; omega) _)), ⟨by rw [← hI2.out]; rfl⟩⟩
            case measure => first | (simp [intOf]; omega) | (simp [intOf]; done)
          · go_wp2
            go_roundw
            case rel => exact ⟨kk + 1, x == 0, rfl, by go_num, by omega, (by repeat (first | exact Below.refl _ _ | refine Below.later ?_ _ | refine Below.box ?_ _ | refine Below.drew ?_ | refine Below.put ?_ (by dsimp only; omega) _)), ⟨by rw [← hI2.out]; rfl⟩⟩
            case measure => first | (simp [intOf]; omega) | (simp [intOf]; done)
        · have hkB : kk = B := by omega
          have hI2 : Kept (qb = (gs.take (j + 1)).all zeroR) := ⟨by rw [hI.out, hnx.out, show l.take kk = l from List.take_of_length_le (by rw [hlk.out]; omega)]⟩
          clear hI
          go_wp2
          go_roundw
          case rel => exact ⟨j + 1, qb, rfl, by go_num, by omega, (by repeat (first | exact Below.refl _ _ | refine Below.later ?_ _ | refine Below.box ?_ _ | refine Below.drew ?_ | refine Below.put ?_ (by dsimp only; omega) _)), hI2⟩
          case measure => first | (simp [intOf]; omega) | (simp [intOf]; done)
    · have hI2 : Kept (quadC gs = qb) := ⟨by rw [hI.out, List.take_of_length_le (by rw [hgl.out]; omega)]; rfl⟩
      clear hI kg
      go_wp2_with (first | (go_at_call 45; (first | with_reducible refine use1 (cl.out _ (Below.later hB2.out _)) ?_ | with_reducible refine use (cl.out _ (Below.later hB2.out _)) ?_); intro pw))
      go_ret2
      exact ⟨by rw [hI2.out]; rfl, by first | exact Below.next hB2.out (by repeat (first | exact Below.refl _ _ | refine Below.later ?_ _ | refine Below.box ?_ _ | refine Below.drew ?_ | refine Below.put ?_ (by dsimp only; omega) _)) | exact Below.later hB2.out _⟩
end Go.Proofs.Ytkpkgjniicnkcaa
