/- moidoreref05.Apply. -/
import Derived.Test.YtjnlnbkdnjainaaHL5a
namespace Go.Proofs.Ytjnlnbkdnjainaa
open Go.RowKit Go.Sort

set_option maxRecDepth 100000
def GivesV (l : List Int) (w : World) (e : Ending) (w' : World) : Prop := ∃ u c, e = .returned (.slice u l.length c) ∧ Ls w' u l ∧ (u = none → c = 0) ∧ Below w.heap.size w w'
/-- The product of a matrix and a vector. -/
def mulV (p : Int) (ls : List (List Int)) (v : List Int) : List Int := ls.map fun l => ldot p l v
set_option maxHeartbeats 4000000 in
theorem rapply_lc (p : Int) (n m : Nat) (u v : Option Addr) (c d : Nat) (ls : List (List Int)) (b : List Int) (w : World) (h1 : Mt w u ls) (h2 : Ls w v b) (hb : b.length = m) (hv : vld p = true) (hM : vldM ls = true) (hn : ls.length = n) (hm : colsN ls = m) :
    Calls Try.prog 35 #[.int .u64 p, .slice u n c, .slice v m d] w (GivesV (mulV p ls b) w) := by
  obtain ⟨g1, g2, g3⟩ := vldM_row hM
  have hs := h1.small
  have hs2 := h2.small
  have co : Kept (∀ w', Below w.heap.size w w' → Calls Try.prog 70 #[.int .u64 p, .slice u n c] w' (Gives (.bool true) w')) := ⟨fun w' hw => by have := rok_c p u c ls w' (h1.below (Nat.le_refl _) hw); rw [hv, hM, hn] at this; exact this⟩
  have cc : Kept (∀ w', Below w.heap.size w w' → Calls Try.prog 39 #[.slice u n c] w' (Gives (.int .i64 (m : Int)) w')) := ⟨fun w' hw => by have := rcolumns_c u c ls w' (h1.below (Nat.le_refl _) hw); rw [hn, hm] at this; exact this⟩
  have k1 := (⟨h1.get hn⟩ : Kept _)
  have cd : Kept (∀ w' v1 d1 l, Below w.heap.size w w' → l ∈ ls → Ls w' v1 l → Calls Try.prog 71 #[.int .u64 p, .slice v1 m d1, .slice v m d] w' (Gives (.int .u64 (ldot p l b)) w')) := ⟨fun w' v1 d1 l hw hl h => by have := rdot_c p v1 v d1 d l b w' h (h2.below (Nat.le_refl _) hw); rw [hb, g3 l hl, hm] at this; exact this⟩
  have kl : Kept (∀ l ∈ ls, l.length = m) := ⟨fun l hl => by rw [g3 l hl, hm]⟩
  have kn : Kept (ls.length = n) := ⟨hn⟩
  have hn6 : n ≤ 64 := by omega
  have hm6 : m ≤ 64 := by omega
  obtain ⟨R, hR⟩ : ∃ R, mulV p ls b = R := ⟨_, rfl⟩
  have kR := (⟨hR⟩ : Kept _)
  rw [hR]
  clear h1 h2 hM hn hm g1 g2 g3 hs hs2 hb hR hv
  go_enter Try.func35, Try.ntmps35
  go_wp2_with (first | (go_at_call 70; (first | with_reducible refine use1 (co.out _ (by repeat (first | exact Below.refl _ _ | refine Below.later ?_ _ | refine Below.box ?_ _ | refine Below.drew ?_ | refine Below.put ?_ (by dsimp only; omega) _))) ?_ | with_reducible refine use (co.out _ (by repeat (first | exact Below.refl _ _ | refine Below.later ?_ _ | refine Below.box ?_ _ | refine Below.drew ?_ | refine Below.put ?_ (by dsimp only; omega) _))) ?_); intro pw) | (go_at_call 39; (first | with_reducible refine use1 (cc.out _ (by repeat (first | exact Below.refl _ _ | refine Below.later ?_ _ | refine Below.box ?_ _ | refine Below.drew ?_ | refine Below.put ?_ (by dsimp only; omega) _))) ?_ | with_reducible refine use (cc.out _ (by repeat (first | exact Below.refl _ _ | refine Below.later ?_ _ | refine Below.box ?_ _ | refine Below.drew ?_ | refine Below.put ?_ (by dsimp only; omega) _))) ?_); intro pw))
  obtain ⟨w0, hw0⟩ : ∃ w0, w0 = after w pw := ⟨_, rfl⟩
  have hs0 : w.heap.size + pw.os.size = w0.heap.size := by rw [hw0]; simp
  rw [hs0, ← hw0]
  have kB0 : Kept (Below w.heap.size w w0) := ⟨by rw [hw0]; exact (by repeat (first | exact Below.refl _ _ | refine Below.later ?_ _ | refine Below.box ?_ _ | refine Below.drew ?_ | refine Below.put ?_ (by dsimp only; omega) _))⟩
  have kG0 : Kept (Grown 22 w0 (w0.alloc (.cells #[] 22)) (.slice (some ⟨w0.heap.size, 0, none⟩) 0 0) 0 ((R.take 0).map fun z => Value.int .u64 z)) := ⟨by rw [List.take_zero]; exact Grown.empty 22 w0⟩
  generalize w0.alloc (.cells #[] 22) = w1 at kG0 ⊢
  generalize hV0 : Value.slice (some ⟨w0.heap.size, 0, none⟩) 0 0 = V0 at kG0 ⊢
  clear hw0 hs0 hV0 cc co
  go_loopw [7, 8] (fun vo v wr => ∃ (i : Nat), v = .int .i64 (i : Int) ∧ i ≤ n ∧ Kept (Grown 22 w0 wr vo i ((R.take i).map fun z => Value.int .u64 z))) (fun _ v _ => ((n : Int) - intOf v).toNat)
  case atStart => exact ⟨0, rfl, by omega, kG0⟩
  case round =>
    clear kG0
    obtain ⟨i, rfl, hi, hG⟩ := hrel
    obtain ⟨w2, rfl⟩ : ∃ x, x = wr := ⟨wr, rfl⟩
    have kB2 : Kept (Below w.heap.size w w2) := ⟨Below.next kB0.out hG.out.below⟩
    by_cases h : i < n
    · obtain ⟨b1, o1, l, v1, d1, rfl, hx1, hb1, hc1, hL1⟩ := k1.out i h
      have hlm := kl.out l (List.mem_of_getElem? hx1)
      rw [hlm] at hc1
      have hc1' : w2.cell? ⟨b1, o1 + i, none⟩ = some (.slice v1 m d1) := by rw [kB2.out.cell (p := ⟨b1, o1 + i, none⟩) hb1]; exact hc1
      have hb1' : b1 < w2.heap.size := by have := kB2.out.size; omega
      have cd2 : Kept (∀ w', Below w2.heap.size w2 w' → Calls Try.prog 71 #[.int .u64 p, .slice v1 m d1, .slice v m d] w' (Gives (.int .u64 (ldot p l b)) w')) := ⟨fun w' hw => cd.out w' v1 d1 l (Below.next kB2.out hw) (List.mem_of_getElem? hx1) (hL1.below (Nat.le_refl _) (Below.next kB2.out hw))⟩
      have kE : Kept (((R.take (i + 1)).map fun z => Value.int .u64 z) = ((R.take i).map fun z => Value.int .u64 z) ++ [.int .u64 (ldot p l b)]) := ⟨by
        have : R[i]? = some (ldot p l b) := by rw [← kR.out, mulV, List.getElem?_map, hx1]; rfl
        rw [take_next this, List.map_append]; rfl⟩
      generalize ldot p l b = y at *
      clear hc1 hx1 hL1 hlm hb1
      go_wp2_with (first | (go_at_call 71; (first | with_reducible refine use1 (cd2.out _ (by repeat (first | exact Below.refl _ _ | refine Below.later ?_ _ | refine Below.box ?_ _ | refine Below.drew ?_ | refine Below.put ?_ (by dsimp only; omega) _))) ?_ | with_reducible refine use (cd2.out _ (by repeat (first | exact Below.refl _ _ | refine Below.later ?_ _ | refine Below.box ?_ _ | refine Below.drew ?_ | refine Below.put ?_ (by dsimp only; omega) _))) ?_); intro pw) | (at_builtin; refine Stop.out ?_))
      refine ⟨?_⟩
      refine wpList_push (W := w0) 32 22 (.int .u64 0) 8 Try.underlying32 (by kernel_rfl) rfl (by decide) rfl _ _ rfl _ _ _ (hG.out.keep (by repeat (first | exact Below.refl _ _ | refine Below.later ?_ _ | refine Below.box ?_ _ | refine Below.drew ?_ | refine Below.put ?_ (by dsimp only; omega) _))) rfl (.int .u64 y) rfl _ rfl (by rw [show w2.heap.size + pw.os.size = (after w2 pw).heap.size from by simp, World.cell?_alloc_new]; rfl) (by omega) ?_
      intro v2 w3 hG2
      have hG3 : Kept (Grown 22 w0 w3 v2 (i + 1) ((R.take (i + 1)).map fun z => Value.int .u64 z)) := ⟨by rw [kE.out]; exact hG2⟩
      clear hG hG2
      go_wp2
      go_roundw
      case rel => exact ⟨i + 1, by go_num, by omega, hG3⟩
      case measure => first | (simp [intOf]; omega) | (simp [intOf]; done)
    · have hin : i = n := by omega
      have hRl : R.length = n := by rw [← kR.out, mulV, List.length_map]; exact kn.out
      have hG2 := hG.out
      rw [List.take_of_length_le (by omega)] at hG2
      obtain ⟨u', c', rfl, _⟩ := hG2.form
      have hL := hG2.ls (l := R) rfl (by omega) (fun x hx => by rw [← kR.out, mulV] at hx; obtain ⟨l, _, rfl⟩ := List.mem_map.1 hx; exact ldot_U)
      have kL := (⟨hL⟩ : Kept _)
      clear hG hG2 hL hin k1
      go_wp2
      exact bodyPost_ret (v := .slice u' i c') (by simp [results, Try.results35, go_sem]) rfl ⟨u', c', by rw [kL.out.2.2], kL.out.1, kL.out.2.1, kB2.out⟩
end Go.Proofs.Ytjnlnbkdnjainaa
