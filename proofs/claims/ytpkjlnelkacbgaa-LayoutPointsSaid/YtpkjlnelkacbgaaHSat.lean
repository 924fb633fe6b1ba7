/- table.Value; the reference's Holds, First, Satisfied. -/
import Derived.Test.YtpkjlnelkacbgaaQM
import Derived.Test.YtpkjlnelkacbgaaHTabU
namespace Go.Proofs.Ytpkjlnelkacbgaa
open Go.RowKit Go.Sort

set_option maxHeartbeats 1000000 in
theorem tvalue_c (p : Int) (u : Option Addr) (c : Nat) (l : List (Int × Int)) (uw : Option Addr) (cw : Nat) (ws : List Int) (w : World) (h1 : Tm w u l) (h2 : Ls w uw ws) :
    Calls Try.prog 47 #[.int .u64 p, .slice u l.length c, .slice uw ws.length cw] w (Gives (.int .u64 (valL p ws l)) w) := by
  obtain ⟨m, hm⟩ : ∃ m, l.length = m := ⟨_, rfl⟩
  obtain ⟨n, hn⟩ : ∃ n, ws.length = n := ⟨_, rfl⟩
  have hs1 := h1.small
  have hs2 := h2.small
  have k1 := (⟨h1.get hm⟩ : Kept _)
  have k2 := (⟨h2.get hn⟩ : Kept _)
  have e1 : Kept (l.length = m) := ⟨hm⟩
  have e2 : Kept (ws.length = n) := ⟨hn⟩
  rw [hm] at hs1 ⊢
  rw [hn] at hs2 ⊢
  clear h1 h2 hm hn
  go_enter Try.func47, Try.ntmps47
  go_wp2
  go_loopw [8, 15] (fun vs v wr => ∃ (acc : Int) (k : Nat), vs = .int .u64 acc ∧ v = .int .i64 (k : Int) ∧ Below (w.alloc (.cells #[.int .u64 p] 79)).heap.size (w.alloc (.cells #[.int .u64 p] 79)) wr ∧ k ≤ m ∧ U acc ∧ Kept (valL p ws (l.take k) = acc)) (fun _ v _ => (m : Int).toNat - (intOf v).toNat)
  case atStart => exact ⟨0, 0, rfl, rfl, (by repeat (first | exact Below.refl _ _ | refine Below.later ?_ _ | refine Below.box ?_ _ | refine Below.drew ?_ | refine Below.put ?_ (by dsimp only; omega) _)), by omega, ⟨by decide, by decide⟩, ⟨rfl⟩⟩
  case round =>
    obtain ⟨acc, k, rfl, rfl, hBr, hk, hU, hI⟩ := hrel
    obtain ⟨q0, rfl⟩ := after_of hBr
    clear hBr
    by_cases h : k < m
    · obtain ⟨b1, o1, x, y, rfl, hx1, hb1, hc1, hc2, hX, hY⟩ := k1.out k h
      have hI2 : Kept (valL p ws (l.take (k + 1)) = valS p ws acc (x, y)) := ⟨by rw [valL_next hx1, hI.out]⟩
      by_cases g1 : 0 ≤ x
      · by_cases g2 : x < n
        · obtain ⟨j, rfl⟩ : ∃ j : Nat, x = j := ⟨x.toNat, by omega⟩
          obtain ⟨b2, o2, z, rfl, hz, hb2, hc3, hZ⟩ := k2.out j (by omega)
          have hU2 : U (fmul p y z) := fmul_U
          have hU3 : U (fadd p acc (fmul p y z)) := fadd_U
          have hI3 : Kept (valL p ws (l.take (k + 1)) = fadd p acc (fmul p y z)) := ⟨by
            rw [hI2.out, valS]; simp only []; rw [if_pos ⟨g1, by rw [e2.out]; exact g2⟩, Int.toNat_natCast, List.getD, hz]; rfl⟩
          have cm : Kept (∀ w, Calls Try.prog 40 #[.agg #[.int .u64 p], .int .u64 y, .int .u64 z] w (Gives (.int .u64 (fmul p y z)) w)) := ⟨fun w => mul_c p y z w hY hZ⟩
          have ca : Kept (∀ w, Calls Try.prog 46 #[.agg #[.int .u64 p], .int .u64 acc, .int .u64 (fmul p y z)] w (Gives (.int .u64 (fadd p acc (fmul p y z))) w)) := ⟨fun w => add_c p acc _ w hU hU2⟩
          have hlt1 : b1 < w.heap.size + 1 := by omega
          have hlt2 : b2 < w.heap.size + 1 := by omega
          have hltA : w.heap.size < w.heap.size + 1 + q0.os.size + 1 := by omega
          have hltB : b2 < w.heap.size + 1 + q0.os.size + 1 := by omega
          have hltC : b2 < w.heap.size + 1 + q0.os.size := by omega
          have hltD : w.heap.size < w.heap.size + 1 + q0.os.size := by omega
          have hltE : w.heap.size + 1 + q0.os.size < w.heap.size + 1 + q0.os.size + 1 := by omega
          clear hI hI2 k1 k2 hx1 hz e1 e2 hX hY hZ hU
          generalize fadd p acc (fmul p y z) = A at *
          generalize fmul p y z = B at *
          go_wp2
          first | refine region_quiet1 (by kernel_rfl) ?_ | refine region_quiet (by kernel_rfl) ?_
          repeat (go_big_quiet_step (first | (go_at_call 40; with_reducible exact quiet (cm.out _)) | (go_at_call 46; with_reducible exact quiet (ca.out _))))
          refine wpQuiet_nil ?_
          intro _
          go_wp2
          go_roundw
          case rel => exact ⟨A, k + 1, rfl, by go_num, (by repeat (first | exact Below.refl _ _ | refine Below.later ?_ _ | refine Below.box ?_ _ | refine Below.drew ?_ | refine Below.put ?_ (by dsimp only; omega) _)), by omega, hU3, hI3⟩
          case measure => first | (simp [intOf]; omega) | (simp [intOf]; done)
        · have hI3 : Kept (valL p ws (l.take (k + 1)) = acc) := ⟨by rw [hI2.out, valS, if_neg (by rw [e2.out]; intro hh; exact g2 hh.2)]⟩
          have g3 : decide (x < (n : Int)) = false := by simp; omega
          clear hI hI2 k1 k2 hx1 e1 e2
          go_wp2
          go_roundw
          case rel => exact ⟨acc, k + 1, rfl, by go_num, (by repeat (first | exact Below.refl _ _ | refine Below.later ?_ _ | refine Below.box ?_ _ | refine Below.drew ?_ | refine Below.put ?_ (by dsimp only; omega) _)), by omega, hU, hI3⟩
          case measure => first | (simp [intOf]; omega) | (simp [intOf]; done)
      · have hI3 : Kept (valL p ws (l.take (k + 1)) = acc) := ⟨by rw [hI2.out, valS, if_neg (by intro hh; exact g1 hh.1)]⟩
        have g3 : decide (0 ≤ x) = false := by simp; omega
        clear hI hI2 k1 k2 hx1 e1 e2
        go_wp2
        go_roundw
        case rel => exact ⟨acc, k + 1, rfl, by go_num, (by repeat (first | exact Below.refl _ _ | refine Below.later ?_ _ | refine Below.box ?_ _ | refine Below.drew ?_ | refine Below.put ?_ (by dsimp only; omega) _)), by omega, hU, hI3⟩
        case measure => first | (simp [intOf]; omega) | (simp [intOf]; done)
    · have hI2 : Kept (valL p ws l = acc) := ⟨by rw [← hI.out, List.take_of_length_le (by have := e1.out; omega)]⟩
      clear hI k1 k2 e1 e2
      go_wp2
      go_ret
      exact ⟨by rw [hI2.out]; rfl, (by repeat (first | exact Below.refl _ _ | refine Below.later ?_ _ | refine Below.box ?_ _ | refine Below.drew ?_ | refine Below.put ?_ (by dsimp only; omega) _))⟩

def holdB (p : Int) (ws : List Int) (r : Rw) : Bool := fmul p (valL p ws r.a.l) (valL p ws r.b.l) == valL p ws r.c.l
theorem valUU {p : Int} {ws : List Int} : ∀ (l : List (Int × Int)) (acc : Int), U acc → U (l.foldl (valS p ws) acc)
  | [], acc, h => h
  | x :: l, acc, h => valUU l _ (by
    unfold valS; split
    · exact fadd_U
    · exact h)
end Go.Proofs.Ytpkjlnelkacbgaa
