/- The examples of layer 2 hold; the argument of its laws; its prime. -/
import Derived.Test.YteljpelagpghcaaConZ
import Derived.Test.YteljpelagpghcaaEq
import Derived.Test.YteljpelagpghcaaRoot
import Derived.Test.YteljpelagpghcaaLaw
namespace Go.Proofs.Yteljpelagpghcaa
open Go.RowKit

theorem big_of {x : Int} (h : U x) : BigB x.toNat := ⟨by have := h.1; have := h.2; omega⟩
theorem awake02_c (w : World) : Calls Try.prog 11 #[] w (Gives (.bool true) w) := by
  have a1 : Kept (∀ w, Calls Try.prog 22 #[.agg #[.int .u64 17], .agg #[.int .u64 1, .int .u64 2], .agg #[.int .u64 3, .int .u64 4]] w (Gives (.agg #[.int .u64 10, .int .u64 10]) w)) := ⟨fun w => by
    have := xmul_c 17 (1, 2) (3, 4) w ⟨⟨by decide, by decide⟩, ⟨by decide, by decide⟩⟩ ⟨⟨by decide, by decide⟩, ⟨by decide, by decide⟩⟩; rw [show xmul 17 (1, 2) (3, 4) = (10, 10) from by decide +kernel] at this; exact this⟩
  have a2 : Kept (∀ w, Calls Try.prog 15 #[.agg #[.int .u64 17], .agg #[.int .u64 1, .int .u64 2]] w (Gives (.int .u64 6) w)) := ⟨fun w => by
    have := xnorm_c 17 (1, 2) w ⟨⟨by decide, by decide⟩, ⟨by decide, by decide⟩⟩; rw [show xnorm 17 (1, 2) = 6 from by decide +kernel] at this; exact this⟩
  have a3 : Kept (∀ w, Calls Try.prog 17 #[.agg #[.int .u64 17], .agg #[.int .u64 1, .int .u64 2]] w (Gives (.agg #[.int .u64 3, .int .u64 11]) w)) := ⟨fun w => by
    have := xinv_c 17 (1, 2) w ⟨by decide, by decide⟩ ⟨⟨by decide, by decide⟩, ⟨by decide, by decide⟩⟩; rw [show xinv 17 (1, 2) = (3, 11) from by decide +kernel] at this; exact this⟩
  have a4 : Kept (∀ w, Calls Try.prog 22 #[.agg #[.int .u64 17], .agg #[.int .u64 0, .int .u64 1], .agg #[.int .u64 0, .int .u64 1]] w (Gives (.agg #[.int .u64 3, .int .u64 0]) w)) := ⟨fun w => by
    have := xmul_c 17 (0, 1) (0, 1) w ⟨⟨by decide, by decide⟩, ⟨by decide, by decide⟩⟩ ⟨⟨by decide, by decide⟩, ⟨by decide, by decide⟩⟩; rw [show xmul 17 (0, 1) (0, 1) = (3, 0) from by decide +kernel] at this; exact this⟩
  go_enter Try.func11, Try.ntmps11
  go_wp2_with (first | (go_at_call 22; (first | with_reducible refine use1 (a1.out _) ?_ | with_reducible refine use (a1.out _) ?_); intro pw) | (go_at_call 15; (first | with_reducible refine use1 (a2.out _) ?_ | with_reducible refine use (a2.out _) ?_); intro pw) | (go_at_call 17; (first | with_reducible refine use1 (a3.out _) ?_ | with_reducible refine use (a3.out _) ?_); intro pw) | (go_at_call 22; (first | with_reducible refine use1 (a4.out _) ?_ | with_reducible refine use (a4.out _) ?_); intro pw))
  repeat (
    (try dsimp only [List.append])
    (first | refine region_big1 (by kernel_rfl) ?_ | refine region_big (by kernel_rfl) ?_)
    repeat (go_big_quiet_step (first | (go_at_call 22; with_reducible exact quiet (a1.out _)) | (go_at_call 15; with_reducible exact quiet (a2.out _)) | (go_at_call 17; with_reducible exact quiet (a3.out _)) | (go_at_call 22; with_reducible exact quiet (a4.out _))))
    refine wpQuiet_nil ?_
    intro _
    go_wp2_with (first | (go_at_call 22; (first | with_reducible refine use1 (a1.out _) ?_ | with_reducible refine use (a1.out _) ?_); intro pw) | (go_at_call 15; (first | with_reducible refine use1 (a2.out _) ?_ | with_reducible refine use (a2.out _) ?_); intro pw) | (go_at_call 17; (first | with_reducible refine use1 (a3.out _) ?_ | with_reducible refine use (a3.out _) ?_); intro pw) | (go_at_call 22; (first | with_reducible refine use1 (a4.out _) ?_ | with_reducible refine use (a4.out _) ?_); intro pw)))
  go_ret
  exact ⟨rfl, (by repeat (first | exact Below.refl _ _ | refine Below.later ?_ _ | refine Below.box ?_ _ | refine Below.drew ?_ | refine Below.put ?_ (by dsimp only; omega) _))⟩

/-- The prime of an argument. -/
def twoP (p k : Int) : Int := if k % 8 = 0 then p else primeOf (k % 8)
theorem twoP_U {p k : Int} (h : U p) : U (twoP p k) := by
  unfold twoP; split
  · exact h
  · exact prime_U _
theorem two_c (p k a b c d : Int) (w : World) (h0 : 0 ≤ k) (h1 : k ≤ 255) : Calls Try.prog 12 #[.agg #[.int .u64 p, .int .u8 k, .int .u64 a, .int .u64 b, .int .u64 c, .int .u64 d]] w (Gives (.int .u64 (twoP p k)) w) := by
  by_cases h : k % 8 = 0
  · have hn : Kept (twoP p k = p) := ⟨by unfold twoP; rw [if_pos h]⟩
    have hb : (k.tmod 8 == 0) = true := by rw [Int.tmod_eq_emod_of_nonneg h0]; simp [h]
    have hb2 : (k % 8 == 0) = true := by simp [h]
    clear h
    go_enter Try.func12, Try.ntmps12
    go_wp2
    go_ret
    exact ⟨by rw [hn.out]; rfl, (by repeat (first | exact Below.refl _ _ | refine Below.later ?_ _ | refine Below.box ?_ _ | refine Below.drew ?_ | refine Below.put ?_ (by dsimp only; omega) _))⟩
  · have hn : Kept (twoP p k = primeOf (k % 8)) := ⟨by unfold twoP; rw [if_neg h]⟩
    have hb : (k.tmod 8 == 0) = false := by rw [Int.tmod_eq_emod_of_nonneg h0]; simp [h]
    have hb2 : (k % 8 == 0) = false := by simp [h]
    have ht : k.tmod 8 = k % 8 := Int.tmod_eq_emod_of_nonneg h0
    have c : Kept (∀ w, Calls Try.prog 21 #[.int .u8 (k % 8)] w (Gives (.int .u64 (primeOf (k % 8))) w)) := ⟨fun w => prime_c _ w (by omega) (by omega)⟩
    generalize primeOf (k % 8) = z at *
    clear h
    go_enter Try.func12, Try.ntmps12
    go_wp2_with (first | (go_at_call 21; (first | with_reducible refine use1 (c.out _) ?_ | with_reducible refine use (c.out _) ?_); intro pw))
    repeat (
      (first | refine region_quiet1 (by kernel_rfl) ?_ | refine region_quiet (by kernel_rfl) ?_)
      repeat (go_big_quiet_step (first | (go_at_call 21; with_reducible exact quiet (c.out _))))
      refine wpQuiet_nil ?_
      intro _
      go_wp2_with (first | (go_at_call 21; (first | with_reducible refine use1 (c.out _) ?_ | with_reducible refine use (c.out _) ?_); intro pw)))
    go_ret
    exact ⟨by rw [hn.out]; rfl, (by repeat (first | exact Below.refl _ _ | refine Below.later ?_ _ | refine Below.box ?_ _ | refine Below.drew ?_ | refine Below.put ?_ (by dsimp only; omega) _))⟩

section
variable {W : World} {base : Nat} {v : Value}
theorem open_two (h : Value.okWide Try.prog W .any base 25 v) : ∃ p k a b c d, v = .agg #[.int .u64 p, .int .u8 k, .int .u64 a, .int .u64 b, .int .u64 c, .int .u64 d] ∧ (U p ∧ 0 ≤ k ∧ k ≤ 255) ∧ (U a ∧ U b) ∧ (U c ∧ U d) := by
  simp only [Value.okWide, Try.underlying25] at h
  obtain ⟨cs, rfl, hsz, ts, hts, _, hcell⟩ := h
  rw [show Try.prog.cellsOf 25 = 6 from by kernel_rfl] at hsz
  rw [show Try.prog.cellTypes Try.prog.depth 25 = some [22, 5, 22, 22, 22, 22] from by kernel_rfl] at hts
  obtain rfl : [22, 5, 22, 22, 22, 22] = ts := by injection hts
  have g : ∀ i, i < 6 → i ≠ 1 → ∃ n, cs[i]? = some (.int .u64 n) ∧ U n := by
    intro i hi h1
    obtain ⟨u, hu, hc⟩ := hcell i cs[i] (by simp)
    have : u = 22 := by
      rcases i with _ | _ | _ | _ | _ | _ | i
      · simpa using hu.symm
      · exact absurd rfl h1
      · simpa using hu.symm
      · simpa using hu.symm
      · simpa using hu.symm
      · simpa using hu.symm
      · omega
    subst this
    obtain ⟨n, hn, hU⟩ := cell_u64 hc
    exact ⟨n, by rw [← hn]; simp, hU⟩
  obtain ⟨k, hk, hk0⟩ : ∃ n, cs[1]? = some (.int .u8 n) ∧ (0 ≤ n ∧ n ≤ 255) := by
    obtain ⟨u, hu, hc⟩ := hcell 1 cs[1] (by simp)
    have : u = 5 := by simpa using hu.symm
    subst this
    obtain ⟨n, hn, h0, h1⟩ := cell_u8 hc
    exact ⟨n, by rw [← hn]; simp, h0, h1⟩
  obtain ⟨p, hp, hUp⟩ := g 0 (by omega) (by omega)
  obtain ⟨a, ha, hUa⟩ := g 2 (by omega) (by omega)
  obtain ⟨b, hb, hUb⟩ := g 3 (by omega) (by omega)
  obtain ⟨c, hc, hUc⟩ := g 4 (by omega) (by omega)
  obtain ⟨d, hd, hUd⟩ := g 5 (by omega) (by omega)
  refine ⟨p, k, a, b, c, d, ?_, ⟨hUp, hk0⟩, ⟨hUa, hUb⟩, ⟨hUc, hUd⟩⟩
  congr 1
  apply Array.ext_getElem?
  intro i
  rcases i with _ | _ | _ | _ | _ | _ | i
  · simpa using hp
  · simpa using hk
  · simpa using ha
  · simpa using hb
  · simpa using hc
  · simpa using hd
  · rw [Array.getElem?_eq_none (by omega), Array.getElem?_eq_none (by simp)]
end
end Go.Proofs.Yteljpelagpghcaa
