/- The reference's binomial coefficients, by Pascal's rows. -/
import Derived.Test.YtkpkgjniicnkcaaCho
import Derived.Test.YtkpkgjniicnkcaaGrw
namespace Go.Proofs.Ytkpkgjniicnkcaa
open Go.RowKit Go.Sort

def sat (n : Nat) : Int := if 9223372036854775808 ≤ n then 9223372036854775808 else n
def prow (i c : Nat) : List Int := (List.range (min i c + 1)).map fun k => sat (ch i k)
theorem prow_len (i c : Nat) : (prow i c).length = min i c + 1 := by simp [prow]
theorem prow_at (i c k : Nat) (h : k ≤ min i c) : (prow i c)[k]? = some (sat (ch i k)) := by
  simp [prow, List.getElem?_range (show k < min i c + 1 by omega)]
theorem sat_U (n : Nat) : 0 ≤ sat n ∧ sat n ≤ 9223372036854775808 := by unfold sat; split <;> omega
theorem prow_U (i c : Nat) : ∀ x ∈ prow i c, U x := by
  intro x hx
  simp only [prow, List.mem_map] at hx
  obtain ⟨k, _, rfl⟩ := hx
  have := sat_U (ch i k)
  exact ⟨by omega, by omega⟩
theorem sat_next (i k : Nat) (x y : Int) (hx : x = sat (ch i k)) (hy : y = sat (ch i (k + 1))) :
    (9223372036854775808 - y ≤ x → sat (ch (i + 1) (k + 1)) = 9223372036854775808) ∧ (¬ 9223372036854775808 - y ≤ x → sat (ch (i + 1) (k + 1)) = x + y) := by
  have e : ch (i + 1) (k + 1) = ch i k + ch i (k + 1) := rfl
  rw [e]
  subst hx hy
  unfold sat
  constructor
  · intro h; repeat' split at h
    all_goals (split <;> omega)
  · intro h; repeat' split at h
    all_goals (repeat' split) <;> omega
theorem ints_append (l : List Int) (x : Int) : (l ++ [x]).map (fun z => Value.int .u64 z) = l.map (fun z => Value.int .u64 z) ++ [.int .u64 x] := by simp

set_option maxHeartbeats 4000000 in
set_option maxRecDepth 100000 in
theorem pas_c (n c : Nat) (w : World) (hn : n ≤ 1024) (hc : c ≤ 1024) : Calls Try.prog 14 #[.int .i64 (n : Int), .int .i64 (c : Int)] w (Gives (.int .u64 (sat (ch n c))) w) := by
  go_enter Try.func14, Try.ntmps14
  go_wp2
  go_loopw [5, 6] (fun vr vi wr => ∃ (i b cap m : Nat), vr = .slice (some ⟨b, 0, none⟩) m cap ∧ vi = .int .i64 (i : Int) ∧ Below w.heap.size w wr ∧ i ≤ n ∧ Kept (m = min i c + 1) ∧ Kept (Ls wr (some ⟨b, 0, none⟩) (prow i c))) (fun _ vi _ => ((n : Int) - intOf vi).toNat)
  case atStart =>
    refine ⟨0, _, _, 1, rfl, rfl, (by repeat (first | exact Below.refl _ _ | refine Below.later ?_ _ | refine Below.box ?_ _ | refine Below.drew ?_ | refine Below.put ?_ (by dsimp only; omega) _)), by omega, ⟨by simp⟩, ⟨?_⟩⟩
    have := (Grown.one 23 w (.int .u64 1)).ls (l := [1]) rfl (by decide) (by intro x hx; simp at hx; subst hx; exact ⟨by decide, by decide⟩)
    rw [show prow 0 c = [1] from by simp [prow, ch, sat]]
    exact this.1
  case round =>
    obtain ⟨i, b, cap, m, rfl, rfl, hB, hi, hm, hL⟩ := hrel
    obtain ⟨W1, rfl⟩ : ∃ x, x = wr := ⟨wr, rfl⟩
    by_cases h : i < n
    · go_wp2
      go_loopw [7, 8] (fun vx vk w2 => ∃ (k : Nat), vk = .int .i64 ((k : Int) + 1) ∧ k ≤ min (i + 1) c ∧ Kept (Grown 23 W1 w2 vx (k + 1) (((prow (i + 1) c).take (k + 1)).map (fun z => .int .u64 z)))) (fun _ vk _ => ((i : Int) + 2 - intOf vk).toNat)
      case atStart =>
        refine ⟨0, rfl, by omega, ⟨?_⟩⟩
        have e : ((prow (i + 1) c).take (0 + 1)).map (fun z => Value.int .u64 z) = [.int .u64 1] := by
          rw [take_next (prow_at (i + 1) c 0 (by omega)), ch_zero]; rfl
        rw [e]
        exact Grown.one _ W1 _
      case round =>
        obtain ⟨k, rfl, hk, hG⟩ := hrel
        by_cases h1 : k ≤ i
        · by_cases h2 : k + 1 ≤ c
          · have hml : (prow i c).length = m := by rw [prow_len, hm.out]
            obtain ⟨b1, o1, x, e1, hx, hb1, hcx, hUx⟩ := (hL.out.below (Nat.le_refl _) hG.out.below).get hml k (by have := hm.out; omega)
            injection e1 with e1
            injection e1 with e1 e2
            subst e1 e2
            rw [prow_at i c k (by omega)] at hx
            injection hx with hx
            rw [Nat.zero_add] at hcx
            by_cases h3 : k + 1 < m
            · obtain ⟨b2, o2, y, e1, hy, hb2, hcy, hUy⟩ := (hL.out.below (Nat.le_refl _) hG.out.below).get hml (k + 1) h3
              injection e1 with e1
              injection e1 with e1 e2
              subst e1 e2
              rw [prow_at i c (k + 1) (by have := hm.out; omega)] at hy
              injection hy with hy
              rw [Nat.zero_add] at hcy
              have hsx := sat_next i k x y hx.symm hy.symm
              have hxs := sat_U (ch i k)
              have hys := sat_U (ch i (k + 1))
              rw [hx] at hxs
              rw [hy] at hys
              clear hx hy
              have hsx : Kept _ := ⟨hsx⟩
              by_cases h4 : 9223372036854775808 - y ≤ x
              · have h5 : Kept (sat (ch (i + 1) (k + 1)) = 9223372036854775808) := ⟨hsx.out.1 h4⟩
                go_wp2_with (first | (at_builtin; refine wpList_push (W := W1) 36 23 (.int .u64 0) 8 Try.underlying36 (by kernel_rfl) rfl (by decide) rfl _ _ rfl _ _ _ (hG.out.box _) rfl (.int .u64 9223372036854775808) rfl _ rfl (by simp) (by omega) ?_; intro v2 w3 hG2; refine Stop.out ?_))
                have hG3 : Kept (Grown 23 W1 w3 v2 (k + 1 + 1) (((prow (i + 1) c).take (k + 1 + 1)).map (fun z => .int .u64 z))) := ⟨by
                  rw [take_next (prow_at (i + 1) c (k + 1) (by omega)), ints_append, h5.out]; exact hG2⟩
                clear hG hG2 hL hsx
                refine ⟨?_⟩
                go_wp2
                go_roundw
                case rel => exact ⟨k + 1, by simp, by omega, hG3⟩
                case measure => first | (simp [intOf]; omega) | (simp [intOf]; done)
              · have h5 : Kept (sat (ch (i + 1) (k + 1)) = x + y) := ⟨hsx.out.2 h4⟩
                go_wp2_with (first | (at_builtin; refine wpList_push (W := W1) 36 23 (.int .u64 0) 8 Try.underlying36 (by kernel_rfl) rfl (by decide) rfl _ _ rfl _ _ _ (hG.out.box _) rfl (.int .u64 (x + y)) rfl _ rfl (by simp) (by omega) ?_; intro v2 w3 hG2; refine Stop.out ?_))
                have hG3 : Kept (Grown 23 W1 w3 v2 (k + 1 + 1) (((prow (i + 1) c).take (k + 1 + 1)).map (fun z => .int .u64 z))) := ⟨by
                  rw [take_next (prow_at (i + 1) c (k + 1) (by omega)), ints_append, h5.out]; exact hG2⟩
                clear hG hG2 hL hsx
                refine ⟨?_⟩
                go_wp2
                go_roundw
                case rel => exact ⟨k + 1, by simp, by omega, hG3⟩
                case measure => first | (simp [intOf]; omega) | (simp [intOf]; done)
            · have hkm : k < m := by have := hm.out; omega
              have hy : (0 : Int) = sat (ch i (k + 1)) := by
                have := hm.out
                rw [ch_over i (k + 1) (by omega)]; rfl
              have hsx := sat_next i k x 0 hx.symm hy
              have hxs := sat_U (ch i k)
              rw [hx] at hxs
              clear hx hy
              have hsx : Kept _ := ⟨hsx⟩
              by_cases h4 : 9223372036854775808 - 0 ≤ x
              · have h5 : Kept (sat (ch (i + 1) (k + 1)) = 9223372036854775808) := ⟨hsx.out.1 h4⟩
                have h6 : 9223372036854775808 ≤ x := by omega
                go_wp2_with (first | (at_builtin; refine wpList_push (W := W1) 36 23 (.int .u64 0) 8 Try.underlying36 (by kernel_rfl) rfl (by decide) rfl _ _ rfl _ _ _ (hG.out.box _) rfl (.int .u64 9223372036854775808) rfl _ rfl (by simp) (by omega) ?_; intro v2 w3 hG2; refine Stop.out ?_))
                have hG3 : Kept (Grown 23 W1 w3 v2 (k + 1 + 1) (((prow (i + 1) c).take (k + 1 + 1)).map (fun z => .int .u64 z))) := ⟨by
                  rw [take_next (prow_at (i + 1) c (k + 1) (by omega)), ints_append, h5.out]; exact hG2⟩
                clear hG hG2 hL hsx
                refine ⟨?_⟩
                go_wp2
                go_roundw
                case rel => exact ⟨k + 1, by simp, by omega, hG3⟩
                case measure => first | (simp [intOf]; omega) | (simp [intOf]; done)
              · have h5 : Kept (sat (ch (i + 1) (k + 1)) = x) := ⟨by have := hsx.out.2 h4; rw [Int.add_zero] at this; exact this⟩
                have h6 : ¬ 9223372036854775808 ≤ x := by omega
                go_wp2_with (first | (at_builtin; refine wpList_push (W := W1) 36 23 (.int .u64 0) 8 Try.underlying36 (by kernel_rfl) rfl (by decide) rfl _ _ rfl _ _ _ (hG.out.box _) rfl (.int .u64 x) rfl _ rfl (by simp) (by omega) ?_; intro v2 w3 hG2; refine Stop.out ?_))
                have hG3 : Kept (Grown 23 W1 w3 v2 (k + 1 + 1) (((prow (i + 1) c).take (k + 1 + 1)).map (fun z => .int .u64 z))) := ⟨by
                  rw [take_next (prow_at (i + 1) c (k + 1) (by omega)), ints_append, h5.out]; exact hG2⟩
                clear hG hG2 hL hsx
                refine ⟨?_⟩
                go_wp2
                go_roundw
                case rel => exact ⟨k + 1, by simp, by omega, hG3⟩
                case measure => first | (simp [intOf]; omega) | (simp [intOf]; done)
          · have hL2 : Kept (∃ b2 cap2, u7 = .slice (some ⟨b2, 0, none⟩) (k + 1) cap2 ∧ Ls wr (some ⟨b2, 0, none⟩) (prow (i + 1) c)) := ⟨by
              have hkk : k + 1 = (prow (i + 1) c).length := by rw [prow_len]; omega
              have hGG := hG.out
              rw [List.take_of_length_le (by omega)] at hGG
              obtain ⟨u, cap2, rfl, hu0, hu1, hlen⟩ := hGG.form
              have hl := hGG.ls rfl (by omega) (prow_U _ _)
              cases u with
              | none => exact absurd (hu0 rfl).1 (by omega)
              | some a =>
                obtain ⟨b2, rfl, _⟩ := hu1 a rfl
                exact ⟨b2, cap2, rfl, hl.1⟩⟩
            have hB2 : Kept (Below w.heap.size w wr) := ⟨Below.next hB hG.out.below⟩
            have hm2 : Kept (k + 1 = min (i + 1) c + 1) := ⟨by omega⟩
            obtain ⟨b2, cap2, rfl, hL3⟩ := hL2.out
            have hL3 : Kept (Ls wr (some ⟨b2, 0, none⟩) (prow (i + 1) c)) := ⟨hL3⟩
            clear hG hL hL2 hB
            go_wp2
            go_roundw
            case rel => exact ⟨i + 1, b2, cap2, k + 1, rfl, by go_num, hB2.out, by omega, hm2, hL3⟩
            case measure => first | (simp [intOf]; omega) | (simp [intOf]; done)
        · have hL2 : Kept (∃ b2 cap2, u7 = .slice (some ⟨b2, 0, none⟩) (k + 1) cap2 ∧ Ls wr (some ⟨b2, 0, none⟩) (prow (i + 1) c)) := ⟨by
            have hkk : k + 1 = (prow (i + 1) c).length := by rw [prow_len]; omega
            have hGG := hG.out
            rw [List.take_of_length_le (by omega)] at hGG
            obtain ⟨u, cap2, rfl, hu0, hu1, hlen⟩ := hGG.form
            have hl := hGG.ls rfl (by omega) (prow_U _ _)
            cases u with
            | none => exact absurd (hu0 rfl).1 (by omega)
            | some a =>
              obtain ⟨b2, rfl, _⟩ := hu1 a rfl
              exact ⟨b2, cap2, rfl, hl.1⟩⟩
          have hB2 : Kept (Below w.heap.size w wr) := ⟨Below.next hB hG.out.below⟩
          have hm2 : Kept (k + 1 = min (i + 1) c + 1) := ⟨by omega⟩
          obtain ⟨b2, cap2, rfl, hL3⟩ := hL2.out
          have hL3 : Kept (Ls wr (some ⟨b2, 0, none⟩) (prow (i + 1) c)) := ⟨hL3⟩
          clear hG hL hL2 hB
          go_wp2
          go_roundw
          case rel => exact ⟨i + 1, b2, cap2, k + 1, rfl, by go_num, hB2.out, by omega, hm2, hL3⟩
          case measure => first | (simp [intOf]; omega) | (simp [intOf]; done)
    · have hin : i = n := by omega
      subst hin
      have hml : (prow i c).length = m := by rw [prow_len, hm.out]
      by_cases h1 : c ≥ m
      · have hz : Kept (sat (ch i c) = 0) := ⟨by have := hm.out; rw [ch_over i c (by omega)]; rfl⟩
        clear hL hml
        go_wp2
        go_ret
        exact ⟨by rw [hz.out]; rfl, Below.next hB (by repeat (first | exact Below.refl _ _ | refine Below.later ?_ _ | refine Below.box ?_ _ | refine Below.drew ?_ | refine Below.put ?_ (by dsimp only; omega) _))⟩
      · obtain ⟨b1, o1, x, e1, hx, hb1, hcx, hUx⟩ := hL.out.get hml c (by omega)
        injection e1 with e1
        injection e1 with e1 e2
        subst e1 e2
        rw [prow_at i c c (by have := hm.out; omega)] at hx
        injection hx with hx
        rw [Nat.zero_add] at hcx
        have hx : Kept (sat (ch i c) = x) := ⟨hx⟩
        clear hL hml
        go_wp2
        go_ret
        exact ⟨by first | rfl | (rw [hx.out]; rfl), Below.next hB (by repeat (first | exact Below.refl _ _ | refine Below.later ?_ _ | refine Below.box ?_ _ | refine Below.drew ?_ | refine Below.put ?_ (by dsimp only; omega) _))⟩
theorem sat_big {n : Nat} (h : 9223372036854775808 ≤ n) : sat n = 9223372036854775808 := by unfold sat; split <;> omega
theorem sat_small {n : Nat} (h : ¬ 9223372036854775808 ≤ n) : sat n = n := by unfold sat; split <;> omega
theorem surv_bad {n bad c : Int} (h : n < 0 ∨ n > 1024 ∨ c < 0 ∨ c > 1024 ∨ bad < 0 ∨ bad > n) : survV n bad c = .tuple #[.int .u64 0, .int .i64 1] := by
  unfold survV; split
  · rfl
  · contradiction
theorem surv_big {n bad c : Int} {N C : Nat} (h : ¬ (n < 0 ∨ n > 1024 ∨ c < 0 ∨ c > 1024 ∨ bad < 0 ∨ bad > n)) (hN : n - bad = N) (hC : c = C) (hb : 9223372036854775808 ≤ ch N C) : survV n bad c = .tuple #[.int .u64 0, .int .i64 3] := by
  subst hC
  unfold survV; split
  · contradiction
  · rw [hN, Int.toNat_natCast, Int.toNat_natCast]
    split
    · rfl
    · contradiction
theorem surv_ok {n bad c : Int} {N C : Nat} (h : ¬ (n < 0 ∨ n > 1024 ∨ c < 0 ∨ c > 1024 ∨ bad < 0 ∨ bad > n)) (hN : n - bad = N) (hC : c = C) (hb : ¬ 9223372036854775808 ≤ ch N C) : survV n bad c = .tuple #[.int .u64 (ch N C : Nat), .int .i64 0] := by
  subst hC
  unfold survV; split
  · contradiction
  · rw [hN, Int.toNat_natCast, Int.toNat_natCast]
    split
    · contradiction
    · rfl
end Go.Proofs.Ytkpkgjniicnkcaa
