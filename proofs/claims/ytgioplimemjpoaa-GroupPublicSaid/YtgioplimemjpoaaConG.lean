/- The contracts of packages group and moidoreref32. -/
import Derived.Test.YtgioplimemjpoaaConZ
namespace Go.Proofs.Ytgioplimemjpoaa
open Go.RowKit

/-- Both coordinates are reduced, and not both are 0. -/
def gvalid (x : Int × Int) : Bool := decide (x.1 < 18446744069414584321) && decide (x.2 < 18446744069414584321) && (x.1 != 0 || x.2 != 0)

theorem gvalid_c (x : Int × Int) (w : World) (hx : U2 x) : Calls Try.prog 13 #[pv x] w (Gives (.bool (gvalid x)) w) := by
  obtain ⟨x0, x1⟩ := x
  obtain ⟨⟨h0, h0'⟩, ⟨h1, h1'⟩⟩ := hx
  dsimp only [pv] at *
  by_cases a : x0 < 18446744069414584321
  · by_cases b : x1 < 18446744069414584321
    · by_cases c : x0 = 0
      · have c' : (x0 != 0) = false := by simp [c]
        have hn : Kept (gvalid (x0, x1) = (x1 != 0)) := ⟨by simp [gvalid, b, c]⟩
        clear c
        go_enter Try.func13, Try.ntmps13
        go_wp2
        go_ret
        exact ⟨by rw [hn.out]; rfl, (by repeat (first | exact Below.refl _ _ | refine Below.later ?_ _ | refine Below.box ?_ _ | refine Below.drew ?_ | refine Below.put ?_ (by dsimp only; omega) _))⟩
      · have c' : (x0 != 0) = true := by simp [c]
        have hn : Kept (gvalid (x0, x1) = true) := ⟨by simp [gvalid, a, b, c]⟩
        clear c
        go_enter Try.func13, Try.ntmps13
        go_wp2
        go_ret
        exact ⟨by rw [hn.out]; rfl, (by repeat (first | exact Below.refl _ _ | refine Below.later ?_ _ | refine Below.box ?_ _ | refine Below.drew ?_ | refine Below.put ?_ (by dsimp only; omega) _))⟩
    · have hn : Kept (gvalid (x0, x1) = false) := ⟨by simp [gvalid, b]⟩
      go_enter Try.func13, Try.ntmps13
      go_wp2
      go_ret
      exact ⟨by rw [hn.out]; rfl, (by repeat (first | exact Below.refl _ _ | refine Below.later ?_ _ | refine Below.box ?_ _ | refine Below.drew ?_ | refine Below.put ?_ (by dsimp only; omega) _))⟩
  · have hn : Kept (gvalid (x0, x1) = false) := ⟨by simp [gvalid, a]⟩
    go_enter Try.func13, Try.ntmps13
    go_wp2
    go_ret
    exact ⟨by rw [hn.out]; rfl, (by repeat (first | exact Below.refl _ _ | refine Below.later ?_ _ | refine Below.box ?_ _ | refine Below.drew ?_ | refine Below.put ?_ (by dsimp only; omega) _))⟩
theorem rgvalid_c (x : Int × Int) (w : World) (hx : U2 x) : Calls Try.prog 16 #[pv x] w (Gives (.bool (gvalid x)) w) := by
  obtain ⟨x0, x1⟩ := x
  obtain ⟨⟨h0, h0'⟩, ⟨h1, h1'⟩⟩ := hx
  dsimp only [pv] at *
  by_cases a : x0 < 18446744069414584321
  · by_cases b : x1 < 18446744069414584321
    · by_cases c : 0 < x0
      · have hn : Kept (gvalid (x0, x1) = true) := ⟨by have : ¬ x0 = 0 := by omega
                                                       simp [gvalid, a, b, this]⟩
        go_enter Try.func16, Try.ntmps16
        go_wp2
        go_ret
        exact ⟨by rw [hn.out]; rfl, (by repeat (first | exact Below.refl _ _ | refine Below.later ?_ _ | refine Below.box ?_ _ | refine Below.drew ?_ | refine Below.put ?_ (by dsimp only; omega) _))⟩
      · by_cases d : 0 < x1
        · have hn : Kept (gvalid (x0, x1) = true) := ⟨by have : ¬ x1 = 0 := by omega
                                                         simp [gvalid, a, b, this]⟩
          go_enter Try.func16, Try.ntmps16
          go_wp2
          go_ret
          exact ⟨by rw [hn.out]; rfl, (by repeat (first | exact Below.refl _ _ | refine Below.later ?_ _ | refine Below.box ?_ _ | refine Below.drew ?_ | refine Below.put ?_ (by dsimp only; omega) _))⟩
        · have hn : Kept (gvalid (x0, x1) = false) := ⟨by have e1 : x1 = 0 := by omega
                                                          have e0 : x0 = 0 := by omega
                                                          simp [gvalid, e0, e1]⟩
          go_enter Try.func16, Try.ntmps16
          go_wp2
          go_ret
          exact ⟨by rw [hn.out]; rfl, (by repeat (first | exact Below.refl _ _ | refine Below.later ?_ _ | refine Below.box ?_ _ | refine Below.drew ?_ | refine Below.put ?_ (by dsimp only; omega) _))⟩
    · have hn : Kept (gvalid (x0, x1) = false) := ⟨by simp [gvalid, b]⟩
      go_enter Try.func16, Try.ntmps16
      go_wp2
      go_ret
      exact ⟨by rw [hn.out]; rfl, (by repeat (first | exact Below.refl _ _ | refine Below.later ?_ _ | refine Below.box ?_ _ | refine Below.drew ?_ | refine Below.put ?_ (by dsimp only; omega) _))⟩
  · have hn : Kept (gvalid (x0, x1) = false) := ⟨by simp [gvalid, a]⟩
    go_enter Try.func16, Try.ntmps16
    go_wp2
    go_ret
    exact ⟨by rw [hn.out]; rfl, (by repeat (first | exact Below.refl _ _ | refine Below.later ?_ _ | refine Below.box ?_ _ | refine Below.drew ?_ | refine Below.put ?_ (by dsimp only; omega) _))⟩

theorem base_c (w : World) : Calls Try.prog 19 #[] w (Gives (.agg #[.int .u64 2, .int .u64 1]) w) := by
  go_enter Try.func19, Try.ntmps19
  go_wp2
  exact bodyPost_ret (v := .agg #[.int .u64 2, .int .u64 1]) (by simp [results, Try.results19, go_sem]) rfl ⟨rfl, (by repeat (first | exact Below.refl _ _ | refine Below.later ?_ _ | refine Below.box ?_ _ | refine Below.drew ?_ | refine Below.put ?_ (by dsimp only; omega) _))⟩

/-- The power in the group. -/
def gpow (x : Int × Int) (e : Nat) : Int × Int := xpow 18446744069414584321 x e
theorem gpow_U {x : Int × Int} {e : Nat} : U2 (gpow x e) := xpow_U
theorem power_c (x : Int × Int) (e : Nat) (w : World) (hx : U2 x) (he : BigB e) : Calls Try.prog 18 #[pv x, .int .u64 e] w (Gives (pv (gpow x e)) w) := by
  have c : Kept (∀ w, Calls Try.prog 24 #[.agg #[.int .u64 18446744069414584321], pv x, .int .u64 e] w (Gives (pv (gpow x e)) w)) := ⟨fun w => xpow_c _ x e w hx he⟩
  generalize gpow x e = r at *
  obtain ⟨x0, x1⟩ := x
  obtain ⟨r0, r1⟩ := r
  dsimp only [pv] at *
  go_enter Try.func18, Try.ntmps18
  go_wp2_with (first | (go_at_call 24; (first | with_reducible refine use1 (c.out _) ?_ | with_reducible refine use (c.out _) ?_); intro pw))
  exact bodyPost_ret (v := .agg #[.int .u64 r0, .int .u64 r1]) (by simp [results, Try.results18, go_sem]) rfl ⟨rfl, (by repeat (first | exact Below.refl _ _ | refine Below.later ?_ _ | refine Below.box ?_ _ | refine Below.drew ?_ | refine Below.put ?_ (by dsimp only; omega) _))⟩

theorem public_c (e : Nat) (w : World) (he : BigB e) : Calls Try.prog 10 #[.int .u64 e] w (Gives (pv (gpow (2, 1) e)) w) := by
  have c : Kept (∀ w, Calls Try.prog 18 #[.agg #[.int .u64 2, .int .u64 1], .int .u64 e] w (Gives (pv (gpow (2, 1) e)) w)) := ⟨fun w => power_c (2, 1) e w ⟨⟨by decide, by decide⟩, ⟨by decide, by decide⟩⟩ he⟩
  generalize gpow (2, 1) e = r at *
  obtain ⟨r0, r1⟩ := r
  dsimp only [pv] at *
  go_enter Try.func10, Try.ntmps10
  go_wp2_with (first | (go_at_call 19; (first | with_reducible refine use1 (base_c _) ?_ | with_reducible refine use (base_c _) ?_); intro pw) | (go_at_call 18; (first | with_reducible refine use1 (c.out _) ?_ | with_reducible refine use (c.out _) ?_); intro pw))
  exact bodyPost_ret (v := .agg #[.int .u64 r0, .int .u64 r1]) (by simp [results, Try.results10, go_sem]) rfl ⟨rfl, (by repeat (first | exact Below.refl _ _ | refine Below.later ?_ _ | refine Below.box ?_ _ | refine Below.drew ?_ | refine Below.put ?_ (by dsimp only; omega) _))⟩

/-- What Shared returns. -/
def gshared (x : Int × Int) (e : Nat) : Int × Int := if gvalid x then gpow x e else (0, 0)
theorem gshared_U {x : Int × Int} {e : Nat} : U2 (gshared x e) := by
  unfold gshared; split
  · exact gpow_U
  · exact ⟨⟨by decide, by decide⟩, ⟨by decide, by decide⟩⟩
theorem shared_c (x : Int × Int) (e : Nat) (w : World) (hx : U2 x) (he : BigB e) : Calls Try.prog 14 #[pv x, .int .u64 e] w (Gives (pv (gshared x e)) w) := by
  have c1 : Kept (∀ w, Calls Try.prog 13 #[pv x] w (Gives (.bool (gvalid x)) w)) := ⟨fun w => gvalid_c x w hx⟩
  have c2 : Kept (∀ w, Calls Try.prog 18 #[pv x, .int .u64 e] w (Gives (pv (gpow x e)) w)) := ⟨fun w => power_c x e w hx he⟩
  cases hv : gvalid x
  · have e1 : gshared x e = (0, 0) := by simp [gshared, hv]
    rw [e1]
    rw [hv] at c1
    clear e1 c2
    obtain ⟨x0, x1⟩ := x
    dsimp only [pv] at *
    go_enter Try.func14, Try.ntmps14
    go_wp2_with (first | (go_at_call 13; (first | with_reducible refine use1 (c1.out _) ?_ | with_reducible refine use (c1.out _) ?_); intro pw))
    exact bodyPost_ret (v := .agg #[.int .u64 0, .int .u64 0]) (by simp [results, Try.results14, go_sem]) rfl ⟨rfl, (by repeat (first | exact Below.refl _ _ | refine Below.later ?_ _ | refine Below.box ?_ _ | refine Below.drew ?_ | refine Below.put ?_ (by dsimp only; omega) _))⟩
  · have e1 : gshared x e = gpow x e := by simp [gshared, hv]
    rw [e1]
    rw [hv] at c1
    clear e1
    generalize gpow x e = r at *
    obtain ⟨x0, x1⟩ := x
    obtain ⟨r0, r1⟩ := r
    dsimp only [pv] at *
    go_enter Try.func14, Try.ntmps14
    go_wp2_with (first | (go_at_call 13; (first | with_reducible refine use1 (c1.out _) ?_ | with_reducible refine use (c1.out _) ?_); intro pw) | (go_at_call 18; (first | with_reducible refine use1 (c2.out _) ?_ | with_reducible refine use (c2.out _) ?_); intro pw))
    exact bodyPost_ret (v := .agg #[.int .u64 r0, .int .u64 r1]) (by simp [results, Try.results14, go_sem]) rfl ⟨rfl, (by repeat (first | exact Below.refl _ _ | refine Below.later ?_ _ | refine Below.box ?_ _ | refine Below.drew ?_ | refine Below.put ?_ (by dsimp only; omega) _))⟩
theorem rshared_c (x : Int × Int) (e : Nat) (w : World) (hx : U2 x) (he : BigB e) : Calls Try.prog 15 #[pv x, .int .u64 e] w (Gives (pv (gshared x e)) w) := by
  have c1 : Kept (∀ w, Calls Try.prog 16 #[pv x] w (Gives (.bool (gvalid x)) w)) := ⟨fun w => rgvalid_c x w hx⟩
  have c2 : Kept (∀ w, Calls Try.prog 20 #[.int .u64 18446744069414584321, pv x, .int .u64 e] w (Gives (pv (gpow x e)) w)) := ⟨fun w => rxpow_c _ x e w hx he⟩
  cases hv : gvalid x
  · have e1 : gshared x e = (0, 0) := by simp [gshared, hv]
    rw [e1]
    rw [hv] at c1
    clear e1 c2
    obtain ⟨x0, x1⟩ := x
    dsimp only [pv] at *
    go_enter Try.func15, Try.ntmps15
    go_wp2_with (first | (go_at_call 16; (first | with_reducible refine use1 (c1.out _) ?_ | with_reducible refine use (c1.out _) ?_); intro pw))
    exact bodyPost_ret (v := .agg #[.int .u64 0, .int .u64 0]) (by simp [results, Try.results15, go_sem]) rfl ⟨rfl, (by repeat (first | exact Below.refl _ _ | refine Below.later ?_ _ | refine Below.box ?_ _ | refine Below.drew ?_ | refine Below.put ?_ (by dsimp only; omega) _))⟩
  · have e1 : gshared x e = gpow x e := by simp [gshared, hv]
    rw [e1]
    rw [hv] at c1
    clear e1
    generalize gpow x e = r at *
    obtain ⟨x0, x1⟩ := x
    obtain ⟨r0, r1⟩ := r
    dsimp only [pv] at *
    go_enter Try.func15, Try.ntmps15
    go_wp2_with (first | (go_at_call 16; (first | with_reducible refine use1 (c1.out _) ?_ | with_reducible refine use (c1.out _) ?_); intro pw) | (go_at_call 20; (first | with_reducible refine use1 (c2.out _) ?_ | with_reducible refine use (c2.out _) ?_); intro pw))
    exact bodyPost_ret (v := .agg #[.int .u64 r0, .int .u64 r1]) (by simp [results, Try.results15, go_sem]) rfl ⟨rfl, (by repeat (first | exact Below.refl _ _ | refine Below.later ?_ _ | refine Below.box ?_ _ | refine Below.drew ?_ | refine Below.put ?_ (by dsimp only; omega) _))⟩
theorem rpublic_c (e : Nat) (w : World) (he : BigB e) : Calls Try.prog 12 #[.int .u64 e] w (Gives (pv (gpow (2, 1) e)) w) := by
  have c : Kept (∀ w, Calls Try.prog 15 #[.agg #[.int .u64 2, .int .u64 1], .int .u64 e] w (Gives (pv (gpow (2, 1) e)) w)) := ⟨fun w => rshared_c (2, 1) e w ⟨⟨by decide, by decide⟩, ⟨by decide, by decide⟩⟩ he⟩
  generalize gpow (2, 1) e = r at *
  obtain ⟨r0, r1⟩ := r
  dsimp only [pv] at *
  go_enter Try.func12, Try.ntmps12
  go_wp2_with (first | (go_at_call 15; (first | with_reducible refine use1 (c.out _) ?_ | with_reducible refine use (c.out _) ?_); intro pw))
  exact bodyPost_ret (v := .agg #[.int .u64 r0, .int .u64 r1]) (by simp [results, Try.results12, go_sem]) rfl ⟨rfl, (by repeat (first | exact Below.refl _ _ | refine Below.later ?_ _ | refine Below.box ?_ _ | refine Below.drew ?_ | refine Below.put ?_ (by dsimp only; omega) _))⟩
end Go.Proofs.Ytgioplimemjpoaa
