/- The contracts of package moidoreref01's functions on single numbers. -/
import Derived.Test.YtkpkgjniicnkcaaConC
namespace Go.Proofs.Ytkpkgjniicnkcaa
open Go.RowKit

theorem row_17 (w : World) : Calls Try.prog 81 #[.int .u64 17] w (Gives (.agg #[.int .u64 3, .int .u64 4, .int .u64 3]) w) := by
  go_enter Try.func81, Try.ntmps81
  go_wp2
  exact bodyPost_ret (v := .agg #[.int .u64 3, .int .u64 4, .int .u64 3]) (by simp [results, Try.results81, go_sem]) rfl ⟨rfl, (by repeat (first | exact Below.refl _ _ | refine Below.later ?_ _ | refine Below.box ?_ _ | refine Below.drew ?_ | refine Below.put ?_ (by dsimp only; omega) _))⟩
theorem row_97 (w : World) : Calls Try.prog 81 #[.int .u64 97] w (Gives (.agg #[.int .u64 5, .int .u64 5, .int .u64 5]) w) := by
  go_enter Try.func81, Try.ntmps81
  go_wp2
  exact bodyPost_ret (v := .agg #[.int .u64 5, .int .u64 5, .int .u64 5]) (by simp [results, Try.results81, go_sem]) rfl ⟨rfl, (by repeat (first | exact Below.refl _ _ | refine Below.later ?_ _ | refine Below.box ?_ _ | refine Below.drew ?_ | refine Below.put ?_ (by dsimp only; omega) _))⟩
theorem row_193 (w : World) : Calls Try.prog 81 #[.int .u64 193] w (Gives (.agg #[.int .u64 5, .int .u64 6, .int .u64 5]) w) := by
  go_enter Try.func81, Try.ntmps81
  go_wp2
  exact bodyPost_ret (v := .agg #[.int .u64 5, .int .u64 6, .int .u64 5]) (by simp [results, Try.results81, go_sem]) rfl ⟨rfl, (by repeat (first | exact Below.refl _ _ | refine Below.later ?_ _ | refine Below.box ?_ _ | refine Below.drew ?_ | refine Below.put ?_ (by dsimp only; omega) _))⟩
theorem row_257 (w : World) : Calls Try.prog 81 #[.int .u64 257] w (Gives (.agg #[.int .u64 3, .int .u64 8, .int .u64 3]) w) := by
  go_enter Try.func81, Try.ntmps81
  go_wp2
  exact bodyPost_ret (v := .agg #[.int .u64 3, .int .u64 8, .int .u64 3]) (by simp [results, Try.results81, go_sem]) rfl ⟨rfl, (by repeat (first | exact Below.refl _ _ | refine Below.later ?_ _ | refine Below.box ?_ _ | refine Below.drew ?_ | refine Below.put ?_ (by dsimp only; omega) _))⟩
theorem row_12289 (w : World) : Calls Try.prog 81 #[.int .u64 12289] w (Gives (.agg #[.int .u64 11, .int .u64 12, .int .u64 5]) w) := by
  go_enter Try.func81, Try.ntmps81
  go_wp2
  exact bodyPost_ret (v := .agg #[.int .u64 11, .int .u64 12, .int .u64 5]) (by simp [results, Try.results81, go_sem]) rfl ⟨rfl, (by repeat (first | exact Below.refl _ _ | refine Below.later ?_ _ | refine Below.box ?_ _ | refine Below.drew ?_ | refine Below.put ?_ (by dsimp only; omega) _))⟩
theorem row_65537 (w : World) : Calls Try.prog 81 #[.int .u64 65537] w (Gives (.agg #[.int .u64 3, .int .u64 16, .int .u64 3]) w) := by
  go_enter Try.func81, Try.ntmps81
  go_wp2
  exact bodyPost_ret (v := .agg #[.int .u64 3, .int .u64 16, .int .u64 3]) (by simp [results, Try.results81, go_sem]) rfl ⟨rfl, (by repeat (first | exact Below.refl _ _ | refine Below.later ?_ _ | refine Below.box ?_ _ | refine Below.drew ?_ | refine Below.put ?_ (by dsimp only; omega) _))⟩
theorem row_18446744069414584321 (w : World) : Calls Try.prog 81 #[.int .u64 18446744069414584321] w (Gives (.agg #[.int .u64 7, .int .u64 32, .int .u64 7]) w) := by
  go_enter Try.func81, Try.ntmps81
  go_wp2
  exact bodyPost_ret (v := .agg #[.int .u64 7, .int .u64 32, .int .u64 7]) (by simp [results, Try.results81, go_sem]) rfl ⟨rfl, (by repeat (first | exact Below.refl _ _ | refine Below.later ?_ _ | refine Below.box ?_ _ | refine Below.drew ?_ | refine Below.put ?_ (by dsimp only; omega) _))⟩
theorem row_none (p : Int) (w : World) (h : vld p = false) : Calls Try.prog 81 #[.int .u64 p] w (Gives (.agg #[.int .u64 0, .int .u64 0, .int .u64 0]) w) := by
  simp only [vld, Bool.or_eq_false_iff] at h
  obtain ⟨⟨⟨⟨⟨⟨h1, h2⟩, h3⟩, h4⟩, h5⟩, h6⟩, h7⟩ := h
  go_enter Try.func81, Try.ntmps81
  go_wp2
  exact bodyPost_ret (v := .agg #[.int .u64 0, .int .u64 0, .int .u64 0]) (by simp [results, Try.results81, go_sem]) rfl ⟨rfl, (by repeat (first | exact Below.refl _ _ | refine Below.later ?_ _ | refine Below.box ?_ _ | refine Below.drew ?_ | refine Below.put ?_ (by dsimp only; omega) _))⟩
theorem gen_none {p : Int} (h : vld p = false) : gen p = 0 ∧ adi p = 0 ∧ expo p = 0 := by
  simp [vld] at h
  simp [gen, adi, expo, h]
theorem row_c (p : Int) (w : World) : Calls Try.prog 81 #[.int .u64 p] w (Gives (.agg #[.int .u64 (gen p), .int .u64 (adi p), .int .u64 (expo p)]) w) := by
  cases h : vld p
  · obtain ⟨e1, e2, e3⟩ := gen_none h
    rw [e1, e2, e3]; exact row_none p w h
  · rcases vld_cases h with rfl | rfl | rfl | rfl | rfl | rfl | rfl
    · exact row_17 w
    · exact row_97 w
    · exact row_193 w
    · exact row_257 w
    · exact row_12289 w
    · exact row_65537 w
    · exact row_18446744069414584321 w
end Go.Proofs.Ytkpkgjniicnkcaa
