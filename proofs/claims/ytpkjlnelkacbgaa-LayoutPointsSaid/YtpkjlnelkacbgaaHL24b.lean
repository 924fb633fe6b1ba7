/- law24: small functions; what New gives. -/
import Derived.Test.YtpkjlnelkacbgaaHL24a
import Derived.Test.YtpkjlnelkacbgaaHLeq
import Derived.Test.YtpkjlnelkacbgaaHTabW
namespace Go.Proofs.Ytpkjlnelkacbgaa
open Go.RowKit Go.Sort

set_option maxRecDepth 100000
theorem own24_c (p b q k n s r p0 p1 p2 p3 : Int) (w : World) : Calls Try.prog 14 #[.agg #[.int .u64 p, .int .i64 b, .int .i64 q, .int .i64 k, .int .i64 n, .int .i64 s, .int .i64 r, .int .i64 p0, .int .i64 p1, .int .i64 p2, .int .i64 p3]] w (Gives (.agg #[.int .u64 p, .int .i64 b, .int .i64 q, .int .i64 k, .int .i64 n, .int .i64 s, .int .i64 r, .int .i64 p0, .int .i64 p1, .int .i64 p2, .int .i64 p3]) w) := by
  go_enter Try.func14, Try.ntmps14
  go_wp2
  exact bodyPost_ret (v := .agg #[.int .u64 p, .int .i64 b, .int .i64 q, .int .i64 k, .int .i64 n, .int .i64 s, .int .i64 r, .int .i64 p0, .int .i64 p1, .int .i64 p2, .int .i64 p3]) (by simp [results, Try.results14, go_sem]) rfl ⟨rfl, (by repeat (first | with_reducible exact Below.refl _ _ | with_reducible refine Below.later ?_ _ | with_reducible refine Below.box ?_ _ | with_reducible refine Below.drew ?_ | with_reducible refine Below.put ?_ (by dsimp only; omega) _))⟩
theorem rtotal_c (p b q k n s r p0 p1 p2 p3 : Int) (w : World) (h0 : 0 ≤ p0 ∧ p0 ≤ 1000000) (h1 : 0 ≤ p1 ∧ p1 ≤ 1000000) (h2 : 0 ≤ p2 ∧ p2 ≤ 1000000) (h3 : 0 ≤ p3 ∧ p3 ≤ 1000000) :
    Calls Try.prog 16 #[.agg #[.int .u64 p, .int .i64 b, .int .i64 q, .int .i64 k, .int .i64 n, .int .i64 s, .int .i64 r, .int .i64 p0, .int .i64 p1, .int .i64 p2, .int .i64 p3]] w (Gives (.int .i64 (p0 + p1 + p2 + p3)) w) := by
  go_enter Try.func16, Try.ntmps16
  go_wp2
  go_ret
  exact ⟨rfl, (by repeat (first | exact Below.refl _ _ | refine Below.later ?_ _ | refine Below.box ?_ _ | refine Below.drew ?_ | refine Below.put ?_ (by dsimp only; omega) _))⟩
theorem newV_form (p pub vs b bl q : Int) (rs : List Rw) : ∃ a0 a1 a2 a3 a4 a5 a6 a7 a8 a9 a10, newV p pub vs b bl q rs.length (tabB p pub vs rs && okX b bl q) = .agg #[.int .u64 a0, .int .i64 a1, .int .i64 a2, .int .i64 a3, .int .i64 a4, .int .i64 a5, .int .i64 a6, .int .i64 a7, .int .i64 a8, .int .i64 a9, .int .i64 a10] ∧
    (0 ≤ a7 ∧ a7 ≤ 1000000) ∧ (0 ≤ a8 ∧ a8 ≤ 1000000) ∧ (0 ≤ a9 ∧ a9 ≤ 1000000) ∧ (0 ≤ a10 ∧ a10 ≤ 1000000) := by
  unfold newV
  split
  · rename_i h
    have hok : (tabB p pub vs rs && okX b bl q) = true := by
      cases e : (tabB p pub vs rs && okX b bl q) with
      | true => rfl
      | false => rw [e] at h; simp [newE] at h
    simp only [Bool.and_eq_true] at hok
    obtain ⟨ht, hx⟩ := hok
    have hb1 : 2 ≤ b ∧ b ≤ 256 := by
      simp only [okX, Bool.and_eq_true, Bool.or_eq_true, decide_eq_true_eq, beq_iff_eq] at hx
      omega
    have ht1 : 0 ≤ pub ∧ pub < vs ∧ vs ≤ 65536 ∧ rs.length ≤ 16384 := by
      simp only [tabB, szB, Bool.and_eq_true, decide_eq_true_eq] at ht
      exact ⟨ht.1.1.1.1.2, ht.1.1.1.2, ht.1.1.2, ht.1.2⟩
    have g : ∀ n : Int, 0 ≤ n → n ≤ 65536 → 0 ≤ (n + b - 1) / b ∧ (n + b - 1) / b ≤ 1000000 := fun n h0 h1 => ⟨Int.ediv_nonneg (by omega) (by omega), Int.le_trans (Int.ediv_le_self _ (by omega)) (by omega)⟩
    exact ⟨p, b, q, b + q, newN b bl q, vs - 1 - pub, rs.length, _, _, _, _, rfl, g _ (by omega) (by omega), g _ (by omega) (by omega), g _ (by omega) (by omega), g _ (by omega) (by omega)⟩
  · exact ⟨0, 0, 0, 0, 0, 0, 0, 0, 0, 0, 0, rfl, by omega, by omega, by omega, by omega⟩
end Go.Proofs.Ytpkjlnelkacbgaa
