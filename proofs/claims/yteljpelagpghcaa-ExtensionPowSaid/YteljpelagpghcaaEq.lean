/- Two arrays of two numbers compared. -/
import Derived.Test.YteljpelagpghcaaPre
namespace Go.Proofs.Yteljpelagpghcaa
open Go.RowKit

theorem size22 (w : World) : (sizeOf 22).run Try.prog w = .ok 1 w := by kernel_rfl
@[go_sem] theorem eq2 (a b c d : Int) (w : World) : (Op.equalIn 10000 23 (.agg #[.int .u64 a, .int .u64 b]) (.agg #[.int .u64 c, .int .u64 d])).run Try.prog w = .ok (a == c && b == d) w := by
  unfold Op.equalIn
  simp only [Sem.run_bind, run_underlying Try.underlying23, Result.andThen_ok, size22]
  rw [Std.Legacy.Range.forIn_eq_forIn_range']
  simp [Std.Legacy.Range.size, List.range', go_sem]
  by_cases h1 : a = c <;> by_cases h2 : b = d <;> simp [h1, h2]
end Go.Proofs.Yteljpelagpghcaa
