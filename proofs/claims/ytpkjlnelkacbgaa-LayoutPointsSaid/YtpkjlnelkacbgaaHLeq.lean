/- Equality of layouts. -/
import Derived.Test.YtpkjlnelkacbgaaHBel
import Derived.Laws.StructEq
namespace Go.Proofs.Ytpkjlnelkacbgaa
open Go.RowKit Go.Sort

set_option maxRecDepth 100000
theorem eq4j (a b c d : Int) (w : World) : (Op.equalIn 9999 30 (.agg #[.int .i64 a, .int .i64 b, .int .i64 c, .int .i64 d]) (.agg #[.int .i64 a, .int .i64 b, .int .i64 c, .int .i64 d])).run Try.prog w = .ok true w := by
  unfold Op.equalIn
  simp only [Sem.run_bind, run_underlying Try.underlying30, Result.andThen_ok, size11i]
  rw [Std.Legacy.Range.forIn_eq_forIn_range']
  simp [Std.Legacy.Range.size, List.range', go_sem]
theorem eqLay (p b q k n s r p0 p1 p2 p3 : Int) (w : World) : (Op.equalIn 10000 32 (.agg #[.int .u64 p, .int .i64 b, .int .i64 q, .int .i64 k, .int .i64 n, .int .i64 s, .int .i64 r, .int .i64 p0, .int .i64 p1, .int .i64 p2, .int .i64 p3]) (.agg #[.int .u64 p, .int .i64 b, .int .i64 q, .int .i64 k, .int .i64 n, .int .i64 s, .int .i64 r, .int .i64 p0, .int .i64 p1, .int .i64 p2, .int .i64 p3])).run Try.prog w = .ok true w := by
  rw [run_equalIn_struct w 9999 32 _ _ (by kernel_rfl) (by kernel_rfl)]
  obtain ⟨fs, hfs⟩ : ∃ fs, Try.prog.underlying 32 = some fs := ⟨_, Try.underlying32⟩
  simp only [Program.fieldsOf, Try.underlying32, Op.eqFields]
  simp [go_sem, eq4j]
end Go.Proofs.Ytpkjlnelkacbgaa
