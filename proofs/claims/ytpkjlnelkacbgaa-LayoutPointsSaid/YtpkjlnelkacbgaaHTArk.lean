/- A table and parameters among a law's arguments, opened. -/
import Derived.Test.YtpkjlnelkacbgaaQD
namespace Go.Proofs.Ytpkjlnelkacbgaa
open Go.ChangeShapes Go.WideShapes Go.ChangeAt Go.RowKit Go.Deep

set_option maxRecDepth 100000
section
variable {H : Type} {enc : TypeId × Value → H} {W : World}
theorem open_table {v : Value} {d : DataW H} {ps : List MemPlace} {base : Nat} (hv : Value.okWide Try.prog W .any base 25 v) (h : DataW.Trod enc Try.prog W 0 (fun _ => true) true 25 v d ps) :
    ∃ p pub vs u c rs, v = .agg #[.int .u64 p, .int .i64 pub, .int .i64 vs, .slice u (rs : List Rw).length c] ∧ (U p ∧ I pub ∧ I vs ∧ Rws W u rs) := by
  simp only [Value.okWide, Try.underlying25] at hv
  obtain ⟨cs, rfl, _⟩ := hv
  obtain ⟨fuel, h⟩ := h
  obtain ⟨p, pub, vs, u, c, rs, e, hh⟩ := open_table_cells h
  refine ⟨p, pub, vs, u, c, rs, ?_, hh⟩
  congr 1
  apply Array.toList_inj.1
  exact e
theorem open_params {v : Value} {d : DataW H} {ps : List MemPlace} {base : Nat} (hv : Value.okWide Try.prog W .any base 27 v) (h : DataW.Trod enc Try.prog W 0 (fun _ => true) true 27 v d ps) :
    ∃ b bl q, v = .agg #[.int .i64 b, .int .i64 bl, .int .i64 q] ∧ (I b ∧ I bl ∧ I q) := by
  simp only [Value.okWide, Try.underlying27] at hv
  obtain ⟨cs, rfl, _⟩ := hv
  obtain ⟨fuel, h⟩ := h
  obtain ⟨b, bl, q, e, hh⟩ := open_params_cells h
  refine ⟨b, bl, q, ?_, hh⟩
  congr 1
  apply Array.toList_inj.1
  exact e
end
end Go.Proofs.Ytpkjlnelkacbgaa
