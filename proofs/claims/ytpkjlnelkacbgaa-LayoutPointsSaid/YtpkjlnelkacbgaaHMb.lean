/- A map from numbers to booleans that the call makes: the look-up. -/
import Derived.Test.YtpkjlnelkacbgaaQA
import Derived.Maps.Own
import Derived.Maps.Views
namespace Go.Proofs.Ytpkjlnelkacbgaa
open Go.RowKit Go.Sort Go.Maps

set_option maxRecDepth 100000
theorem mb_law : Keyed Try.prog 22 := int_keyed Try.underlying22
theorem mb_zero (w : World) : (zeroValue 4).run Try.prog w = .ok (.bool false) w := by kernel_rfl
theorem mb_inv {H : Type} {v : Value} {z : DataW H × List MemPlace} (h : plainElem Try.prog 4 v = some z) : ∃ a, v = .bool a ∧ z = (.lit (.bool a), []) := by
  unfold plainElem at h
  rw [Try.underlying4] at h
  cases v <;> simp at h
  subst h
  exact ⟨_, rfl, rfl⟩
theorem mb_key {x : Int} (hx : 0 ≤ x ∧ x < 18446744073709551616) : keyOf Try.prog 22 (.int .u64 x) = some (.int .u64 x) :=
  keyOf_int_mk Try.underlying22 (by simp [Lit.wf, IntKind.max, IntKind.min, IntKind.signed, IntKind.bits]; omega)
/-- A key that the map does not hold reads as false. -/
theorem mb_look {w : World} {b n : Nat} {D : DataW Unit} (h : w.ownsMap Try.prog 22 (plainElem Try.prog 4) b n D) {x : Int} (hx : 0 ≤ x ∧ x < 18446744073709551616) (hat : D.atKey (.int .u64 x) (.lit (.bool false)) = .lit (.bool false)) :
    (Instr.lookup 64 (.map (some b)) (.int .u64 x) false).run Try.prog w = .ok (.bool false) w := by
  obtain ⟨v, ps, hrun, hv⟩ := h.lookup mb_law Try.underlying64 (mb_zero w) (plainElem_bool Try.underlying4 false) (mb_key hx)
  obtain ⟨a, rfl, hz⟩ := mb_inv hv
  simp only [Prod.mk.injEq] at hz
  rw [hat] at hz
  have e := hz.1
  injection e with e
  injection e with e
  rw [hrun, ← e]
end Go.Proofs.Ytpkjlnelkacbgaa
