/- A list among a law's arguments, opened. -/
import Derived.Test.YtkpkgjniicnkcaaLaw
import Derived.Test.YtkpkgjniicnkcaaLst
import Derived.ChangeSlices
namespace Go.Proofs.Ytkpkgjniicnkcaa
open Go.ChangeShapes Go.WideShapes Go.ChangeAt Go.RowKit

set_option maxRecDepth 100000
section
variable {H : Type} {enc : TypeId × Value → H} {W : World} {v : Value}
theorem open_list {d : DataW H} {p : List MemPlace} {base : Nat} (hv : Value.okWide Try.prog W .any base 36 v) (h : DataW.Trod enc Try.prog W 0 (fun _ => true) true 36 v d p) :
    ∃ u l c, v = .slice u l.length c ∧ Ls W u l ∧ (u = none → c = 0) := by
  obtain ⟨fuel, h⟩ := h
  have hag : ∀ cs, v ≠ .agg cs := by
    intro cs e
    subst e
    simp [Value.okWide, Try.underlying36, Cell.okWide, Cell.ok] at hv
  have hcells : ∀ s a n c, v.cells.toList = [.slice s n c] → s = a → v = .slice a n c := by
    intro s a n c hc e
    subst e
    cases v <;> simp_all [Value.cells]
  rcases open_ints (k := .u64) Try.underlying36 Try.underlying23 (by kernel_rfl) h with ⟨hc, _⟩ | ⟨a, len, cap, zs, hc, _, hlen, hcap, hzs, _, hcell, hwf⟩
  · exact ⟨none, [], 0, hcells _ _ _ _ hc rfl, Ls.nil _ _, fun _ => rfl⟩
  · have hl : (zs.take len).length = len := by simp [hzs]; omega
    refine ⟨some a, zs.take len, cap, ?_, ⟨?_, ?_, ?_⟩, fun e => by cases e⟩
    · rw [hl]; exact hcells _ _ _ _ hc rfl
    · rw [hl]; simp only [maxLen] at hcap; omega
    · intro x hx
      have := hwf x (List.mem_of_mem_take hx)
      simp [Lit.wf, IntKind.max, IntKind.min, IntKind.signed, IntKind.bits] at this
      exact ⟨this.1, by omega⟩
    · intro hne
      have h0 : 0 < len := by
        rcases Nat.eq_zero_or_pos len with e | e
        · subst e; simp at hne
        · exact e
      have hz : zs.length = cap := by simpa using hzs
      have hc0 := hcell 0 (by omega)
      rw [Addr.add, if_pos rfl] at hc0
      have hsp : a.spot = none := by
        cases hs : a.spot with
        | none => rfl
        | some q =>
          exfalso
          unfold World.cell? at hc0
          split at hc0
          · simp [hs] at hc0
          · cases hc0
      refine ⟨a.block, a.off, by cases a; simp_all, World.block_lt_of_cell? W a hc0, ?_⟩
      intro i x hx
      have hi : i < len := by
        have := (List.getElem?_eq_some_iff.1 hx).1
        rw [hl] at this; exact this
      have hci := hcell i (by omega)
      rw [List.getElem?_take, if_pos hi] at hx
      rw [List.getD, hx] at hci
      have ea : a.add i = ⟨a.block, a.off + i, none⟩ := by
        cases a; simp only at hsp; subst hsp; exact Addr.add_lit _ _ _
      rw [ea] at hci
      exact hci
end
end Go.Proofs.Ytkpkgjniicnkcaa
