/- law29: the small functions, the examples. -/
import Derived.Test.YtpkjlnelkacbgaaHCho
import Derived.Test.YtpkjlnelkacbgaaHTabN
namespace Go.Proofs.Ytpkjlnelkacbgaa
open Go.RowKit Go.Sort

theorem aw_rows (w : World) : Rws ((w.alloc (.cells #[.int .i64 1, .int .u64 1] 69)).alloc (.cells #[.slice (some ⟨w.heap.size, 0, none⟩) 1 1, .slice (some ⟨w.heap.size, 0, none⟩) 1 1, .slice (some ⟨w.heap.size, 0, none⟩) 1 1] 72)) (some ⟨w.heap.size + 1, 0, none⟩)
    [⟨⟨some ⟨w.heap.size, 0, none⟩, 1, [(1, 1)]⟩, ⟨some ⟨w.heap.size, 0, none⟩, 1, [(1, 1)]⟩, ⟨some ⟨w.heap.size, 0, none⟩, 1, [(1, 1)]⟩⟩] := by
  have ht : Tm ((w.alloc (.cells #[.int .i64 1, .int .u64 1] 69)).alloc (.cells #[.slice (some ⟨w.heap.size, 0, none⟩) 1 1, .slice (some ⟨w.heap.size, 0, none⟩) 1 1, .slice (some ⟨w.heap.size, 0, none⟩) 1 1] 72)) (some ⟨w.heap.size, 0, none⟩) [(1, 1)] := by
    refine ⟨by simp, fun x hx => ?_, fun _ => ⟨_, _, rfl, by simp, fun i x hx => ?_⟩⟩
    · rw [List.mem_singleton] at hx; subst hx; exact ⟨⟨by decide, by decide⟩, ⟨by decide, by decide⟩⟩
    · match i, hx with
      | 0, hx => simp at hx; subst hx; simp
      | i + 1, hx => simp at hx
  refine ⟨by simp, fun x hx => ?_, fun _ => ⟨_, _, rfl, by simp, fun i x hx => ?_⟩⟩
  · rw [List.mem_singleton] at hx; subst hx; exact ⟨ht, ht, ht⟩
  · match i, hx with
    | 0, hx => simp at hx; subst hx; simp [Lin.v]
    | i + 1, hx => simp at hx

end Go.Proofs.Ytpkjlnelkacbgaa
