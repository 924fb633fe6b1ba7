/- law29: the small functions, the examples. -/
import Derived.Test.YtkpkgjniicnkcaaHCho
import Derived.Test.YtkpkgjniicnkcaaHTabN
namespace Go.Proofs.Ytkpkgjniicnkcaa
open Go.RowKit Go.Sort

theorem choices_c (n c : Int) (w : World) : Calls Try.prog 13 #[.int .i64 n, .int .i64 c] w (Gives (survV n 0 c) w) := by
  have cs : Kept (∀ w, Calls Try.prog 15 #[.int .i64 n, .int .i64 0, .int .i64 c] w (Gives (survV n 0 c) w)) := ⟨fun w => surv_c n 0 c w⟩
  obtain ⟨a, b, hab⟩ : ∃ a b, survV n 0 c = .tuple #[.int .u64 a, .int .i64 b] := by
    unfold survV; split
    · exact ⟨_, _, rfl⟩
    · split
      · exact ⟨_, _, rfl⟩
      · exact ⟨_, _, rfl⟩
  rw [hab] at cs ⊢
  clear hab
  go_enter Try.func13, Try.ntmps13
  go_wp2_with (first | (go_at_call 15; (first | with_reducible refine use1 (cs.out _) ?_ | with_reducible refine use (cs.out _) ?_); intro pw))
  go_ret2
  exact ⟨rfl, (by repeat (first | exact Below.refl _ _ | refine Below.later ?_ _ | refine Below.box ?_ _ | refine Below.drew ?_ | refine Below.put ?_ (by dsimp only; omega) _))⟩

theorem linearLimit_c (p b q k n s r p0 p1 p2 p3 : Int) (w : World) (h0 : 0 ≤ r) (h1 : r ≤ 1000000) :
    Calls Try.prog 19 #[.agg #[.int .u64 p, .int .i64 b, .int .i64 q, .int .i64 k, .int .i64 n, .int .i64 s, .int .i64 r, .int .i64 p0, .int .i64 p1, .int .i64 p2, .int .i64 p3]] w (Gives (.int .i64 (max 0 (3 * r - 1))) w) := by
  go_enter Try.func19, Try.ntmps19
  go_wp2
  go_ret
  exact ⟨rfl, (by repeat (first | exact Below.refl _ _ | refine Below.later ?_ _ | refine Below.box ?_ _ | refine Below.drew ?_ | refine Below.put ?_ (by dsimp only; omega) _))⟩
theorem quadLimit_c (p b q k n s r p0 p1 p2 p3 : Int) (w : World) :
    Calls Try.prog 20 #[.agg #[.int .u64 p, .int .i64 b, .int .i64 q, .int .i64 k, .int .i64 n, .int .i64 s, .int .i64 r, .int .i64 p0, .int .i64 p1, .int .i64 p2, .int .i64 p3]] w (Gives (.int .i64 p1) w) := by
  go_enter Try.func20, Try.ntmps20
  go_wp2
  go_ret
  exact ⟨rfl, (by repeat (first | exact Below.refl _ _ | refine Below.later ?_ _ | refine Below.box ?_ _ | refine Below.drew ?_ | refine Below.put ?_ (by dsimp only; omega) _))⟩

theorem aw_rows (w : World) : Rws ((w.alloc (.cells #[.int .i64 1, .int .u64 1] 68)).alloc (.cells #[.slice (some ⟨w.heap.size, 0, none⟩) 1 1, .slice (some ⟨w.heap.size, 0, none⟩) 1 1, .slice (some ⟨w.heap.size, 0, none⟩) 1 1] 74)) (some ⟨w.heap.size + 1, 0, none⟩)
    [⟨⟨some ⟨w.heap.size, 0, none⟩, 1, [(1, 1)]⟩, ⟨some ⟨w.heap.size, 0, none⟩, 1, [(1, 1)]⟩, ⟨some ⟨w.heap.size, 0, none⟩, 1, [(1, 1)]⟩⟩] := by
  have ht : Tm ((w.alloc (.cells #[.int .i64 1, .int .u64 1] 68)).alloc (.cells #[.slice (some ⟨w.heap.size, 0, none⟩) 1 1, .slice (some ⟨w.heap.size, 0, none⟩) 1 1, .slice (some ⟨w.heap.size, 0, none⟩) 1 1] 74)) (some ⟨w.heap.size, 0, none⟩) [(1, 1)] := by
    refine ⟨by simp, fun x hx => ?_, fun _ => ⟨_, _, rfl, by simp, fun i x hx => ?_⟩⟩
    · rw [List.mem_singleton] at hx; subst hx; exact ⟨⟨by decide, by decide⟩, ⟨by decide, by decide⟩⟩
    · match i, hx with
      | 0, hx => simp at hx; subst hx; simp
      | i + 1, hx => simp at hx
  refine ⟨by simp, fun x hx => ?_, fun _ => ⟨_, _, rfl, by simp, fun i x hx => ?_⟩⟩
  · rw [List.mem_singleton] at hx; subst hx; exact ⟨ht, ht, ht⟩
  · match i, hx with
    | 0, hx => simp at hx; subst hx; simp [Lin.v]
    | i + 1, hx => simp at hx

set_option maxHeartbeats 4000000 in
theorem awake29_c (w : World) : Calls Try.prog 12 #[] w (Gives (.bool true) w) := by
  have cs : Kept (∀ w, Calls Try.prog 15 #[.int .i64 5, .int .i64 2, .int .i64 2] w (Gives (.tuple #[.int .u64 3, .int .i64 0]) w)) := ⟨fun w => by
    have := surv_c 5 2 2 w; rw [show survV 5 2 2 = .tuple #[.int .u64 3, .int .i64 0] from by simp [survV, ch]] at this; exact this⟩
  have cc : Kept (∀ w, Calls Try.prog 13 #[.int .i64 5, .int .i64 2] w (Gives (.tuple #[.int .u64 10, .int .i64 0]) w)) := ⟨fun w => by
    have := choices_c 5 2 w; rw [show survV 5 0 2 = .tuple #[.int .u64 10, .int .i64 0] from by simp [survV, ch]] at this; exact this⟩
  have cl : Kept (∀ w, Calls Try.prog 19 #[.agg #[.int .u64 97, .int .i64 2, .int .i64 1, .int .i64 3, .int .i64 8, .int .i64 1, .int .i64 1, .int .i64 1, .int .i64 1, .int .i64 1, .int .i64 1]] w (Gives (.int .i64 2) w)) := ⟨fun w => linearLimit_c 97 2 1 3 8 1 1 1 1 1 1 w (by decide) (by decide)⟩
  have hn : Kept (∀ r : List Rw, r.length = 1 → newV 97 0 2 2 1 1 r.length (true && true) = .agg #[.int .u64 97, .int .i64 2, .int .i64 1, .int .i64 3, .int .i64 8, .int .i64 1, .int .i64 1, .int .i64 1, .int .i64 1, .int .i64 1, .int .i64 1]) := ⟨fun r hr => by
    rw [hr]; simp [newV, newE, newN, fits, fitF, layV]⟩
  have cn : Kept (∀ (w : World) u v c1, Rws w u [⟨⟨v, c1, [(1, 1)]⟩, ⟨v, c1, [(1, 1)]⟩, ⟨v, c1, [(1, 1)]⟩⟩] → ∀ c, Calls Try.prog 30 #[.agg #[.int .u64 97, .int .i64 0, .int .i64 2, .slice u 1 c], .agg #[.int .i64 2, .int .i64 1, .int .i64 1]] w
      (Gives (.tuple #[.agg #[.int .u64 97, .int .i64 2, .int .i64 1, .int .i64 3, .int .i64 8, .int .i64 1, .int .i64 1, .int .i64 1, .int .i64 1, .int .i64 1, .int .i64 1], .int .i64 0]) w)) := ⟨fun w u v c1 h c => by
    have := lnew_c 97 0 2 2 1 1 u c _ w h
    rw [show tabB 97 0 2 [⟨⟨v, c1, [(1, 1)]⟩, ⟨v, c1, [(1, 1)]⟩, ⟨v, c1, [(1, 1)]⟩⟩] = true from rfl, show okX 2 1 1 = true from by decide, hn.out _ (by rfl)] at this
    exact this⟩
  go_enter Try.func12, Try.ntmps12
  go_wp2_with (first | (go_at_call 30; (first | with_reducible refine use1 (cn.out _ _ (some ⟨w.heap.size, 0, none⟩) 1 (aw_rows w) 1) ?_ | with_reducible refine use (cn.out _ _ (some ⟨w.heap.size, 0, none⟩) 1 (aw_rows w) 1) ?_); intro pw) | (go_at_call 15; (first | with_reducible refine use1 (cs.out _) ?_ | with_reducible refine use (cs.out _) ?_); intro pw) | (go_at_call 13; (first | with_reducible refine use1 (cc.out _) ?_ | with_reducible refine use (cc.out _) ?_); intro pw) | (go_at_call 19; (first | with_reducible refine use1 (cl.out _) ?_ | with_reducible refine use (cl.out _) ?_); intro pw))
  go_ret
  exact ⟨rfl, (by repeat (first | exact Below.refl _ _ | refine Below.later ?_ _ | refine Below.box ?_ _ | refine Below.drew ?_ | refine Below.put ?_ (by dsimp only; omega) _))⟩
end Go.Proofs.Ytkpkgjniicnkcaa
