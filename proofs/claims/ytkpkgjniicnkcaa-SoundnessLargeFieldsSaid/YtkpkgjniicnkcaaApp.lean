/- append([]uint64{}, a...): a copy in a block of the call's own. -/
import Derived.Test.YtkpkgjniicnkcaaLst
import Derived.Laws.AppendOwn
import Derived.Laws.AppendOwnNone
namespace Go.Proofs.Ytkpkgjniicnkcaa
open Go.RowKit Go.Sort

set_option maxRecDepth 100000
theorem after_none (w : World) : after w ⟨w.drawn, #[]⟩ = w := by simp [after_eq, Go.Sort.grow_empty]; rfl
theorem Ls.keep {w w' : World} {u : Option Addr} {l : List Int} {g : Nat} (h : Ls w u l) (hu : ∀ b o s, u = some ⟨b, o, s⟩ → b ≠ g) (hk : ∀ j, j < w.heap.size → j ≠ g → w'.heap[j]? = w.heap[j]?) (hs : w.heap.size ≤ w'.heap.size) : Ls w' u l :=
  ⟨h.small, h.all, fun hne => by
    obtain ⟨b, o, e, hlt, hc⟩ := h.mem hne
    exact ⟨b, o, e, Nat.lt_of_lt_of_le hlt hs, fun i x hx => by rw [World.cell?_of_block (w := w) (a := ⟨b, o + i, none⟩) (hk b hlt (hu b o none e))]; exact hc i x hx⟩⟩

theorem wpList_append_ls {W w : World} {ops : Array Oper} {rest : List Oper} {o : Oper} {a : Act} {Q : Exit → Act → World → Prop} (hgd : o.guard = none) (s x : Operand)
    (ho : o.op = .call { callee := .builtin .append, args := #[s, x], argTypes := #[36, 36] })
    (hW : Below W.heap.size W w) (g : Nat) (hg : W.heap.size ≤ g) (hs : a.eval s = .slice (some ⟨g, 0, none⟩) 0 0) (hrow : w.heap[g]? = some (.cells #[] 23 (0, 0)))
    (u : Option Addr) (l : List Int) (n c : Nat) (hn : l.length = n) (hx : a.eval x = .slice u n c) (hl : Ls w u l) (hc : u = none → c = 0) (hsmall : n ≤ 1048576)
    (h : ∀ b cap w', Below W.heap.size W w' → W.heap.size ≤ b → Ls w' (some ⟨b, 0, none⟩) l → (∀ j, j < w.heap.size → j ≠ g → w'.heap[j]? = w.heap[j]?) → w.heap.size ≤ w'.heap.size →
      wpList Try.prog ops Q rest (a.put o.dst (.slice (some ⟨b, 0, none⟩) n cap)) w') : wpList Try.prog ops Q (o :: rest) a w := by
  obtain ⟨i, hi, hii⟩ := Option.map_eq_some_iff.1 (show (Try.prog.info? 23).map (fun i => (i.zero, i.size, i.bytes)) = some (some (.int .u64 0), 1, 8) from by kernel_rfl)
  simp only [Prod.mk.injEq] at hii
  obtain ⟨hz, hsz, hby⟩ := hii
  have hgl : g < w.heap.size := (Array.getElem?_eq_some_iff.1 hrow).1
  have hown : w.ownsRow W.heap.size 23 1 (.slice (some ⟨g, 0, none⟩) 0 0) 0 [] :=
    ⟨by simp, .inr ⟨g, 0, #[], rfl, hg, hrow, Nat.le_refl _, Nat.zero_le _, by simp, by simp⟩⟩
  cases hu : u with
  | none =>
    have hl0 : l = [] := by
      rcases List.eq_nil_or_concat l with e | ⟨l', y, e⟩
      · exact e
      · obtain ⟨b, o, e2, _⟩ := hl.mem (by subst e; simp)
        rw [hu] at e2; cases e2
    subst hl0
    have hn0 : n = 0 := by simpa using hn.symm
    subst hn0
    rw [hu, hc hu] at hx
    refine wpList_append_own_none hgd s x 36 ho W.heap.size 23 i 1 Try.underlying36 hi _ 0 [] hs hown hx ?_
    exact h g 0 w hW hg (Ls.nil _ _) (fun _ _ _ => rfl) (Nat.le_refl _)
  | some ad =>
    rw [hu] at hx hl
    refine wpList_append_own w hgd s x 36 ho W.heap.size 23 i (.int .u64 0) 1 8 Try.underlying36 hi hz hsz hby rfl (by decide) _ 0 [] hs hown ad n c (l.map (fun z => Value.int .u64 z)) hx (by simp [hn]) ?_ ?_ (by simp only [maxLen]; omega) (by omega) hW.size ?_
    · intro j v hv
      rw [List.getElem?_map] at hv
      cases hlj : l[j]? with
      | none => rw [hlj] at hv; cases hv
      | some z =>
        rw [hlj] at hv; injection hv with hv; subst hv
        obtain ⟨b, o, e, _, hcell⟩ := hl.mem (by intro e; subst e; simp at hlj)
        injection e with e; subst e
        rw [Addr.add_lit]; exact hcell j z hlj
    · intro v hv
      obtain ⟨z, _, e⟩ := List.mem_map.1 hv
      subst e; rfl
    · intro v' w' hown' hgr hiff
      rw [Nat.zero_add, List.nil_append] at hown'
      have hB : Below W.heap.size W w' := Below.grown hW hgr hW.size (fun k hk => by simp [Value.ownBlock] at hk; omega)
      have hkeep : ∀ j, j < w.heap.size → j ≠ g → w'.heap[j]? = w.heap[j]? := fun j hj hjg => hgr.block j hj (by simp [Value.ownBlock]; exact hjg)
      rcases hown'.2 with ⟨e, _⟩ | ⟨b, cap, cur, e, hb, hcur, hcap, hcm, hcs, htake⟩
      · exact absurd (hiff.1 e).1 (by simp)
      · subst e
        refine h b cap w' hB hb ?_ hkeep hgr.size
        refine ⟨by rw [hn]; omega, hl.all, fun _ => ⟨b, 0, rfl, (Array.getElem?_eq_some_iff.1 hcur).1, fun i z hz' => ?_⟩⟩
        have hi' : i < n := by rw [← hn]; exact (List.getElem?_eq_some_iff.1 hz').1
        rw [Nat.zero_add, hown'.cellAt i (by omega), List.getElem?_map, hz']; rfl

/-- The same, behind '[]uint64{}': the source lay there from the start; what was there ahead of the call is as it was. -/
theorem wpList_append_copy {W wa : World} {ops : Array Oper} {rest : List Oper} {o : Oper} {a : Act} {Q : Exit → Act → World → Prop} (hgd : o.guard = none) (s x : Operand)
    (ho : o.op = .call { callee := .builtin .append, args := #[s, x], argTypes := #[36, 36] })
    (g : Nat) (hs : a.eval s = .slice (some ⟨g, 0, none⟩) 0 0) (hg : g = wa.heap.size)
    (u : Option Addr) (l : List Int) (n c : Nat) (hx : a.eval x = .slice u n c) (hl : Kept (Ls W u l ∧ (u = none → c = 0) ∧ l.length = n)) (hW : Below W.heap.size W wa) (hsmall : n ≤ 1048576)
    (h : ∀ q b cap, Kept (Ls (after wa q) (some ⟨b, 0, none⟩) l) → wpList Try.prog ops Q rest (a.put o.dst (.slice (some ⟨b, 0, none⟩) n cap)) (after wa q)) :
    wpList Try.prog ops Q (o :: rest) a (wa.alloc (.cells #[] 23)) := by
  subst hg
  have hb0 : Below wa.heap.size wa (wa.alloc (.cells #[] 23)) := (Below.refl _ wa).alloc (Nat.le_refl _) _
  refine wpList_append_ls (W := wa) hgd s x ho hb0 wa.heap.size (Nat.le_refl _) hs (Go.Deep.blk_alloc_new _ _) u l n c hl.out.2.2 hx ((hl.out.1.below (Nat.le_refl _) hW).box _) hl.out.2.1 hsmall ?_
  intro b cap w' hB _ hlw _ _
  obtain ⟨q, rfl⟩ := after_of hB
  exact h q b cap ⟨hlw⟩

/-- A place where a walk stands still. -/
structure Stop (p : Prop) : Prop where
  out : p
end Go.Proofs.Ytkpkgjniicnkcaa
