/- A copy by append, at a step of a region that draws its order. -/
import Derived.Test.YtpkjlnelkacbgaaQC
import Derived.Deep.AppendLies
namespace Go.Proofs.Ytpkjlnelkacbgaa
open Go.RowKit Go.Sort

set_option maxRecDepth 100000
theorem alloc_at24 {W : World} {o : Obj} {G : Nat} (h : W.heap.size = G) : (W.alloc o).heap[G]? = some o := by subst h; exact heap_alloc_new W o
theorem step_copy {W w : World} {ops : Array Oper} {o : Oper} {a : Act} {K : Act → World → Prop} {Q : Exit → Act → World → Prop} {E : Prop} (hgd : o.guard = none) (s x : Operand)
    (ho : o.op = .call { callee := .builtin .append, args := #[s, x], argTypes := #[43, 43] })
    (hW : Below W.heap.size W w) (g : Nat) (hg : W.heap.size ≤ g) (hs : a.eval s = .slice (some ⟨g, 0, none⟩) 0 0) (hrow : w.heap[g]? = some (.cells #[] 22 (0, 0)))
    (u : Option Addr) (l : List Int) (n c : Nat) (hn : l.length = n) (hx : a.eval x = .slice u n c) (hl : Ls w u l) (hpos : 0 < n) (hsmall : n ≤ 1048576)
    (h : ∀ b cap w', Below W.heap.size W w' → W.heap.size ≤ b → Ls w' (some ⟨b, 0, none⟩) l → n ≤ cap → K (a.put o.dst (.slice (some ⟨b, 0, none⟩) n cap)) w') :
    if Region.wanted o (yielded ops a.tmps) = true then Oper.wp Try.prog o a w K Q else E := by
  obtain ⟨i, hi, hz, hsz, hby⟩ := info_parts (show (Try.prog.info? 22).map (fun i => (i.zero, i.size, i.bytes)) = some (some (.int .u64 0), 1, 8) from by kernel_rfl)
  have hgl : g < w.heap.size := (Array.getElem?_eq_some_iff.1 hrow).1
  have hown : w.ownsRow W.heap.size 22 1 (.slice (some ⟨g, 0, none⟩) 0 0) 0 [] :=
    ⟨by simp, .inr ⟨g, 0, #[], rfl, hg, hrow, Nat.le_refl _, Nat.zero_le _, by simp, by simp⟩⟩
  obtain ⟨bl, ol, rfl, hblt, hcell⟩ := hl.mem (fun e => by subst e; simp at hn; omega)
  refine step_append_lies _ hgd s x 43 ho W.heap.size 22 i (.int .u64 0) 1 8 Try.underlying43 hi hz hsz hby rfl (by decide) _ 0 [] hs hown ⟨bl, ol, none⟩ n c (l.map (fun z => Value.int .u64 z)) hx (by simp [hn]) ?_ ?_ hpos (by simp only [maxLen]; omega) (by omega) hW.size _ rfl ?_
  · intro j v hv
    rw [List.getElem?_map] at hv
    cases hlj : l[j]? with
    | none => rw [hlj] at hv; cases hv
    | some z =>
      rw [hlj] at hv; injection hv with hv; subst hv
      rw [Addr.add_lit]; exact hcell j z hlj
  · intro v hv
    obtain ⟨z, _, e⟩ := List.mem_map.1 hv
    subst e; rfl
  · intro g' cap w' hown' hgr hat hlt
    rw [Nat.zero_add, List.nil_append] at hown'
    rw [Nat.zero_add]
    have hB : Below W.heap.size W w' := Below.grown hW hgr hW.size (fun k hk => by simp [Value.ownBlock] at hk; omega)
    have hge : W.heap.size ≤ g' := by
      rcases hat with e | e
      · simp [Value.ownBlock] at e; omega
      · have := hW.size; omega
    have hcp : n ≤ cap := by
      rcases hown'.2 with ⟨e, _⟩ | ⟨b, cap', cur, e, hb, hcur, hcap, _⟩
      · cases e
      · injection e with _ _ e; omega
    refine h g' cap w' hB hge ⟨by rw [hn]; omega, hl.all, fun _ => ⟨g', 0, rfl, hlt, fun i x hx => ?_⟩⟩ hcp
    have hi : i < l.length := (List.getElem?_eq_some_iff.1 hx).1
    have := hown'.cellAt i (by omega)
    rw [Nat.zero_add]
    rw [this, List.getElem?_map, hx]; rfl
end Go.Proofs.Ytpkjlnelkacbgaa
