/- Lists of rows of numbers that the call makes by append: each row in a block of its own. -/
import Derived.Test.YtkpkgjniicnkcaaGrw
import Derived.Test.YtkpkgjniicnkcaaMake
import Derived.Maps.AppendAt
namespace Go.Proofs.Ytkpkgjniicnkcaa
open Go.RowKit Go.Sort

set_option maxRecDepth 100000
def rowV (x : Nat × List Int) : Value := .slice (some ⟨x.1, 0, none⟩) x.2.length x.2.length
/-- v is a list of rows of the call's own: row i lies in block bs[i] and holds ls[i]; nothing of W has turned. -/
structure Mat (W w : World) (v : Value) (bs : List Nat) (ls : List (List Int)) : Prop where
  grown : Grown 36 W w v ls.length ((bs.zip ls).map rowV)
  len : bs.length = ls.length
  rows : ∀ (i : Nat) b l, bs[i]? = some b → ls[i]? = some l → w.rowIs b 23 l.length (fun j => .int .u64 (l.getD j 0))
  ge : ∀ b ∈ bs, W.heap.size ≤ b ∧ v.ownBlock ≠ some b ∧ b < w.heap.size
  nodup : bs.Nodup
  all : ∀ l ∈ ls, ∀ x ∈ l, U x
theorem Mat.keep {W w w' : World} {v : Value} {bs : List Nat} {ls : List (List Int)} (h : Mat W w v bs ls) (hb : Below w.heap.size w w') : Mat W w' v bs ls :=
  ⟨h.grown.keep hb, h.len, fun i b l h1 h2 => (h.rows i b l h1 h2).of_block (hb.block b (h.rows i b l h1 h2).lt), fun b hbm => ⟨(h.ge b hbm).1, (h.ge b hbm).2.1, Nat.lt_of_lt_of_le (h.ge b hbm).2.2 hb.size⟩, h.nodup, h.all⟩
theorem Mat.later {W w : World} {v : Value} {bs : List Nat} {ls : List (List Int)} (h : Mat W w v bs ls) (p : Regrown) : Mat W (after w p) v bs ls := h.keep (after_below w p)
theorem Mat.box {W w : World} {v : Value} {bs : List Nat} {ls : List (List Int)} (h : Mat W w v bs ls) (o : Obj) : Mat W (w.alloc o) v bs ls := h.keep ((Below.refl _ w).alloc (Nat.le_refl _) o)
theorem Mat.nil0 (W : World) : Mat W W (.slice none 0 0) [] [] :=
  ⟨Grown.nil0 _ W, rfl, fun i b l h => by simp at h, fun b h => by simp at h, List.nodup_nil, fun l h => by simp at h⟩
theorem Mat.empty (W : World) : Mat W (W.alloc (.cells #[] 36)) (.slice (some ⟨W.heap.size, 0, none⟩) 0 0) [] [] :=
  ⟨Grown.empty _ W, rfl, fun i b l h => by simp at h, fun b h => by simp at h, List.nodup_nil, fun l h => by simp at h⟩

theorem wpList_pushRow {W w : World} {ops : Array Oper} {rest : List Oper} {o : Oper} {a : Act} {Q : Exit → Act → World → Prop} (hgd : o.guard = none) (s x : Operand)
    (ho : o.op = .call { callee := .builtin .append, args := #[s, x], argTypes := #[53, 53] }) (v : Value) (bs : List Nat) (ls : List (List Int)) (hM : Mat W w v bs ls) (hs : a.eval s = v)
    (pb n : Nat) (l : List Int) (hn : l.length = n) (hp : w.rowIs pb 23 n (fun j => .int .u64 (l.getD j 0))) (hpW : W.heap.size ≤ pb) (hpb : pb ∉ bs) (hpv : v.ownBlock ≠ some pb) (hU : ∀ x ∈ l, U x)
    (b : Nat) (hx : a.eval x = .slice (some ⟨b, 0, none⟩) 1 1) (hc : w.cell? ⟨b, 0, none⟩ = some (.slice (some ⟨pb, 0, none⟩) n n)) (hsmall : ls.length ≤ 1048576)
    (h : ∀ v' w', Mat W w' v' (bs ++ [pb]) (ls ++ [l]) → wpList Try.prog ops Q rest (a.put o.dst v') w') : wpList Try.prog ops Q (o :: rest) a w := by
  subst hn
  obtain ⟨i, hi, hii⟩ := Option.map_eq_some_iff.1 (show (Try.prog.info? 36).map (fun i => (i.zero, i.size, i.bytes)) = some (some (.slice none 0 0), 1, 24) from by kernel_rfl)
  simp only [Prod.mk.injEq] at hii
  obtain ⟨hz, hsz, hby⟩ := hii
  refine wpList_append_own_at w hgd s x 53 ho W.heap.size 36 i (.slice none 0 0) 1 24 Try.underlying53 hi hz hsz hby rfl (by decide) v ls.length _ hs hM.grown.own ⟨b, 0, none⟩ 1 1 [.slice (some ⟨pb, 0, none⟩) l.length l.length] hx rfl ?_ ?_ (by simp only [maxLen]; omega) (by omega) hM.grown.below.size ?_
  · intro j u hj
    match j, hj with
    | 0, hj => simp at hj; subst hj; rw [Addr.add_lit]; exact hc
    | j + 1, hj => simp at hj
  · intro u hu; rw [List.mem_singleton] at hu; subst hu; rfl
  · intro v' w' hown' hgr _ hat
    have hkeep : ∀ k, k < w.heap.size → v.ownBlock ≠ some k → w'.heap[k]? = w.heap[k]? := fun k hk hne => hgr.block k hk (fun e => hne e.symm)
    have hne' : ∀ k, k < w.heap.size → v.ownBlock ≠ some k → v'.ownBlock ≠ some k := fun k hk hne e => by
      rcases hat with e2 | e2
      · rw [e2] at e; exact hne e
      · rw [e2] at e; injection e with e; omega
    refine h v' w' ⟨⟨Below.grown hM.grown.below hgr hM.grown.below.size (fun k hk => (hM.grown.own.lt k hk).1), ?_⟩, by simp [hM.len], ?_, ?_, ?_, ?_⟩
    · rw [List.zip_append hM.len, List.map_append, List.length_append]; exact hown'
    · intro i b' l' h1 h2
      rcases Nat.lt_or_ge i bs.length with hi' | hi'
      · rw [List.getElem?_append_left hi'] at h1
        rw [List.getElem?_append_left (by rw [← hM.len]; exact hi')] at h2
        have hr := hM.rows i b' l' h1 h2
        exact hr.of_block (hkeep b' hr.lt (hM.ge b' (List.mem_of_getElem? h1)).2.1)
      · rw [List.getElem?_append_right hi'] at h1
        rw [List.getElem?_append_right (by rw [← hM.len]; exact hi')] at h2
        match hd : i - bs.length with
        | 0 =>
          rw [hd] at h1; rw [← hM.len, hd] at h2
          simp at h1 h2
          subst h1 h2
          exact hp.of_block (hkeep pb hp.lt hpv)
        | k + 1 => rw [hd] at h1; simp at h1
    · intro b' hb'
      rcases List.mem_append.1 hb' with hb' | hb'
      · have := hM.ge b' hb'
        exact ⟨this.1, hne' b' this.2.2 this.2.1, Nat.lt_of_lt_of_le this.2.2 hgr.size⟩
      · rw [List.mem_singleton] at hb'; subst hb'
        exact ⟨hpW, hne' _ hp.lt hpv, Nat.lt_of_lt_of_le hp.lt hgr.size⟩
    · rw [List.nodup_append]
      exact ⟨hM.nodup, by simp, fun a ha b hb e => by rw [List.mem_singleton] at hb; subst hb; subst e; exact hpb ha⟩
    · intro l' hl'
      rcases List.mem_append.1 hl' with hl' | hl'
      · exact hM.all l' hl'
      · rw [List.mem_singleton] at hl'; subst hl'; exact hU

/-! ### cutting a vector into chunks -/
def chunk (b : Nat) (v : List Int) (k : Nat) : List Int := (List.range b).map fun j => v.getD (k * b + j) 0
def cutL (b n : Nat) (v : List Int) : List (List Int) := (List.range n).map (chunk b v)
def cuts (b : Nat) (pf : Nat → Nat) (lf : Nat → List Int) : Nat → List (List Int)
  | 0 => []
  | i + 1 => cuts b pf lf i ++ cutL b (pf i) (lf i)
theorem cutL_next (b n : Nat) (v : List Int) : cutL b (n + 1) v = cutL b n v ++ [chunk b v n] := by simp [cutL, List.range_succ]
theorem cutL_len (b n : Nat) (v : List Int) : (cutL b n v).length = n := by simp [cutL]
theorem chunk_len (b : Nat) (v : List Int) (k : Nat) : (chunk b v k).length = b := by simp [chunk]
theorem cuts_len {b M : Nat} {pf : Nat → Nat} {lf : Nat → List Int} (h : ∀ i, pf i ≤ M) : ∀ i, (cuts b pf lf i).length ≤ i * M
  | 0 => by simp [cuts]
  | i + 1 => by have := cuts_len (b := b) (lf := lf) h i; have := h i; rw [cuts, List.length_append, cutL_len, Nat.add_mul]; omega
theorem chunk_U {b : Nat} {v : List Int} {k : Nat} (h : ∀ x ∈ v, U x) : ∀ x ∈ chunk b v k, U x := by
  intro x hx
  simp only [chunk, List.mem_map] at hx
  obtain ⟨j, _, rfl⟩ := hx
  rw [List.getD]
  cases hv : v[k * b + j]? with
  | none => exact ⟨by decide, by decide⟩
  | some y => exact h y (List.mem_of_getElem? hv)
theorem chunk_at (b : Nat) (v : List Int) (k j : Nat) (h : j < b) : (chunk b v k).getD j 0 = v.getD (k * b + j) 0 := by
  rw [List.getD, chunk, List.getElem?_map, List.getElem?_range h]; rfl
end Go.Proofs.Ytkpkgjniicnkcaa
