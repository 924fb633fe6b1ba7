/- moidorelaw29.right: the layout, the public values and the messages of a problem. -/
import Derived.Test.YtpkjlnelkacbgaaQD
import Derived.Test.YtpkjlnelkacbgaaHL29b
import Derived.Test.YtpkjlnelkacbgaaHMsh
import Derived.Test.YtpkjlnelkacbgaaQC
namespace Go.Proofs.Ytpkjlnelkacbgaa
open Go.RowKit Go.Sort

set_option maxRecDepth 100000
theorem zip_map_rowV : ∀ (bs : List Nat) (ls ls' : List (List Int)), ls.map List.length = ls'.map List.length → (bs.zip ls).map rowV = (bs.zip ls').map rowV
  | [], _, _, _ => by simp
  | _ :: _, [], [], _ => rfl
  | _ :: _, [], _ :: _, h => by simp at h
  | _ :: _, _ :: _, [], h => by simp at h
  | b :: bs, l :: ls, l' :: ls', h => by
    simp only [List.map_cons, List.cons.injEq] at h
    simp only [List.zip_cons_cons, List.map_cons, rowV, h.1, zip_map_rowV bs ls ls' h.2]
theorem set_lens (ls : List (List Int)) (i j : Nat) (l : List Int) (x : Int) (hl : ls[i]? = some l) : (ls.set i (l.set j x)).map List.length = ls.map List.length := by
  apply List.ext_getElem?
  intro k
  rw [List.getElem?_map, List.getElem?_map, List.getElem?_set]
  split
  · subst i
    obtain ⟨hk, hx⟩ := List.getElem?_eq_some_iff.1 hl
    simp [hk, ← hx]
  · rfl
theorem Mat.put {W w : World} {v : Value} {bs : List Nat} {ls : List (List Int)} (h : Mat W w v bs ls) {i b : Nat} {l : List Int} (hb : bs[i]? = some b) (hl : ls[i]? = some l) {j : Nat} {x : Int} (hx : U x) : Mat W (w.setCell ⟨b, j, none⟩ (.int .u64 x)) v bs (ls.set i (l.set j x)) := by
  have hbm := List.mem_of_getElem? hb
  have hlm := List.mem_of_getElem? hl
  refine ⟨⟨Below.put h.grown.below (h.ge b hbm).1 _, ?_⟩, by simp [h.len], ?_, ?_, h.nodup, ?_⟩
  · rw [zip_map_rowV bs _ ls (set_lens ls i j l x hl), List.length_set]
    exact ownsRow_setCell_other h.grown.own (h.ge b hbm).2.1 _
  · intro k b' l' h1 h2
    rw [List.getElem?_set] at h2
    split at h2
    · rename_i e
      subst e
      obtain ⟨hi, _⟩ := List.getElem?_eq_some_iff.1 hl
      rw [if_pos hi] at h2
      rw [hb] at h1
      injection h1 with h1
      injection h2 with h2
      subst h1 h2
      rw [List.length_set]
      refine ((h.rows i b l hb hl).set j (.int .u64 x)).congr fun t ht => ?_
      by_cases e : t = j
      · subst e; simp [ht]
      · rw [if_neg e, List.getD_eq_getElem?_getD, List.getD_eq_getElem?_getD, List.getElem?_set_ne (Ne.symm e)]
    · rename_i e
      refine (h.rows k b' l' h1 h2).setOther (fun e2 => e ?_) _
      simp only at e2
      subst e2
      exact (List.getElem?_inj (List.getElem?_eq_some_iff.1 hb).1 h.nodup).1 (by rw [hb, h1])
  · intro b' hb'
    exact ⟨(h.ge b' hb').1, (h.ge b' hb').2.1, by rw [World.size_setCell]; exact (h.ge b' hb').2.2⟩
  · intro l' hl' y hy
    rcases List.mem_or_eq_of_mem_set hl' with hl' | rfl
    · exact h.all l' hl' y hy
    · rcases List.mem_or_eq_of_mem_set hy with hy | rfl
      · exact h.all l hlm y hy
      · exact hx

theorem Mat.row_at {W w : World} {v : Value} {bs : List Nat} {ls : List (List Int)} (h : Mat W w v bs ls) {i : Nat} (hi : i < ls.length) : ∃ g l, bs[i]? = some g ∧ ls[i]? = some l ∧ l ∈ ls ∧ g < w.heap.size ∧ W.heap.size ≤ g ∧ w.rowIs g 22 l.length (fun j => .int .u64 (l.getD j 0)) := by
  have hib : i < bs.length := by rw [h.len]; exact hi
  have hb : bs[i]? = some bs[i] := List.getElem?_eq_getElem hib
  have hl : ls[i]? = some ls[i] := List.getElem?_eq_getElem hi
  have hg := h.ge _ (List.mem_of_getElem? hb)
  exact ⟨bs[i], ls[i], hb, hl, List.mem_of_getElem? hl, hg.2.2, hg.1, h.rows i _ _ hb hl⟩
theorem Mat.form {W w : World} {v : Value} {bs : List Nat} {ls : List (List Int)} (h : Mat W w v bs ls) (h0 : 0 < ls.length) : ∃ G c, v = .slice (some ⟨G, 0, none⟩) ls.length c ∧ ls.length ≤ c ∧ W.heap.size ≤ G ∧ G < w.heap.size := by
  obtain ⟨u, c, e, h1, h2, h3⟩ := h.grown.form
  cases u with
  | none => have := (h1 rfl).1; omega
  | some a =>
    obtain ⟨G, rfl, hG, hlt, _⟩ := h2 a rfl
    refine ⟨G, c, e, ?_, hG, hlt⟩
    subst e
    have := h.grown.own.2
    rcases this with ⟨e, _⟩ | ⟨g, cap, cur, e, _, _, rest⟩
    · cases e
    · injection e with e1 e2 e3
      subst e3
      omega
theorem Mat.cell_at {W w : World} {G n c : Nat} {bs : List Nat} {ls : List (List Int)} (h : Mat W w (.slice (some ⟨G, 0, none⟩) n c) bs ls) {i g : Nat} {l : List Int} (hb : bs[i]? = some g) (hl : ls[i]? = some l) : w.cell? ⟨G, i, none⟩ = some (.slice (some ⟨g, 0, none⟩) l.length l.length) := by
  obtain ⟨u, c', e, h1, h2, h3⟩ := h.grown.form
  injection e with e1 e2 e3
  subst e1
  obtain ⟨G', e, _, _, hc⟩ := h2 _ rfl
  injection e with e
  subst e
  refine hc i _ ?_
  rw [List.getElem?_map, (List.getElem?_zip_eq_some (z := (g, l))).2 ⟨hb, hl⟩]
  rfl

def rightOk (p pub vs b bl q : Int) (rs : List Rw) (l pl : List Int) : Bool := rightB p pub vs b bl q rs l 20 && decide (p ≤ 257) && decide (pl.length ≤ 20)
end Go.Proofs.Ytpkjlnelkacbgaa
