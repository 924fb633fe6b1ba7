/- Rows that the call makes longer by append, one element at a time. -/
import Derived.Test.YtkpkgjniicnkcaaApp
import Derived.Laws.OwnMore
namespace Go.Proofs.Ytkpkgjniicnkcaa
open Go.RowKit Go.Sort

set_option maxRecDepth 100000
/-- v is a row of the call's own (all its blocks lie behind W), of n one-cell elements xs; nothing of W has turned. -/
structure Grown (e : TypeId) (W w : World) (v : Value) (n : Nat) (xs : List Value) : Prop where
  below : Below W.heap.size W w
  own : w.ownsRow W.heap.size e 1 v n xs
theorem Grown.keep {e : TypeId} {W w w' : World} {v : Value} {n : Nat} {xs : List Value} (h : Grown e W w v n xs) (hb : Below w.heap.size w w') : Grown e W w' v n xs :=
  ⟨Below.next h.below hb, h.own.1, by
    rcases h.own.2 with hn | ⟨g, cap, cur, hv, hg, hc, rest⟩
    · exact .inl hn
    · exact .inr ⟨g, cap, cur, hv, hg, by rw [hb.block g (Array.getElem?_eq_some_iff.1 hc).1]; exact hc, rest⟩⟩
theorem Grown.later {e : TypeId} {W w : World} {v : Value} {n : Nat} {xs : List Value} (h : Grown e W w v n xs) (p : Regrown) : Grown e W (after w p) v n xs := h.keep (after_below w p)
theorem Grown.box {e : TypeId} {W w : World} {v : Value} {n : Nat} {xs : List Value} (h : Grown e W w v n xs) (o : Obj) : Grown e W (w.alloc o) v n xs := h.keep ((Below.refl _ w).alloc (Nat.le_refl _) o)
theorem Grown.nil0 (e : TypeId) (W : World) : Grown e W W (.slice none 0 0) 0 [] := ⟨Below.refl _ _, World.ownsRow_nil _ _ _ _⟩
theorem Grown.one (e : TypeId) (W : World) (x : Value) : Grown e W (W.alloc (.cells #[x] e)) (.slice (some ⟨W.heap.size, 0, none⟩) 1 1) 1 [x] :=
  ⟨(Below.refl _ W).alloc (Nat.le_refl _) _, World.ownsRow_lit (size := 1) W #[x] 1 (Nat.le_refl _) (by decide) rfl⟩
theorem Grown.empty (e : TypeId) (W : World) : Grown e W (W.alloc (.cells #[] e)) (.slice (some ⟨W.heap.size, 0, none⟩) 0 0) 0 [] :=
  ⟨(Below.refl _ W).alloc (Nat.le_refl _) _, World.ownsRow_lit (size := 1) W #[] 0 (Nat.le_refl _) (by decide) rfl⟩
theorem Grown.form {e : TypeId} {W w : World} {v : Value} {n : Nat} {xs : List Value} (h : Grown e W w v n xs) : ∃ u cap, v = .slice u n cap ∧ (u = none → n = 0 ∧ cap = 0) ∧ (∀ a, u = some a → ∃ b, a = ⟨b, 0, none⟩ ∧ W.heap.size ≤ b ∧ b < w.heap.size ∧ ∀ (i : Nat) x, xs[i]? = some x → w.cell? ⟨b, i, none⟩ = some x) ∧ xs.length = n := by
  have hlen := h.own.1
  rw [Nat.mul_one] at hlen
  rcases h.own.2 with ⟨rfl, rfl⟩ | ⟨g, cap, cur, rfl, hg, hc, rest⟩
  · exact ⟨none, 0, rfl, fun _ => ⟨rfl, rfl⟩, fun a ha => (by cases ha), hlen⟩
  · refine ⟨_, cap, rfl, fun e => (by cases e), fun a ha => ⟨g, (by injection ha with ha; exact ha.symm), hg, (Array.getElem?_eq_some_iff.1 hc).1, fun i x hx => ?_⟩, hlen⟩
    have hi : i < xs.length := (List.getElem?_eq_some_iff.1 hx).1
    rw [h.own.cellAt i (by omega), hx]
theorem Grown.ls {W w : World} {u : Option Addr} {n c : Nat} {l : List Int} {xs : List Value} (h : Grown 23 W w (.slice u n c) n xs) (hx : xs = l.map (fun z => Value.int .u64 z)) (hs : n ≤ 9223372036854775807) (hU : ∀ x ∈ l, U x) : Ls w u l ∧ (u = none → c = 0) ∧ l.length = n := by
  obtain ⟨u', c', e, h1, h2, h3⟩ := h.form
  injection e with e1 e2 e3
  subst e1 e3 hx
  rw [List.length_map] at h3
  refine ⟨⟨by omega, hU, fun hne => ?_⟩, fun e => (h1 e).2, h3⟩
  cases u with
  | none => exact absurd (List.length_eq_zero_iff.1 (by rw [h3]; exact (h1 rfl).1)) hne
  | some a =>
    obtain ⟨b, rfl, hb, hlt, hc⟩ := h2 a rfl
    exact ⟨b, 0, rfl, hlt, fun i x hx => by rw [Nat.zero_add]; exact hc i _ (by rw [List.getElem?_map, hx]; rfl)⟩

theorem wpList_push {W w : World} {ops : Array Oper} {rest : List Oper} {o : Oper} {a : Act} {Q : Exit → Act → World → Prop} (t e : TypeId) (z : Value) (by' : Nat) (hu : Try.prog.underlying t = some (.slice e))
    (hi : (Try.prog.info? e).map (fun i => (i.zero, i.size, i.bytes)) = some (some z, 1, by')) (hz1 : z.cells.size = 1) (hb8 : by' ≤ 64) (hgd : o.guard = none) (s x : Operand)
    (ho : o.op = .call { callee := .builtin .append, args := #[s, x], argTypes := #[t, t] }) (v : Value) (n : Nat) (xs : List Value) (hG : Grown e W w v n xs) (hs : a.eval s = v)
    (y : Value) (hy1 : y.oneCell' = true) (b : Nat) (hx : a.eval x = .slice (some ⟨b, 0, none⟩) 1 1) (hc : w.cell? ⟨b, 0, none⟩ = some y) (hsmall : n ≤ 1048576)
    (h : ∀ v' w', Grown e W w' v' (n + 1) (xs ++ [y]) → wpList Try.prog ops Q rest (a.put o.dst v') w') : wpList Try.prog ops Q (o :: rest) a w := by
  obtain ⟨i, hi, hii⟩ := Option.map_eq_some_iff.1 hi
  simp only [Prod.mk.injEq] at hii
  obtain ⟨hz, hsz, hby⟩ := hii
  refine wpList_append_own w hgd s x t ho W.heap.size e i z 1 by' hu hi hz hsz hby hz1 (by decide) v n xs hs hG.own ⟨b, 0, none⟩ 1 1 [y] hx rfl ?_ ?_ (by simp only [maxLen]; omega) ?_ hG.below.size ?_
  · intro j u hj
    match j, hj with
    | 0, hj => simp at hj; subst hj; rw [Addr.add_lit]; exact hc
    | j + 1, hj => simp at hj
  · intro u hu; rw [List.mem_singleton] at hu; subst hu; exact hy1
  · have := Nat.mul_le_mul_left (n + 1) hb8; omega
  · intro v' w' hown' hgr _
    exact h v' w' ⟨Below.grown hG.below hgr hG.below.size (fun k hk => (hG.own.lt k hk).1), hown'⟩
end Go.Proofs.Ytkpkgjniicnkcaa
