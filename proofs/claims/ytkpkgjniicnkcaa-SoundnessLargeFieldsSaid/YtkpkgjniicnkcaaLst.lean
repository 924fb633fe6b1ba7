/- Lists of numbers in memory: what a slice's address holds; how that fares when the world goes on. -/
import Derived.Test.YtkpkgjniicnkcaaPre
import Derived.Test.YtkpkgjniicnkcaaConB
import Derived.Deep.OwnRows
namespace Go.Proofs.Ytkpkgjniicnkcaa
open Go.RowKit Go.Sort

/-- At u there lie these numbers. -/
structure Ls (w : World) (u : Option Addr) (l : List Int) : Prop where
  small : (l.length : Int) ≤ 9223372036854775807
  all : ∀ x ∈ l, U x
  mem : l ≠ [] → ∃ b o, u = some ⟨b, o, none⟩ ∧ b < w.heap.size ∧ ∀ i x, l[i]? = some x → w.cell? ⟨b, o + i, none⟩ = some (.int .u64 x)
theorem Ls.below {w w' : World} {u : Option Addr} {l : List Int} (h : Ls w u l) {B : Nat} (hB : w.heap.size ≤ B) (hb : Below B w w') : Ls w' u l :=
  ⟨h.small, h.all, fun hne => by
    obtain ⟨b, o, hu, hlt, hc⟩ := h.mem hne
    exact ⟨b, o, hu, Nat.lt_of_lt_of_le hlt hb.size, fun i x hx => by rw [hb.cell (p := ⟨b, o + i, none⟩) (Nat.lt_of_lt_of_le hlt hB)]; exact hc i x hx⟩⟩
theorem Ls.later {w : World} {u : Option Addr} {l : List Int} (h : Ls w u l) (p : Regrown) : Ls (after w p) u l := h.below (Nat.le_refl _) (after_below w p)
theorem Ls.box {w : World} {u : Option Addr} {l : List Int} (h : Ls w u l) (o : Obj) : Ls (w.alloc o) u l := h.below (Nat.le_refl _) ((Below.refl _ w).alloc (Nat.le_refl _) o)
theorem Ls.at_ {w : World} {u : Option Addr} {l : List Int} (h : Ls w u l) {k : Nat} (hk : k < l.length) : ∃ b o x, u = some ⟨b, o, none⟩ ∧ l[k]? = some x ∧ b < w.heap.size ∧ w.cell? ⟨b, o + k, none⟩ = some (.int .u64 x) ∧ U x := by
  have hne : l ≠ [] := fun e => by subst e; simp at hk
  obtain ⟨b, o, hu, hlt, hc⟩ := h.mem hne
  have hx : l[k]? = some l[k] := List.getElem?_eq_getElem hk
  exact ⟨b, o, l[k], hu, hx, hlt, hc k _ hx, h.all _ (List.getElem_mem hk)⟩
theorem Ls.get {w : World} {u : Option Addr} {l : List Int} (h : Ls w u l) {n : Nat} (hn : l.length = n) : ∀ k, k < n → ∃ b o x, u = some ⟨b, o, none⟩ ∧ l[k]? = some x ∧ b < w.heap.size ∧ w.cell? ⟨b, o + k, none⟩ = some (.int .u64 x) ∧ U x :=
  fun k hk => h.at_ (by rw [hn]; exact hk)
theorem Ls.nil (w : World) (u : Option Addr) : Ls w u [] := ⟨by simp, by simp, fun h => absurd rfl h⟩
theorem Ls.row {w : World} {b n : Nat} {t : TypeId} {l : List Int} (h : w.rowIs b t n fun i => .int .u64 (l.getD i 0)) (hn : l.length ≤ n) (hs : (l.length : Int) ≤ 9223372036854775807) (hU : ∀ x ∈ l, U x) : Ls w (some ⟨b, 0, none⟩) l :=
  ⟨hs, hU, fun _ => ⟨b, 0, rfl, h.lt, fun i x hx => by
    have hi : i < l.length := (List.getElem?_eq_some_iff.1 hx).1
    rw [Nat.zero_add, h.cell (Nat.lt_of_lt_of_le hi hn)]
    simp [List.getD, hx]⟩⟩
theorem Ls.new (w : World) (t : TypeId) (c : Array Value) (l : List Int) (hc : c = (l.map (fun x => Value.int .u64 x)).toArray) (hs : (l.length : Int) ≤ 9223372036854775807) (hU : ∀ x ∈ l, U x) : Ls (w.alloc (.cells c t)) (some ⟨w.heap.size, 0, none⟩) l := by
  subst hc
  exact ⟨hs, hU, fun _ => ⟨w.heap.size, 0, rfl, by rw [World.size_alloc]; omega, fun i x hx => by
    rw [World.cell?_alloc_new, Nat.zero_add]
    simp [hx]⟩⟩

/-- A contract of a function that makes a list. -/
def GivesL (l : List Int) (w : World) (e : Ending) (w' : World) : Prop :=
  ∃ b p, e = .returned (.slice (some ⟨b, 0, none⟩) l.length l.length) ∧ w' = after w p ∧ Ls w' (some ⟨b, 0, none⟩) l
theorem useL {P : Program} {f : FuncId} {args : Array Value} {w : World} {l : List Int} {R : Ending → World → Prop} (h : Calls P f args w (GivesL l w))
    (k : ∀ p b, Kept (Ls (after w p) (some ⟨b, 0, none⟩) l) → R (.returned (.slice (some ⟨b, 0, none⟩) l.length l.length)) (after w p)) : Calls P f args w R :=
  h.mono fun e w' ⟨b, p, he, hw, hl⟩ => by
    subst he; subst hw
    exact k p b ⟨hl⟩

/-- The same, the length said by itself. -/
def GivesN (n : Nat) (l : List Int) (w : World) (e : Ending) (w' : World) : Prop :=
  ∃ b p, e = .returned (.slice (some ⟨b, 0, none⟩) n n) ∧ w' = after w p ∧ Ls w' (some ⟨b, 0, none⟩) l
theorem givesN {P : Program} {f : FuncId} {args : Array Value} {w : World} {l : List Int} {n : Nat} (hn : l.length = n) (h : Calls P f args w (GivesL l w)) : Calls P f args w (GivesN n l w) := by
  subst hn; exact h
theorem useN {P : Program} {f : FuncId} {args : Array Value} {w : World} {n : Nat} {l : List Int} {R : Ending → World → Prop} (h : Calls P f args w (GivesN n l w))
    (k : ∀ p b, Kept (Ls (after w p) (some ⟨b, 0, none⟩) l) → R (.returned (.slice (some ⟨b, 0, none⟩) n n)) (after w p)) : Calls P f args w R :=
  h.mono fun e w' ⟨b, p, he, hw, hl⟩ => by
    subst he; subst hw
    exact k p b ⟨hl⟩
theorem useN1 {P : Program} {f : FuncId} {args : Array Value} {w : World} {q : Regrown} {n : Nat} {l : List Int} {R : Ending → World → Prop} (h : Calls P f args (after w q) (GivesN n l (after w q)))
    (k : ∀ p b, Kept (Ls (after w p) (some ⟨b, 0, none⟩) l) → R (.returned (.slice (some ⟨b, 0, none⟩) n n)) (after w p)) : Calls P f args (after w q) R :=
  useN h fun p b hl => by rw [after_after] at hl ⊢; exact k _ b hl

/-- A contract met behind others: what they have left is one world again. -/
theorem use2 {P : Program} {f : FuncId} {args : Array Value} {w : World} {p q : Regrown} {v : Value} {R : Ending → World → Prop} (h : Calls P f args (after (after w p) q) (Gives v (after (after w p) q))) (k : ∀ q, R (.returned v) (after w q)) :
    Calls P f args (after (after w p) q) R := use h (fun r => by rw [after_after, after_after]; exact k _)
theorem use3 {P : Program} {f : FuncId} {args : Array Value} {w : World} {p q r : Regrown} {v : Value} {R : Ending → World → Prop} (h : Calls P f args (after (after (after w p) q) r) (Gives v (after (after (after w p) q) r))) (k : ∀ q, R (.returned v) (after w q)) :
    Calls P f args (after (after (after w p) q) r) R := use h (fun s => by rw [after_after, after_after, after_after]; exact k _)

theorem take_next {l : List Int} {k : Nat} {x : Int} (h : l[k]? = some x) : l.take (k + 1) = l.take k ++ [x] := by
  rw [List.take_add_one, h]; rfl

/-! ### two lists are the same -/
end Go.Proofs.Ytkpkgjniicnkcaa
