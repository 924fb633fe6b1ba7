/- What every contract of these proofs says, and how a walk meets it: the call returns v; of what was there nothing has turned. -/
import Derived.Test.YtkpkgjniicnkcaaChecked
import Derived.WalkKit
import Derived.WalkSpells
import Derived.Outline
import Derived.RowKit3
import Derived.Lib.Hide
import Derived.Lib.QuietBelow
import Derived.BigQuiet
import Derived.Test.YtkpkgjniicnkcaaTail
import Derived.Deep.LoopGhost
import Derived.Deep.DeepCutAuto
import Derived.Deep.CutBlock
import Derived.Deep.Light
namespace Go.Proofs.Ytkpkgjniicnkcaa
open Go.RowKit Go.Sort

/-- A fact kept from the walk, which takes every hypothesis for a rewrite rule. -/
structure Kept (p : Prop) : Prop where
  out : p

/-- A call comes to this: it returns v; of what was there nothing has turned. -/
def Gives (v : Value) (w : World) (e : Ending) (w' : World) : Prop := e = .returned v ∧ Below w.heap.size w w'

/-- A world after draws, with some blocks more. -/
def after (w : World) (p : Regrown) : World := grow (redrawn w p.d) p.os
theorem after_eq (w : World) (p : Regrown) : after w p = grow (redrawn w p.d) p.os := rfl
theorem after_after (w : World) (p q : Regrown) : after (after w p) q = after w ⟨q.d, p.os ++ q.os⟩ := by
  simp [after_eq, grow, redrawn, Array.append_assoc]
theorem after_start (w : World) : after w ⟨w.drawn + 1, #[]⟩ = { w with drawn := w.drawn + 1 } := by
  simp [after_eq, grow_empty]; rfl
theorem after_below (w : World) (p : Regrown) : Below w.heap.size w (after w p) := below_regrown w p.d p.os
theorem after_of {w w' : World} (h : Below w.heap.size w w') : ∃ p, w' = after w p := regrown_of_below h
theorem after_size0 (w : World) (p : Regrown) : (after w p).heap.size = w.heap.size + p.os.size := by simp [after_eq, grow, redrawn]
attribute [irreducible] after

theorem Below.next {w w1 w2 : World} (h : Below w.heap.size w w1) (h2 : Below w1.heap.size w1 w2) : Below w.heap.size w w2 := h.trans (h2.mono h.size)
theorem Below.box {w w1 : World} (h : Below w.heap.size w w1) (o : Obj) : Below w.heap.size w (w1.alloc o) := h.alloc h.size o
theorem Below.put {w w1 : World} (h : Below w.heap.size w w1) {a : Addr} (ha : w.heap.size ≤ a.block) (v : Value) : Below w.heap.size w (w1.setCell a v) := h.setCell ha v
theorem Below.later {w w1 : World} (h : Below w.heap.size w w1) (p : Regrown) : Below w.heap.size w (after w1 p) := Below.next h (after_below w1 p)

/-- A contract met in a walk. -/
theorem use {P : Program} {f : FuncId} {args : Array Value} {w : World} {v : Value} {R : Ending → World → Prop} (h : Calls P f args w (Gives v w)) (k : ∀ p, R (.returned v) (after w p)) : Calls P f args w R :=
  h.mono fun e w' ⟨he, hb⟩ => by
    obtain ⟨p, rfl⟩ := after_of hb
    subst he
    exact k p
/-- A contract whose call leaves the world alone. -/
theorem use0 {P : Program} {f : FuncId} {args : Array Value} {w : World} {v : Value} {R : Ending → World → Prop} (h : Calls P f args w fun e w' => e = .returned v ∧ w = w') (k : R (.returned v) w) : Calls P f args w R :=
  h.mono fun e w' ⟨he, hb⟩ => by subst he; subst hb; exact k

@[simp, go_sem] theorem after_size (w : World) (p : Regrown) : (after w p).heap.size = w.heap.size + p.os.size := after_size0 w p
@[simp, go_sem] theorem after_cell (w : World) (p : Regrown) (b o : Nat) (h : b < w.heap.size) : (after w p).cell? ⟨b, o, none⟩ = w.cell? ⟨b, o, none⟩ := (after_below w p).cell (p := ⟨b, o, none⟩) h
@[simp, go_sem] theorem after_frozen (w : World) (p : Regrown) (b o : Nat) (h : b < w.heap.size) : (after w p).frozen? ⟨b, o, none⟩ = w.frozen? ⟨b, o, none⟩ := (after_below w p).frozen (p := ⟨b, o, none⟩) h
@[simp, go_sem] theorem lt_grow {a b : Nat} (k : Nat) (h : a < b) : a < b + k := by omega
@[simp, go_sem] theorem lt_0_1 (a k : Nat) : a < a + 1 + k := by omega
@[simp, go_sem] theorem lt_0_1' (a k : Nat) : a < a + 1 + k + 1 := by omega
@[simp, go_sem] theorem lt_0_2 (a k : Nat) : a < a + 2 + k := by omega
@[simp, go_sem] theorem lt_0_2' (a k : Nat) : a < a + 2 + k + 1 := by omega
@[simp, go_sem] theorem lt_1_2 (a k : Nat) : a + 1 < a + 2 + k := by omega
@[simp, go_sem] theorem lt_1_2' (a k : Nat) : a + 1 < a + 2 + k + 1 := by omega
@[simp, go_sem] theorem lt_0_3 (a k : Nat) : a < a + 3 + k := by omega
@[simp, go_sem] theorem lt_0_3' (a k : Nat) : a < a + 3 + k + 1 := by omega
@[simp, go_sem] theorem lt_1_3 (a k : Nat) : a + 1 < a + 3 + k := by omega
@[simp, go_sem] theorem lt_1_3' (a k : Nat) : a + 1 < a + 3 + k + 1 := by omega
@[simp, go_sem] theorem lt_2_3 (a k : Nat) : a + 2 < a + 3 + k := by omega
@[simp, go_sem] theorem lt_2_3' (a k : Nat) : a + 2 < a + 3 + k + 1 := by omega
@[simp, go_sem] theorem lt_0_4 (a k : Nat) : a < a + 4 + k := by omega
@[simp, go_sem] theorem lt_0_4' (a k : Nat) : a < a + 4 + k + 1 := by omega
@[simp, go_sem] theorem lt_1_4 (a k : Nat) : a + 1 < a + 4 + k := by omega
@[simp, go_sem] theorem lt_1_4' (a k : Nat) : a + 1 < a + 4 + k + 1 := by omega
@[simp, go_sem] theorem lt_2_4 (a k : Nat) : a + 2 < a + 4 + k := by omega
@[simp, go_sem] theorem lt_2_4' (a k : Nat) : a + 2 < a + 4 + k + 1 := by omega
@[simp, go_sem] theorem lt_3_4 (a k : Nat) : a + 3 < a + 4 + k := by omega
@[simp, go_sem] theorem lt_3_4' (a k : Nat) : a + 3 < a + 4 + k + 1 := by omega
@[simp, go_sem] theorem lt_0_5 (a k : Nat) : a < a + 5 + k := by omega
@[simp, go_sem] theorem lt_0_5' (a k : Nat) : a < a + 5 + k + 1 := by omega
@[simp, go_sem] theorem lt_1_5 (a k : Nat) : a + 1 < a + 5 + k := by omega
@[simp, go_sem] theorem lt_1_5' (a k : Nat) : a + 1 < a + 5 + k + 1 := by omega
@[simp, go_sem] theorem lt_2_5 (a k : Nat) : a + 2 < a + 5 + k := by omega
@[simp, go_sem] theorem lt_2_5' (a k : Nat) : a + 2 < a + 5 + k + 1 := by omega
@[simp, go_sem] theorem lt_3_5 (a k : Nat) : a + 3 < a + 5 + k := by omega
@[simp, go_sem] theorem lt_3_5' (a k : Nat) : a + 3 < a + 5 + k + 1 := by omega
@[simp, go_sem] theorem lt_4_5 (a k : Nat) : a + 4 < a + 5 + k := by omega
@[simp, go_sem] theorem lt_4_5' (a k : Nat) : a + 4 < a + 5 + k + 1 := by omega
@[simp, go_sem] theorem lt_0_6 (a k : Nat) : a < a + 6 + k := by omega
@[simp, go_sem] theorem lt_0_6' (a k : Nat) : a < a + 6 + k + 1 := by omega
@[simp, go_sem] theorem lt_1_6 (a k : Nat) : a + 1 < a + 6 + k := by omega
@[simp, go_sem] theorem lt_1_6' (a k : Nat) : a + 1 < a + 6 + k + 1 := by omega
@[simp, go_sem] theorem lt_2_6 (a k : Nat) : a + 2 < a + 6 + k := by omega
@[simp, go_sem] theorem lt_2_6' (a k : Nat) : a + 2 < a + 6 + k + 1 := by omega
@[simp, go_sem] theorem lt_3_6 (a k : Nat) : a + 3 < a + 6 + k := by omega
@[simp, go_sem] theorem lt_3_6' (a k : Nat) : a + 3 < a + 6 + k + 1 := by omega
@[simp, go_sem] theorem lt_4_6 (a k : Nat) : a + 4 < a + 6 + k := by omega
@[simp, go_sem] theorem lt_4_6' (a k : Nat) : a + 4 < a + 6 + k + 1 := by omega
@[simp, go_sem] theorem lt_5_6 (a k : Nat) : a + 5 < a + 6 + k := by omega
@[simp, go_sem] theorem lt_5_6' (a k : Nat) : a + 5 < a + 6 + k + 1 := by omega
/-- A contract met in a walk whose world has come out of another call. -/
theorem use1 {P : Program} {f : FuncId} {args : Array Value} {w : World} {p : Regrown} {v : Value} {R : Ending → World → Prop} (h : Calls P f args (after w p) (Gives v (after w p))) (k : ∀ q, R (.returned v) (after w q)) :
    Calls P f args (after w p) R := use h (fun q => by rw [after_after]; exact k _)

/-- A block of one number, of two numbers, not frozen. -/
structure Cell1 (w : World) (b : Nat) (x : Int) : Prop where
  c0 : w.cell? ⟨b, 0, none⟩ = some (.int .u64 x)
  f0 : w.frozen? ⟨b, 0, none⟩ = false
  lt : b < w.heap.size
structure Cell2 (w : World) (b : Nat) (x y : Int) : Prop where
  c0 : w.cell? ⟨b, 0, none⟩ = some (.int .u64 x)
  c1 : w.cell? ⟨b, 1, none⟩ = some (.int .u64 y)
  f0 : w.frozen? ⟨b, 0, none⟩ = false
  f1 : w.frozen? ⟨b, 1, none⟩ = false
  lt : b < w.heap.size
theorem Cell1.later {w : World} {b : Nat} {x : Int} (h : Cell1 w b x) (p : Regrown) : Cell1 (after w p) b x :=
  ⟨by rw [after_cell _ _ _ _ h.lt]; exact h.c0, by rw [after_frozen _ _ _ _ h.lt]; exact h.f0, by rw [after_size]; have := h.lt; omega⟩
theorem Cell2.later {w : World} {b : Nat} {x y : Int} (h : Cell2 w b x y) (p : Regrown) : Cell2 (after w p) b x y :=
  ⟨by rw [after_cell _ _ _ _ h.lt]; exact h.c0, by rw [after_cell _ _ _ _ h.lt]; exact h.c1, by rw [after_frozen _ _ _ _ h.lt]; exact h.f0, by rw [after_frozen _ _ _ _ h.lt]; exact h.f1, by rw [after_size]; have := h.lt; omega⟩
theorem Cell1.other {w : World} {b : Nat} {x : Int} (h : Cell1 w b x) {a : Addr} (hne : a.block ≠ b) (v : Value) : Cell1 (w.setCell a v) b x :=
  ⟨by rw [World.cell?_setCell_other _ _ _ _ (fun e => hne (by rw [e]))]; exact h.c0, by rw [World.frozen?_setCell]; exact h.f0, by rw [World.size_setCell]; exact h.lt⟩
theorem Cell2.other {w : World} {b : Nat} {x y : Int} (h : Cell2 w b x y) {a : Addr} (hne : a.block ≠ b) (v : Value) : Cell2 (w.setCell a v) b x y :=
  ⟨by rw [World.cell?_setCell_other _ _ _ _ (fun e => hne (by rw [e]))]; exact h.c0, by rw [World.cell?_setCell_other _ _ _ _ (fun e => hne (by rw [e]))]; exact h.c1,
    by rw [World.frozen?_setCell]; exact h.f0, by rw [World.frozen?_setCell]; exact h.f1, by rw [World.size_setCell]; exact h.lt⟩
theorem Cell2.put {w : World} {b : Nat} {x y : Int} (h : Cell2 w b x y) (u v : Int) : Cell2 ((w.setCell ⟨b, 0, none⟩ (.int .u64 u)).setCell ⟨b, 1, none⟩ (.int .u64 v)) b u v := by
  have e : (⟨b, 1, none⟩ : Addr) ≠ ⟨b, 0, none⟩ := by intro h; injection h with _ h2 _; exact absurd h2 (by decide)
  refine ⟨?_, ?_, by rw [World.frozen?_setCell, World.frozen?_setCell]; exact h.f0, by rw [World.frozen?_setCell, World.frozen?_setCell]; exact h.f1, by rw [World.size_setCell, World.size_setCell]; exact h.lt⟩
  · rw [World.cell?_setCell_other _ _ _ _ e]; exact World.cell?_setCell_same _ _ _ h.c0
  · refine World.cell?_setCell_same _ _ _ (u := .int .u64 y) ?_
    rw [World.cell?_setCell_other _ _ _ _ (Ne.symm e)]; exact h.c1
theorem Cell1.new (w : World) (x : Int) (t : TypeId) : Cell1 (w.alloc (.cells #[.int .u64 x] t)) w.heap.size x :=
  ⟨by rw [World.cell?_alloc_new]; rfl, World.frozen?_alloc_new .., by rw [World.size_alloc]; omega⟩
theorem Cell2.new (w : World) (x y : Int) (t : TypeId) : Cell2 (w.alloc (.cells #[.int .u64 x, .int .u64 y] t)) w.heap.size x y :=
  ⟨by rw [World.cell?_alloc_new]; rfl, by rw [World.cell?_alloc_new]; rfl, World.frozen?_alloc_new .., World.frozen?_alloc_new .., by rw [World.size_alloc]; omega⟩
theorem Cell1.boxed {w : World} {b : Nat} {x : Int} (h : Cell1 w b x) (o : Obj) : Cell1 (w.alloc o) b x :=
  ⟨by rw [World.cell?_alloc_lt _ _ _ h.lt]; exact h.c0, by rw [World.frozen?_alloc_old _ _ _ (Nat.ne_of_lt h.lt)]; exact h.f0, by rw [World.size_alloc]; have := h.lt; omega⟩
theorem Cell2.boxed {w : World} {b : Nat} {x y : Int} (h : Cell2 w b x y) (o : Obj) : Cell2 (w.alloc o) b x y :=
  ⟨by rw [World.cell?_alloc_lt _ _ _ h.lt]; exact h.c0, by rw [World.cell?_alloc_lt _ _ _ h.lt]; exact h.c1, by rw [World.frozen?_alloc_old _ _ _ (Nat.ne_of_lt h.lt)]; exact h.f0,
    by rw [World.frozen?_alloc_old _ _ _ (Nat.ne_of_lt h.lt)]; exact h.f1, by rw [World.size_alloc]; have := h.lt; omega⟩

/-- A region that draws its order: one walk. -/
theorem region_quiet {id : Nat} {Q : Exit → Act → World → Prop} {a : Act} {w : World} {l : List Oper} (hB : Region.lexB .any l.toArray = true)
    (h : wpQuiet Try.prog l.toArray (fun w' => ∃ p : Regrown, w' = after w p) (fun a' => ∀ p : Regrown, Q .normal a' (after w p)) l a) : (Code.region id l.toArray true).wp Try.prog Q a w := by
  refine wp_region_quiet (C := fun w' => ∃ p : Regrown, w' = after w p) (by kernel_rfl) hB ⟨⟨w.drawn + 1, #[]⟩, (after_start w).symm⟩ ?_
  have hq : (fun a' => ∀ p : Regrown, Q .normal a' (after w p)) = (fun a' => ∀ w', (∃ p : Regrown, w' = after w p) → Q .normal a' w') := by
    funext a'; simp
  rw [hq] at h
  simpa using h
theorem region_quiet1 {id : Nat} {Q : Exit → Act → World → Prop} {a : Act} {w : World} {p : Regrown} {l : List Oper} (hB : Region.lexB .any l.toArray = true)
    (h : wpQuiet Try.prog l.toArray (fun w' => ∃ p : Regrown, w' = after w p) (fun a' => ∀ p : Regrown, Q .normal a' (after w p)) l a) : (Code.region id l.toArray true).wp Try.prog Q a (after w p) := by
  refine wp_region_quiet (C := fun w' => ∃ p : Regrown, w' = after w p) (by kernel_rfl) hB ⟨⟨(after w p).drawn + 1, p.os⟩, ?_⟩ ?_
  · rw [← after_start, after_after]; simp
  have hq : (fun a' => ∀ p : Regrown, Q .normal a' (after w p)) = (fun a' => ∀ w', (∃ p : Regrown, w' = after w p) → Q .normal a' w') := by
    funext a'; simp
  rw [hq] at h
  simpa using h
/-- All but the last; the last. -/
def initOf : List Oper → List Oper
  | [] => []
  | [_] => []
  | a :: b :: l => a :: initOf (b :: l)
def lastOf : List Oper → Oper
  | [] => default
  | [a] => a
  | _ :: b :: l => lastOf (b :: l)
theorem init_last : ∀ (l : List Oper), l ≠ [] → l = initOf l ++ [lastOf l]
  | [], h => absurd rfl h
  | [a], _ => rfl
  | a :: b :: l, _ => by
    have := init_last (b :: l) (by simp)
    simp only [initOf, lastOf, List.cons_append]
    rw [← this]

/-- A region that draws its order, and ends in a store. -/
theorem region_tail {id : Nat} {Q : Exit → Act → World → Prop} {a : Act} {w : World} {l : List Oper} (hl : l.isEmpty = false) (hB : Region.lexB .any (initOf l).toArray = true) (hT : tailB (initOf l) (lastOf l) = true)
    (h : wpQuiet Try.prog (initOf l).toArray (fun w' => ∃ p : Regrown, w' = after w p) (fun a' => ∀ p : Regrown, wpList Try.prog l.toArray Q [lastOf l] a' (after w p)) (initOf l) a) : (Code.region id l.toArray true).wp Try.prog Q a w := by
  refine wp_region_tail (C := fun w' => ∃ p : Regrown, w' = after w p) (initOf l) (lastOf l) (init_last l (by intro h; simp [h] at hl)) (by kernel_rfl) hB hT ⟨⟨w.drawn + 1, #[]⟩, (after_start w).symm⟩ ?_
  have hq : (fun a' => ∀ p : Regrown, wpList Try.prog l.toArray Q [lastOf l] a' (after w p)) = (fun a' => ∀ w', (∃ p : Regrown, w' = after w p) → wpList Try.prog l.toArray Q [lastOf l] a' w') := by
    funext a'; simp
  rw [hq] at h
  exact h
theorem region_tail1 {id : Nat} {Q : Exit → Act → World → Prop} {a : Act} {w : World} {p : Regrown} {l : List Oper} (hl : l.isEmpty = false) (hB : Region.lexB .any (initOf l).toArray = true) (hT : tailB (initOf l) (lastOf l) = true)
    (h : wpQuiet Try.prog (initOf l).toArray (fun w' => ∃ p : Regrown, w' = after w p) (fun a' => ∀ p : Regrown, wpList Try.prog l.toArray Q [lastOf l] a' (after w p)) (initOf l) a) : (Code.region id l.toArray true).wp Try.prog Q a (after w p) := by
  refine wp_region_tail (C := fun w' => ∃ p : Regrown, w' = after w p) (initOf l) (lastOf l) (init_last l (by intro h; simp [h] at hl)) (by kernel_rfl) hB hT ⟨⟨(after w p).drawn + 1, p.os⟩, ?_⟩ ?_
  · rw [← after_start, after_after]; simp
  have hq : (fun a' => ∀ p : Regrown, wpList Try.prog l.toArray Q [lastOf l] a' (after w p)) = (fun a' => ∀ w', (∃ p : Regrown, w' = after w p) → wpList Try.prog l.toArray Q [lastOf l] a' w') := by
    funext a'; simp
  rw [hq] at h
  exact h
/-- A contract met inside such a region. -/
theorem quiet {P : Program} {f : FuncId} {args : Array Value} {w : World} {p : Regrown} {v : Value} (h : Calls P f args (after w p) (Gives v (after w p))) :
    Calls P f args (after w p) fun e w'' => e = .returned v ∧ ∃ q : Regrown, w'' = after w q :=
  h.mono fun _ _ ⟨he, hb⟩ => by
    obtain ⟨q, hq⟩ := after_of hb
    exact ⟨he, ⟨q.d, p.os ++ q.os⟩, by rw [hq, after_after]⟩
theorem quiet0 {P : Program} {f : FuncId} {args : Array Value} {w : World} {p : Regrown} {v : Value} (h : Calls P f args (after w p) fun e w' => e = .returned v ∧ after w p = w') :
    Calls P f args (after w p) fun e w'' => e = .returned v ∧ ∃ q : Regrown, w'' = after w q :=
  h.mono fun _ _ ⟨he, hb⟩ => ⟨he, p, hb.symm⟩
end Go.Proofs.Ytkpkgjniicnkcaa
