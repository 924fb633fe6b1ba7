/- Lists of numbers in memory: what a slice's address holds; how that fares when the world goes on. -/
import Derived.Test.YteodakcebeloeaaPre
import Derived.Test.YteodakcebeloeaaConB
import Derived.Deep.OwnRows
namespace Go.Proofs.Yteodakcebeloeaa
open Go.RowKit Go.Sort

/-- At u there lie these numbers. -/
structure Ls (w : World) (u : Option Addr) (l : List Int) : Prop where
  small : (l.length : Int) ≤ 9223372036854775807
  all : ∀ x ∈ l, U x
  mem : l ≠ [] → ∃ b o, u = some ⟨b, o, none⟩ ∧ b < w.heap.size ∧ ∀ i x, l[i]? = some x → w.cell? ⟨b, o + i, none⟩ = some (.int .u64 x)
theorem Ls.below {w w' : World} {u : Option Addr} {l : List Int} (h : Ls w u l) {B : Nat} (hB : w.heap.size ≤ B) (hb : Below B w w') : Ls w' u l :=
  ⟨h.small, h.all, fun hne => by
    obtain ⟨b, o, hu, hlt, hc⟩ := h.mem hne
    exact ⟨b, o, hu, Nat.lt_of_lt_of_le hlt hb.size, fun i x hx => by rw [hb.cell (p := ⟨b, o + i, none⟩) (Nat.lt_of_lt_of_le hlt hB)]; exact hc i x hx⟩⟩
theorem Ls.later {w : World} {u : Option Addr} {l : List Int} (h : Ls w u l) (p : Regrown) : Ls (after w p) u l := h.below (Nat.le_refl _) (after_below w p)
theorem Ls.box {w : World} {u : Option Addr} {l : List Int} (h : Ls w u l) (o : Obj) : Ls (w.alloc o) u l := h.below (Nat.le_refl _) ((Below.refl _ w).alloc (Nat.le_refl _) o)
theorem Ls.at_ {w : World} {u : Option Addr} {l : List Int} (h : Ls w u l) {k : Nat} (hk : k < l.length) : ∃ b o x, u = some ⟨b, o, none⟩ ∧ l[k]? = some x ∧ b < w.heap.size ∧ w.cell? ⟨b, o + k, none⟩ = some (.int .u64 x) ∧ U x := by
  have hne : l ≠ [] := fun e => by subst e; simp at hk
  obtain ⟨b, o, hu, hlt, hc⟩ := h.mem hne
  have hx : l[k]? = some l[k] := List.getElem?_eq_getElem hk
  exact ⟨b, o, l[k], hu, hx, hlt, hc k _ hx, h.all _ (List.getElem_mem hk)⟩
theorem Ls.get {w : World} {u : Option Addr} {l : List Int} (h : Ls w u l) {n : Nat} (hn : l.length = n) : ∀ k, k < n → ∃ b o x, u = some ⟨b, o, none⟩ ∧ l[k]? = some x ∧ b < w.heap.size ∧ w.cell? ⟨b, o + k, none⟩ = some (.int .u64 x) ∧ U x :=
  fun k hk => h.at_ (by rw [hn]; exact hk)
theorem Ls.nil (w : World) (u : Option Addr) : Ls w u [] := ⟨by simp, by simp, fun h => absurd rfl h⟩
theorem Ls.row {w : World} {b n : Nat} {t : TypeId} {l : List Int} (h : w.rowIs b t n fun i => .int .u64 (l.getD i 0)) (hn : l.length ≤ n) (hs : (l.length : Int) ≤ 9223372036854775807) (hU : ∀ x ∈ l, U x) : Ls w (some ⟨b, 0, none⟩) l :=
  ⟨hs, hU, fun _ => ⟨b, 0, rfl, h.lt, fun i x hx => by
    have hi : i < l.length := (List.getElem?_eq_some_iff.1 hx).1
    rw [Nat.zero_add, h.cell (Nat.lt_of_lt_of_le hi hn)]
    simp [List.getD, hx]⟩⟩
theorem Ls.new (w : World) (t : TypeId) (c : Array Value) (l : List Int) (hc : c = (l.map (fun x => Value.int .u64 x)).toArray) (hs : (l.length : Int) ≤ 9223372036854775807) (hU : ∀ x ∈ l, U x) : Ls (w.alloc (.cells c t)) (some ⟨w.heap.size, 0, none⟩) l := by
  subst hc
  exact ⟨hs, hU, fun _ => ⟨w.heap.size, 0, rfl, by rw [World.size_alloc]; omega, fun i x hx => by
    rw [World.cell?_alloc_new, Nat.zero_add]
    simp [hx]⟩⟩

/-- A contract of a function that makes a list. -/
def GivesL (l : List Int) (w : World) (e : Ending) (w' : World) : Prop :=
  ∃ b p, e = .returned (.slice (some ⟨b, 0, none⟩) l.length l.length) ∧ w' = after w p ∧ Ls w' (some ⟨b, 0, none⟩) l
theorem useL {P : Program} {f : FuncId} {args : Array Value} {w : World} {l : List Int} {R : Ending → World → Prop} (h : Calls P f args w (GivesL l w))
    (k : ∀ p b, Kept (Ls (after w p) (some ⟨b, 0, none⟩) l) → R (.returned (.slice (some ⟨b, 0, none⟩) l.length l.length)) (after w p)) : Calls P f args w R :=
  h.mono fun e w' ⟨b, p, he, hw, hl⟩ => by
    subst he; subst hw
    exact k p b ⟨hl⟩

/-- The same, the length said by itself. -/
def GivesN (n : Nat) (l : List Int) (w : World) (e : Ending) (w' : World) : Prop :=
  ∃ b p, e = .returned (.slice (some ⟨b, 0, none⟩) n n) ∧ w' = after w p ∧ Ls w' (some ⟨b, 0, none⟩) l
theorem givesN {P : Program} {f : FuncId} {args : Array Value} {w : World} {l : List Int} {n : Nat} (hn : l.length = n) (h : Calls P f args w (GivesL l w)) : Calls P f args w (GivesN n l w) := by
  subst hn; exact h
theorem useN {P : Program} {f : FuncId} {args : Array Value} {w : World} {n : Nat} {l : List Int} {R : Ending → World → Prop} (h : Calls P f args w (GivesN n l w))
    (k : ∀ p b, Kept (Ls (after w p) (some ⟨b, 0, none⟩) l) → R (.returned (.slice (some ⟨b, 0, none⟩) n n)) (after w p)) : Calls P f args w R :=
  h.mono fun e w' ⟨b, p, he, hw, hl⟩ => by
    subst he; subst hw
    exact k p b ⟨hl⟩
theorem useN1 {P : Program} {f : FuncId} {args : Array Value} {w : World} {q : Regrown} {n : Nat} {l : List Int} {R : Ending → World → Prop} (h : Calls P f args (after w q) (GivesN n l (after w q)))
    (k : ∀ p b, Kept (Ls (after w p) (some ⟨b, 0, none⟩) l) → R (.returned (.slice (some ⟨b, 0, none⟩) n n)) (after w p)) : Calls P f args (after w q) R :=
  useN h fun p b hl => by rw [after_after] at hl ⊢; exact k _ b hl

/-- A contract met behind others: what they have left is one world again. -/
theorem use2 {P : Program} {f : FuncId} {args : Array Value} {w : World} {p q : Regrown} {v : Value} {R : Ending → World → Prop} (h : Calls P f args (after (after w p) q) (Gives v (after (after w p) q))) (k : ∀ q, R (.returned v) (after w q)) :
    Calls P f args (after (after w p) q) R := use h (fun r => by rw [after_after, after_after]; exact k _)
theorem use3 {P : Program} {f : FuncId} {args : Array Value} {w : World} {p q r : Regrown} {v : Value} {R : Ending → World → Prop} (h : Calls P f args (after (after (after w p) q) r) (Gives v (after (after (after w p) q) r))) (k : ∀ q, R (.returned v) (after w q)) :
    Calls P f args (after (after (after w p) q) r) R := use h (fun s => by rw [after_after, after_after, after_after]; exact k _)

theorem take_next {l : List Int} {k : Nat} {x : Int} (h : l[k]? = some x) : l.take (k + 1) = l.take k ++ [x] := by
  rw [List.take_add_one, h]; rfl

/-! ### two lists are the same -/
theorem same_c (u1 u2 : Option Addr) (c1 c2 : Nat) (l1 l2 : List Int) (w : World) (h1 : Ls w u1 l1) (h2 : Ls w u2 l2) :
    Calls Try.prog 31 #[.slice u1 l1.length c1, .slice u2 l2.length c2] w (Gives (.bool (decide (l1 = l2))) w) := by
  by_cases hlen : l1.length = l2.length
  · have hs := h1.small
    obtain ⟨n, hn⟩ : ∃ n, l1.length = n := ⟨_, rfl⟩
    have hn2 : l2.length = n := by omega
    rw [hn] at hs
    have k1 : Kept (∀ k, k < n → ∃ b o x, u1 = some ⟨b, o, none⟩ ∧ l1[k]? = some x ∧ b < w.heap.size ∧ w.cell? ⟨b, o + k, none⟩ = some (.int .u64 x) ∧ U x) := ⟨h1.get hn⟩
    have k2 : Kept (∀ k, k < n → ∃ b o x, u2 = some ⟨b, o, none⟩ ∧ l2[k]? = some x ∧ b < w.heap.size ∧ w.cell? ⟨b, o + k, none⟩ = some (.int .u64 x) ∧ U x) := ⟨h2.get hn2⟩
    have e1 : Kept (l1.length = n) := ⟨hn⟩
    have e2 : Kept (l2.length = n) := ⟨hn2⟩
    rw [hn, hn2]
    clear hlen h1 h2 hn hn2
    go_enter Try.func31, Try.ntmps31
    go_wp2
    go_loopw [5] (fun v wr => ∃ (k : Nat) (q : Regrown), v = .int .i64 (k : Int) ∧ wr = after w q ∧ k ≤ n ∧ Kept (l1.take k = l2.take k)) (fun v _ => (n : Int).toNat - (intOf v).toNat)
    case atStart => exact ⟨0, ⟨w.drawn, #[]⟩, rfl, by simp [after_eq, Go.Sort.grow_empty]; rfl, by omega, ⟨by simp⟩⟩
    case round =>
      obtain ⟨k, q, rfl, rfl, hk, hI⟩ := hrel
      by_cases h : k < n
      · obtain ⟨b1, o1, x1, rfl, hx1, hb1, hc1, hU1⟩ := k1.out k h
        obtain ⟨b2, o2, x2, rfl, hx2, hb2, hc2, hU2⟩ := k2.out k h
        by_cases hx : x1 = x2
        · have hI2 : Kept (l1.take (k + 1) = l2.take (k + 1)) := ⟨by rw [take_next hx1, take_next hx2, hI.out, hx]⟩
          clear hI hx1 hx2 k1 k2 e1 e2 hU1 hU2
          subst hx
          go_wp2
          first | refine region_quiet1 (by kernel_rfl) ?_ | refine region_quiet (by kernel_rfl) ?_
          repeat (go_big_quiet_step (first | fail))
          refine wpQuiet_nil ?_
          intro _
          go_wp2
          go_roundw
          case rel => exact ⟨k + 1, _, by go_num, rfl, by omega, hI2⟩
          case measure => first | (simp [intOf]; omega) | (simp [intOf]; done)
        · have hno : Kept (decide (l1 = l2) = false) := ⟨by
            rw [decide_eq_false_iff_not]; intro e; rw [e] at hx1; rw [hx1] at hx2; injection hx2 with hx2; exact hx hx2⟩
          have hxb : (x1 != x2) = true := by simp [hx]
          clear hI hx1 hx2 k1 k2 e1 e2 hU1 hU2 hx
          go_wp2
          first | refine region_quiet1 (by kernel_rfl) ?_ | refine region_quiet (by kernel_rfl) ?_
          repeat (go_big_quiet_step (first | fail))
          refine wpQuiet_nil ?_
          intro _
          go_wp2
          go_ret
          exact ⟨by rw [hno.out]; rfl, (by repeat (first | exact Below.refl _ _ | refine Below.later ?_ _ | refine Below.box ?_ _ | refine Below.drew ?_ | refine Below.put ?_ (by dsimp only; omega) _))⟩
      · have hI2 : Kept (decide (l1 = l2) = true) := ⟨by
          have hkn : k = n := by omega
          have := hI.out
          rw [List.take_of_length_le (by have := e1.out; omega), List.take_of_length_le (by have := e2.out; omega)] at this
          simp [this]⟩
        clear hI k1 k2 e1 e2
        go_wp2
        go_ret
        exact ⟨by rw [hI2.out]; rfl, (by repeat (first | exact Below.refl _ _ | refine Below.later ?_ _ | refine Below.box ?_ _ | refine Below.drew ?_ | refine Below.put ?_ (by dsimp only; omega) _))⟩
  · have hno : Kept (decide (l1 = l2) = false) := ⟨by rw [decide_eq_false_iff_not]; intro e; rw [e] at hlen; exact hlen rfl⟩
    have s1 := h1.small
    have s2 := h2.small
    generalize l1.length = n1 at *
    generalize l2.length = n2 at *
    have hb : ((n1 : Int) != (n2 : Int)) = true := by simp; omega
    clear h1 h2
    go_enter Try.func31, Try.ntmps31
    go_wp2
    go_ret
    exact ⟨by rw [hno.out]; rfl, (by repeat (first | exact Below.refl _ _ | refine Below.later ?_ _ | refine Below.box ?_ _ | refine Below.drew ?_ | refine Below.put ?_ (by dsimp only; omega) _))⟩
end Go.Proofs.Yteodakcebeloeaa
