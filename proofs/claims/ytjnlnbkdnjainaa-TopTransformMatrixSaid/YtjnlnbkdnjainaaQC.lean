/- Lemmas of several texts in one file: Law, Lst, Sum, App, Make, Args, Grw, Mat, Mtx. -/
import Derived.Test.YtjnlnbkdnjainaaRows
import Derived.Test.YtjnlnbkdnjainaaQB
import Derived.ProofKit
import Derived.OpenShut
import Derived.Carry
import Derived.Test.YtjnlnbkdnjainaaQA
import Derived.Deep.OwnRows
import Derived.Laws.AppendOwn
import Derived.Laws.AppendOwnNone
import Derived.ChangeSlices
import Derived.Laws.OwnMore
import Derived.Maps.AppendAt
/- From a law's walk to its row: how the arguments are opened, and the last step. -/
namespace Go.Proofs.Ytjnlnbkdnjainaa
open Go.ChangeShapes Go.WideShapes Go.ChangeAt Go.RowKit

set_option maxRecDepth 100000
theorem own : ownKnob Try.prog.godebug = none := by kernel_rfl
theorem laidOut : laidOutB Try.prog = true := by kernel_rfl

section
variable {W : World} {base : Nat} {v : Value}
theorem open_u64 (h : Value.okWide Try.prog W .any base 22 v) : ∃ n, v = .int .u64 n ∧ U n := by
  simp only [Value.okWide, Try.underlying22, Cell.okWide] at h
  cases v <;> simp_all [Cell.ok]
  obtain ⟨rfl, h1, h2⟩ := h
  exact ⟨h1, by simp [IntKind.max, IntKind.signed, IntKind.bits] at h2; omega⟩
theorem open_u8 (h : Value.okWide Try.prog W .any base 5 v) : ∃ n, v = .int .u8 n ∧ 0 ≤ n ∧ n ≤ 255 := by
  simp only [Value.okWide, Try.underlying5, Cell.okWide] at h
  cases v <;> simp_all [Cell.ok]
  obtain ⟨rfl, h1, h2⟩ := h
  exact ⟨h1, by simp [IntKind.max, IntKind.signed, IntKind.bits] at h2; omega⟩
theorem open_int64 (h : Value.okWide Try.prog W .any base 3 v) : ∃ n, v = .int .i64 n ∧ -9223372036854775808 ≤ n ∧ n ≤ 9223372036854775807 := by
  simp only [Value.okWide, Try.underlying3, Cell.okWide] at h
  cases v <;> simp_all [Cell.ok]
  obtain ⟨rfl, h1, h2⟩ := h
  exact ⟨h1, h2⟩
theorem cell_u64 (h : Cell.okWide Try.prog W .any base 22 v) : ∃ n, v = .int .u64 n ∧ U n := open_u64 (by simpa only [Value.okWide, Try.underlying22] using h)
theorem cell_u8 (h : Cell.okWide Try.prog W .any base 5 v) : ∃ n, v = .int .u8 n ∧ 0 ≤ n ∧ n ≤ 255 := open_u8 (by simpa only [Value.okWide, Try.underlying5] using h)

theorem open_pair (h : Value.okWide Try.prog W .any base 23 v) : ∃ a b, v = .agg #[.int .u64 a, .int .u64 b] ∧ U a ∧ U b := by
  simp only [Value.okWide, Try.underlying23] at h
  obtain ⟨cs, rfl, hsz, ts, hts, _, hcell⟩ := h
  rw [show Try.prog.cellsOf 23 = 2 from by kernel_rfl] at hsz
  rw [show Try.prog.cellTypes Try.prog.depth 23 = some [22, 22] from by kernel_rfl] at hts
  obtain rfl : [22, 22] = ts := by injection hts
  have g : ∀ i, i < 2 → ∃ n, cs[i]? = some (.int .u64 n) ∧ U n := by
    intro i hi
    obtain ⟨u, hu, hc⟩ := hcell i cs[i] (by simp)
    have : u = 22 := by
      rcases i with _ | _ | i
      · simpa using hu.symm
      · simpa using hu.symm
      · omega
    subst this
    obtain ⟨n, hn, hU⟩ := cell_u64 hc
    exact ⟨n, by rw [← hn]; simp, hU⟩
  obtain ⟨a, ha, hUa⟩ := g 0 (by omega)
  obtain ⟨b, hb, hUb⟩ := g 1 (by omega)
  refine ⟨a, b, ?_, hUa, hUb⟩
  congr 1
  apply Array.ext_getElem?
  intro i
  rcases i with _ | _ | i
  · simpa using ha
  · simpa using hb
  · rw [Array.getElem?_eq_none (by omega), Array.getElem?_eq_none (by simp)]
theorem open_three (h : Value.okWide Try.prog W .any base 90 v) : ∃ a b c, v = .agg #[.int .u64 a, .int .u64 b, .int .u64 c] ∧ U a ∧ U b ∧ U c := by
  simp only [Value.okWide, Try.underlying90] at h
  obtain ⟨cs, rfl, hsz, ts, hts, _, hcell⟩ := h
  rw [show Try.prog.cellsOf 90 = 3 from by kernel_rfl] at hsz
  rw [show Try.prog.cellTypes Try.prog.depth 90 = some [22, 22, 22] from by kernel_rfl] at hts
  obtain rfl : [22, 22, 22] = ts := by injection hts
  have g : ∀ i, i < 3 → ∃ n, cs[i]? = some (.int .u64 n) ∧ U n := by
    intro i hi
    obtain ⟨u, hu, hc⟩ := hcell i cs[i] (by simp)
    have : u = 22 := by
      rcases i with _ | _ | _ | i
      · simpa using hu.symm
      · simpa using hu.symm
      · simpa using hu.symm
      · omega
    subst this
    obtain ⟨n, hn, hU⟩ := cell_u64 hc
    exact ⟨n, by rw [← hn]; simp, hU⟩
  obtain ⟨a, ha, hUa⟩ := g 0 (by omega)
  obtain ⟨b, hb, hUb⟩ := g 1 (by omega)
  obtain ⟨c, hc, hUc⟩ := g 2 (by omega)
  refine ⟨a, b, c, ?_, hUa, hUb, hUc⟩
  congr 1
  apply Array.ext_getElem?
  intro i
  rcases i with _ | _ | _ | i
  · simpa using ha
  · simpa using hb
  · simpa using hc
  · rw [Array.getElem?_eq_none (by omega), Array.getElem?_eq_none (by simp)]
end

section
variable {H : Type} {enc : TypeId × Value → H}
/-- The arguments read on as they did. -/
theorem args_on {W W' : World} (hb : Below W.heap.size W W') : ∀ (ts : List TypeId) (vs : List Value) (ds : List (DataW H)) (p : List MemPlace), (∀ t ∈ ts, Try.prog.readableRec t = true ∧ t < Try.prog.types.size) →
    DataW.TrodAll enc Try.prog W 0 (fun _ => true) true ts vs ds p → (∀ x ∈ p, x.block < W.heap.size) → DataW.TrodAll enc Try.prog W' 0 (fun b => decide (b < W.heap.size)) true ts vs ds p
  | [], vs, ds, p, _, h, _ => by
    obtain ⟨rfl, rfl, rfl⟩ := trodAll_nil h
    exact trodAll_mk0
  | t :: ts, vs, ds, p, hr, h, hlt => by
    obtain ⟨v, vs', d, ds', p1, p2, rfl, rfl, rfl, h1, h2⟩ := trodAll_cons h
    obtain ⟨r1, r2⟩ := hr t (by simp)
    exact trodAll_cons_mk (Below.trod laidOut r1 r2 h1 hb (fun x hx => hlt x (by simp [hx]))) (args_on hb ts vs' ds' p2 (fun t ht => hr t (by simp [ht])) h2 (fun x hx => hlt x (by simp [hx])))

/-- The last step of a law's row: it returned true, and of what was there nothing has turned. -/
theorem law_post {f : Func} {s : ChangeSpec} {W W' : World} {args : Array Value} {ds gs : List (DataW H)} {before : List MemPlace}
    (hread : ∀ t ∈ f.params.toList, Try.prog.readableRec t = true ∧ t < Try.prog.types.size) (hrt : f.resultTypes = #[4]) (hv : s.vars = [])
    (hW : DataW.Whole enc Try.prog f.params.toList s.vars false W args.toList ds gs before) (hs : s.fn H (ds ++ gs) = { results := [.lit (.bool true)], args := ds, vars := [] })
    (hb : Below W.heap.size W W') : s.post enc Try.prog f false true false false W args (.bool true) W' := by
  have hW' := hW
  obtain ⟨p, q, hA, hV, rfl, hfz, hnd⟩ := hW
  rw [hv] at hV
  obtain ⟨rfl, rfl⟩ := trodVars_none hV
  refine ⟨ds, [], p ++ [], [], p, [], hW', ?_, ?_, ?_, ?_, fun h => by cases h⟩
  · rw [hs, hrt]
    exact trodAll_cons_mk (shut_bool Try.underlying4 _) trodAll_mk0
  · rw [hs]
    exact args_on hb _ _ _ _ hread hA (fun x hx => hW'.lt x (by simp [hx]))
  · rw [hs, hv]; rfl
  · exact World.keptBut_mono (fun x hx => ⟨hx, .inr (.inl (by simpa using hx))⟩) (hb.frame (· ∈ p ++ []))
end
end Go.Proofs.Ytjnlnbkdnjainaa

/- Lists of numbers in memory: what a slice's address holds; how that fares when the world goes on. -/
namespace Go.Proofs.Ytjnlnbkdnjainaa
open Go.RowKit Go.Sort

/-- At u there lie these numbers. -/
structure Ls (w : World) (u : Option Addr) (l : List Int) : Prop where
  small : (l.length : Int) ≤ 9223372036854775807
  all : ∀ x ∈ l, U x
  mem : l ≠ [] → ∃ b o, u = some ⟨b, o, none⟩ ∧ b < w.heap.size ∧ ∀ i x, l[i]? = some x → w.cell? ⟨b, o + i, none⟩ = some (.int .u64 x)
theorem Ls.below {w w' : World} {u : Option Addr} {l : List Int} (h : Ls w u l) {B : Nat} (hB : w.heap.size ≤ B) (hb : Below B w w') : Ls w' u l :=
  ⟨h.small, h.all, fun hne => by
    obtain ⟨b, o, hu, hlt, hc⟩ := h.mem hne
    exact ⟨b, o, hu, Nat.lt_of_lt_of_le hlt hb.size, fun i x hx => by rw [hb.cell (p := ⟨b, o + i, none⟩) (Nat.lt_of_lt_of_le hlt hB)]; exact hc i x hx⟩⟩
theorem Ls.later {w : World} {u : Option Addr} {l : List Int} (h : Ls w u l) (p : Regrown) : Ls (after w p) u l := h.below (Nat.le_refl _) (after_below w p)
theorem Ls.box {w : World} {u : Option Addr} {l : List Int} (h : Ls w u l) (o : Obj) : Ls (w.alloc o) u l := h.below (Nat.le_refl _) ((Below.refl _ w).alloc (Nat.le_refl _) o)
theorem Ls.at_ {w : World} {u : Option Addr} {l : List Int} (h : Ls w u l) {k : Nat} (hk : k < l.length) : ∃ b o x, u = some ⟨b, o, none⟩ ∧ l[k]? = some x ∧ b < w.heap.size ∧ w.cell? ⟨b, o + k, none⟩ = some (.int .u64 x) ∧ U x := by
  have hne : l ≠ [] := fun e => by subst e; simp at hk
  obtain ⟨b, o, hu, hlt, hc⟩ := h.mem hne
  have hx : l[k]? = some l[k] := List.getElem?_eq_getElem hk
  exact ⟨b, o, l[k], hu, hx, hlt, hc k _ hx, h.all _ (List.getElem_mem hk)⟩
theorem Ls.get {w : World} {u : Option Addr} {l : List Int} (h : Ls w u l) {n : Nat} (hn : l.length = n) : ∀ k, k < n → ∃ b o x, u = some ⟨b, o, none⟩ ∧ l[k]? = some x ∧ b < w.heap.size ∧ w.cell? ⟨b, o + k, none⟩ = some (.int .u64 x) ∧ U x :=
  fun k hk => h.at_ (by rw [hn]; exact hk)
theorem Ls.nil (w : World) (u : Option Addr) : Ls w u [] := ⟨by simp, by simp, fun h => absurd rfl h⟩
theorem Ls.row {w : World} {b n : Nat} {t : TypeId} {l : List Int} (h : w.rowIs b t n fun i => .int .u64 (l.getD i 0)) (hn : l.length ≤ n) (hs : (l.length : Int) ≤ 9223372036854775807) (hU : ∀ x ∈ l, U x) : Ls w (some ⟨b, 0, none⟩) l :=
  ⟨hs, hU, fun _ => ⟨b, 0, rfl, h.lt, fun i x hx => by
    have hi : i < l.length := (List.getElem?_eq_some_iff.1 hx).1
    rw [Nat.zero_add, h.cell (Nat.lt_of_lt_of_le hi hn)]
    simp [List.getD, hx]⟩⟩
theorem Ls.new (w : World) (t : TypeId) (c : Array Value) (l : List Int) (hc : c = (l.map (fun x => Value.int .u64 x)).toArray) (hs : (l.length : Int) ≤ 9223372036854775807) (hU : ∀ x ∈ l, U x) : Ls (w.alloc (.cells c t)) (some ⟨w.heap.size, 0, none⟩) l := by
  subst hc
  exact ⟨hs, hU, fun _ => ⟨w.heap.size, 0, rfl, by rw [World.size_alloc]; omega, fun i x hx => by
    rw [World.cell?_alloc_new, Nat.zero_add]
    simp [hx]⟩⟩

/-- A contract of a function that makes a list. -/
def GivesL (l : List Int) (w : World) (e : Ending) (w' : World) : Prop :=
  ∃ b p, e = .returned (.slice (some ⟨b, 0, none⟩) l.length l.length) ∧ w' = after w p ∧ Ls w' (some ⟨b, 0, none⟩) l
theorem useL {P : Program} {f : FuncId} {args : Array Value} {w : World} {l : List Int} {R : Ending → World → Prop} (h : Calls P f args w (GivesL l w))
    (k : ∀ p b, Kept (Ls (after w p) (some ⟨b, 0, none⟩) l) → R (.returned (.slice (some ⟨b, 0, none⟩) l.length l.length)) (after w p)) : Calls P f args w R :=
  h.mono fun e w' ⟨b, p, he, hw, hl⟩ => by
    subst he; subst hw
    exact k p b ⟨hl⟩

/-- The same, the length said by itself. -/
def GivesN (n : Nat) (l : List Int) (w : World) (e : Ending) (w' : World) : Prop :=
  ∃ b p, e = .returned (.slice (some ⟨b, 0, none⟩) n n) ∧ w' = after w p ∧ Ls w' (some ⟨b, 0, none⟩) l
theorem givesN {P : Program} {f : FuncId} {args : Array Value} {w : World} {l : List Int} {n : Nat} (hn : l.length = n) (h : Calls P f args w (GivesL l w)) : Calls P f args w (GivesN n l w) := by
  subst hn; exact h
theorem useN {P : Program} {f : FuncId} {args : Array Value} {w : World} {n : Nat} {l : List Int} {R : Ending → World → Prop} (h : Calls P f args w (GivesN n l w))
    (k : ∀ p b, Kept (Ls (after w p) (some ⟨b, 0, none⟩) l) → R (.returned (.slice (some ⟨b, 0, none⟩) n n)) (after w p)) : Calls P f args w R :=
  h.mono fun e w' ⟨b, p, he, hw, hl⟩ => by
    subst he; subst hw
    exact k p b ⟨hl⟩
theorem useN1 {P : Program} {f : FuncId} {args : Array Value} {w : World} {q : Regrown} {n : Nat} {l : List Int} {R : Ending → World → Prop} (h : Calls P f args (after w q) (GivesN n l (after w q)))
    (k : ∀ p b, Kept (Ls (after w p) (some ⟨b, 0, none⟩) l) → R (.returned (.slice (some ⟨b, 0, none⟩) n n)) (after w p)) : Calls P f args (after w q) R :=
  useN h fun p b hl => by rw [after_after] at hl ⊢; exact k _ b hl

/-- A contract met behind others: what they have left is one world again. -/
theorem use2 {P : Program} {f : FuncId} {args : Array Value} {w : World} {p q : Regrown} {v : Value} {R : Ending → World → Prop} (h : Calls P f args (after (after w p) q) (Gives v (after (after w p) q))) (k : ∀ q, R (.returned v) (after w q)) :
    Calls P f args (after (after w p) q) R := use h (fun r => by rw [after_after, after_after]; exact k _)
theorem use3 {P : Program} {f : FuncId} {args : Array Value} {w : World} {p q r : Regrown} {v : Value} {R : Ending → World → Prop} (h : Calls P f args (after (after (after w p) q) r) (Gives v (after (after (after w p) q) r))) (k : ∀ q, R (.returned v) (after w q)) :
    Calls P f args (after (after (after w p) q) r) R := use h (fun s => by rw [after_after, after_after, after_after]; exact k _)

theorem take_next {l : List Int} {k : Nat} {x : Int} (h : l[k]? = some x) : l.take (k + 1) = l.take k ++ [x] := by
  rw [List.take_add_one, h]; rfl

/-! ### two lists are the same -/
theorem same_c (u1 u2 : Option Addr) (c1 c2 : Nat) (l1 l2 : List Int) (w : World) (h1 : Ls w u1 l1) (h2 : Ls w u2 l2) :
    Calls Try.prog 28 #[.slice u1 l1.length c1, .slice u2 l2.length c2] w (Gives (.bool (decide (l1 = l2))) w) := by
  by_cases hlen : l1.length = l2.length
  · have hs := h1.small
    obtain ⟨n, hn⟩ : ∃ n, l1.length = n := ⟨_, rfl⟩
    have hn2 : l2.length = n := by omega
    rw [hn] at hs
    have k1 : Kept (∀ k, k < n → ∃ b o x, u1 = some ⟨b, o, none⟩ ∧ l1[k]? = some x ∧ b < w.heap.size ∧ w.cell? ⟨b, o + k, none⟩ = some (.int .u64 x) ∧ U x) := ⟨h1.get hn⟩
    have k2 : Kept (∀ k, k < n → ∃ b o x, u2 = some ⟨b, o, none⟩ ∧ l2[k]? = some x ∧ b < w.heap.size ∧ w.cell? ⟨b, o + k, none⟩ = some (.int .u64 x) ∧ U x) := ⟨h2.get hn2⟩
    have e1 : Kept (l1.length = n) := ⟨hn⟩
    have e2 : Kept (l2.length = n) := ⟨hn2⟩
    rw [hn, hn2]
    clear hlen h1 h2 hn hn2
    go_enter Try.func28, Try.ntmps28
    go_wp2
    go_loopw [5] (fun v wr => ∃ (k : Nat) (q : Regrown), v = .int .i64 (k : Int) ∧ wr = after w q ∧ k ≤ n ∧ Kept (l1.take k = l2.take k)) (fun v _ => (n : Int).toNat - (intOf v).toNat)
    case atStart => exact ⟨0, ⟨w.drawn, #[]⟩, rfl, by simp [after_eq, Go.Sort.grow_empty]; rfl, by omega, ⟨by simp⟩⟩
    case round =>
      obtain ⟨k, q, rfl, rfl, hk, hI⟩ := hrel
      by_cases h : k < n
      · obtain ⟨b1, o1, x1, rfl, hx1, hb1, hc1, hU1⟩ := k1.out k h
        obtain ⟨b2, o2, x2, rfl, hx2, hb2, hc2, hU2⟩ := k2.out k h
        by_cases hx : x1 = x2
        · have hI2 : Kept (l1.take (k + 1) = l2.take (k + 1)) := ⟨by rw [take_next hx1, take_next hx2, hI.out, hx]⟩
          clear hI hx1 hx2 k1 k2 e1 e2 hU1 hU2
          subst hx
          go_wp2
          first | refine region_quiet1 (by kernel_rfl) ?_ | refine region_quiet (by kernel_rfl) ?_
          repeat (go_big_quiet_step (first | fail))
          refine wpQuiet_nil ?_
          intro _
          go_wp2
          go_roundw
          case rel => exact ⟨k + 1, _, by go_num, rfl, by omega, hI2⟩
          case measure => first | (simp [intOf]; omega) | (simp [intOf]; done)
        · have hno : Kept (decide (l1 = l2) = false) := ⟨by
            rw [decide_eq_false_iff_not]; intro e; rw [e] at hx1; rw [hx1] at hx2; injection hx2 with hx2; exact hx hx2⟩
          have hxb : (x1 != x2) = true := by simp [hx]
          clear hI hx1 hx2 k1 k2 e1 e2 hU1 hU2 hx
          go_wp2
          first | refine region_quiet1 (by kernel_rfl) ?_ | refine region_quiet (by kernel_rfl) ?_
          repeat (go_big_quiet_step (first | fail))
          refine wpQuiet_nil ?_
          intro _
          go_wp2
          go_ret
          exact ⟨by rw [hno.out]; rfl, (by repeat (first | exact Below.refl _ _ | refine Below.later ?_ _ | refine Below.box ?_ _ | refine Below.drew ?_ | refine Below.put ?_ (by dsimp only; omega) _))⟩
      · have hI2 : Kept (decide (l1 = l2) = true) := ⟨by
          have hkn : k = n := by omega
          have := hI.out
          rw [List.take_of_length_le (by have := e1.out; omega), List.take_of_length_le (by have := e2.out; omega)] at this
          simp [this]⟩
        clear hI k1 k2 e1 e2
        go_wp2
        go_ret
        exact ⟨by rw [hI2.out]; rfl, (by repeat (first | exact Below.refl _ _ | refine Below.later ?_ _ | refine Below.box ?_ _ | refine Below.drew ?_ | refine Below.put ?_ (by dsimp only; omega) _))⟩
  · have hno : Kept (decide (l1 = l2) = false) := ⟨by rw [decide_eq_false_iff_not]; intro e; rw [e] at hlen; exact hlen rfl⟩
    have s1 := h1.small
    have s2 := h2.small
    generalize l1.length = n1 at *
    generalize l2.length = n2 at *
    have hb : ((n1 : Int) != (n2 : Int)) = true := by simp; omega
    clear h1 h2
    go_enter Try.func28, Try.ntmps28
    go_wp2
    go_ret
    exact ⟨by rw [hno.out]; rfl, (by repeat (first | exact Below.refl _ _ | refine Below.later ?_ _ | refine Below.box ?_ _ | refine Below.drew ?_ | refine Below.put ?_ (by dsimp only; omega) _))⟩
end Go.Proofs.Ytjnlnbkdnjainaa

/- The contracts of the lists' functions of the field: Sum, Dot, Inverses, Powers. -/
namespace Go.Proofs.Ytjnlnbkdnjainaa
open Go.RowKit Go.Sort

def lsum (p : Int) (l : List Int) : Int := l.foldl (fun s x => fadd p s x) 0
def ldot (p : Int) (l1 l2 : List Int) : Int := (l1.zip l2).foldl (fun s x => fadd p s (fmul p x.1 x.2)) 0
theorem lsum_next {p : Int} {l : List Int} {k : Nat} {x : Int} (h : l[k]? = some x) : lsum p (l.take (k + 1)) = fadd p (lsum p (l.take k)) x := by
  rw [take_next h, lsum, List.foldl_append]; rfl
theorem ldot_next {p : Int} {l1 l2 : List Int} {k : Nat} {x y : Int} (h1 : l1[k]? = some x) (h2 : l2[k]? = some y) : ldot p (l1.take (k + 1)) (l2.take (k + 1)) = fadd p (ldot p (l1.take k) (l2.take k)) (fmul p x y) := by
  have e : (l1.take (k + 1)).zip (l2.take (k + 1)) = (l1.take k).zip (l2.take k) ++ [(x, y)] := by
    rw [take_next h1, take_next h2, List.zip_append (by
      have a := (List.getElem?_eq_some_iff.1 h1).1
      have b := (List.getElem?_eq_some_iff.1 h2).1
      simp; omega)]; rfl
  unfold ldot
  rw [e, List.foldl_append]; rfl
theorem ldot_end {p : Int} {l1 l2 : List Int} {k : Nat} (h : ¬ (k < l1.length ∧ k < l2.length)) (h1 : k ≤ l1.length) (h2 : k ≤ l2.length) : ldot p (l1.take k) (l2.take k) = ldot p l1 l2 := by
  have : k = l1.length ∨ k = l2.length := by omega
  have e : (l1.take k).zip (l2.take k) = l1.zip l2 := by
    have : (l1.take k).zip (l2.take k) = (l1.zip l2).take k := by simp [List.zip, List.take_zipWith]
    rw [this]
    exact List.take_of_length_le (by simp; omega)
  unfold ldot; rw [e]
theorem lsum_U {p : Int} {l : List Int} : U (lsum p l) := by
  rcases List.eq_nil_or_concat l with h | ⟨l', x, h⟩
  · subst h; exact ⟨Int.le_refl 0, by show (0 : Int) < _; decide⟩
  · subst h; unfold lsum; rw [List.concat_eq_append, List.foldl_append]; exact fadd_U
theorem ldot_U {p : Int} {l1 l2 : List Int} : U (ldot p l1 l2) := by
  unfold ldot
  rcases List.eq_nil_or_concat (l1.zip l2) with h | ⟨l', x, h⟩
  · rw [h]; exact ⟨Int.le_refl 0, by show (0 : Int) < _; decide⟩
  · rw [h, List.concat_eq_append, List.foldl_append]; exact fadd_U

theorem rdot_c (p : Int) (u v : Option Addr) (c d : Nat) (l1 l2 : List Int) (w : World) (h1 : Ls w u l1) (h2 : Ls w v l2) : Calls Try.prog 71 #[.int .u64 p, .slice u l1.length c, .slice v l2.length d] w (Gives (.int .u64 (ldot p l1 l2)) w) := by
  have hs1 := h1.small
  have hs2 := h2.small
  obtain ⟨n, hn⟩ : ∃ n, l1.length = n := ⟨_, rfl⟩
  obtain ⟨m, hm⟩ : ∃ n, l2.length = n := ⟨_, rfl⟩
  have k1 : Kept (∀ k, k < n → ∃ b o x, u = some ⟨b, o, none⟩ ∧ l1[k]? = some x ∧ b < w.heap.size ∧ w.cell? ⟨b, o + k, none⟩ = some (.int .u64 x) ∧ U x) := ⟨h1.get hn⟩
  have k2 : Kept (∀ k, k < m → ∃ b o x, v = some ⟨b, o, none⟩ ∧ l2[k]? = some x ∧ b < w.heap.size ∧ w.cell? ⟨b, o + k, none⟩ = some (.int .u64 x) ∧ U x) := ⟨h2.get hm⟩
  have e1 : Kept (l1.length = n) := ⟨hn⟩
  have e2 : Kept (l2.length = m) := ⟨hm⟩
  rw [hn] at hs1 ⊢
  rw [hm] at hs2 ⊢
  clear h1 h2 hn hm
  go_enter Try.func71, Try.ntmps71
  go_wp2
  go_loopw [7, 8] (fun vs v wr => ∃ (s : Int) (k : Nat) (q : Regrown), vs = .int .u64 s ∧ v = .int .i64 (k : Int) ∧ wr = after w q ∧ k ≤ n ∧ k ≤ m ∧ Kept (ldot p (l1.take k) (l2.take k) = s)) (fun _ v _ => (n : Int).toNat - (intOf v).toNat)
  case atStart => exact ⟨0, 0, ⟨w.drawn, #[]⟩, rfl, rfl, by simp [after_eq, Go.Sort.grow_empty]; rfl, by omega, by omega, ⟨by simp [ldot]⟩⟩
  case round =>
    obtain ⟨s, k, q, rfl, rfl, rfl, hk, hk', hI⟩ := hrel
    by_cases h : k < n
    · by_cases h' : k < m
      · obtain ⟨b1, o1, x1, rfl, hx1, hb1, hc1, hU1⟩ := k1.out k h
        obtain ⟨b2, o2, x2, rfl, hx2, hb2, hc2, hU2⟩ := k2.out k h'
        have hI2 : Kept (ldot p (l1.take (k + 1)) (l2.take (k + 1)) = fadd p s (fmul p x1 x2)) := ⟨by rw [ldot_next hx1 hx2, hI.out]⟩
        have cm : Kept (∀ w, Calls Try.prog 43 #[.int .u64 p, .int .u64 x1, .int .u64 x2] w (Gives (.int .u64 (fmul p x1 x2)) w)) := ⟨fun w => rmul_c p x1 x2 w hU1 hU2⟩
        have ca : Kept (∀ w, Calls Try.prog 72 #[.int .u64 p, .int .u64 s, .int .u64 (fmul p x1 x2)] w (Gives (.int .u64 (fadd p s (fmul p x1 x2))) w)) := ⟨fun w => radd_c p s _ w (hI.out ▸ ldot_U) fmul_U⟩
        clear hI hx1 k1 e1 hU1 hx2 k2 e2 hU2
        generalize fmul p x1 x2 = z at *
        go_wp2_with (first | (go_at_call 43; (first | with_reducible refine use1 (cm.out _) ?_ | with_reducible refine use (cm.out _) ?_); intro pw) | (go_at_call 72; (first | with_reducible refine use1 (ca.out _) ?_ | with_reducible refine use (ca.out _) ?_); intro pw))
        repeat (
          (first | refine region_quiet1 (by kernel_rfl) ?_ | refine region_quiet (by kernel_rfl) ?_)
          repeat (go_big_quiet_step (first | (go_at_call 43; with_reducible exact quiet (cm.out _)) | (go_at_call 72; with_reducible exact quiet (ca.out _))))
          refine wpQuiet_nil ?_
          intro _
          go_wp2_with (first | (go_at_call 43; (first | with_reducible refine use1 (cm.out _) ?_ | with_reducible refine use (cm.out _) ?_); intro pw) | (go_at_call 72; (first | with_reducible refine use1 (ca.out _) ?_ | with_reducible refine use (ca.out _) ?_); intro pw)))
        go_roundw
        case rel => exact ⟨fadd p s z, k + 1, _, rfl, by go_num, rfl, by omega, by omega, hI2⟩
        case measure => first | (simp [intOf]; omega) | (simp [intOf]; done)
      · have hI2 : Kept (ldot p l1 l2 = s) := ⟨by rw [← hI.out, ldot_end (by have := e1.out; have := e2.out; omega) (by have := e1.out; omega) (by have := e2.out; omega)]⟩
        clear hI k1 e1 k2 e2
        go_wp2
        go_ret
        exact ⟨by rw [hI2.out]; rfl, (by repeat (first | exact Below.refl _ _ | refine Below.later ?_ _ | refine Below.box ?_ _ | refine Below.drew ?_ | refine Below.put ?_ (by dsimp only; omega) _))⟩
    · have hI2 : Kept (ldot p l1 l2 = s) := ⟨by rw [← hI.out, ldot_end (by have := e1.out; have := e2.out; omega) (by have := e1.out; omega) (by have := e2.out; omega)]⟩
      clear hI k1 e1 k2 e2
      go_wp2
      go_ret
      exact ⟨by rw [hI2.out]; rfl, (by repeat (first | exact Below.refl _ _ | refine Below.later ?_ _ | refine Below.box ?_ _ | refine Below.drew ?_ | refine Below.put ?_ (by dsimp only; omega) _))⟩
end Go.Proofs.Ytjnlnbkdnjainaa

/- append([]uint64{}, a...): a copy in a block of the call's own. -/
namespace Go.Proofs.Ytjnlnbkdnjainaa
open Go.RowKit Go.Sort

set_option maxRecDepth 100000
theorem after_none (w : World) : after w ⟨w.drawn, #[]⟩ = w := by simp [after_eq, Go.Sort.grow_empty]; rfl
theorem Ls.keep {w w' : World} {u : Option Addr} {l : List Int} {g : Nat} (h : Ls w u l) (hu : ∀ b o s, u = some ⟨b, o, s⟩ → b ≠ g) (hk : ∀ j, j < w.heap.size → j ≠ g → w'.heap[j]? = w.heap[j]?) (hs : w.heap.size ≤ w'.heap.size) : Ls w' u l :=
  ⟨h.small, h.all, fun hne => by
    obtain ⟨b, o, e, hlt, hc⟩ := h.mem hne
    exact ⟨b, o, e, Nat.lt_of_lt_of_le hlt hs, fun i x hx => by rw [World.cell?_of_block (w := w) (a := ⟨b, o + i, none⟩) (hk b hlt (hu b o none e))]; exact hc i x hx⟩⟩

theorem wpList_append_ls {W w : World} {ops : Array Oper} {rest : List Oper} {o : Oper} {a : Act} {Q : Exit → Act → World → Prop} (hgd : o.guard = none) (s x : Operand)
    (ho : o.op = .call { callee := .builtin .append, args := #[s, x], argTypes := #[32, 32] })
    (hW : Below W.heap.size W w) (g : Nat) (hg : W.heap.size ≤ g) (hs : a.eval s = .slice (some ⟨g, 0, none⟩) 0 0) (hrow : w.heap[g]? = some (.cells #[] 22 (0, 0)))
    (u : Option Addr) (l : List Int) (n c : Nat) (hn : l.length = n) (hx : a.eval x = .slice u n c) (hl : Ls w u l) (hc : u = none → c = 0) (hsmall : n ≤ 1048576)
    (h : ∀ b cap w', Below W.heap.size W w' → W.heap.size ≤ b → Ls w' (some ⟨b, 0, none⟩) l → (∀ j, j < w.heap.size → j ≠ g → w'.heap[j]? = w.heap[j]?) → w.heap.size ≤ w'.heap.size →
      wpList Try.prog ops Q rest (a.put o.dst (.slice (some ⟨b, 0, none⟩) n cap)) w') : wpList Try.prog ops Q (o :: rest) a w := by
  obtain ⟨i, hi, hii⟩ := Option.map_eq_some_iff.1 (show (Try.prog.info? 22).map (fun i => (i.zero, i.size, i.bytes)) = some (some (.int .u64 0), 1, 8) from by kernel_rfl)
  simp only [Prod.mk.injEq] at hii
  obtain ⟨hz, hsz, hby⟩ := hii
  have hgl : g < w.heap.size := (Array.getElem?_eq_some_iff.1 hrow).1
  have hown : w.ownsRow W.heap.size 22 1 (.slice (some ⟨g, 0, none⟩) 0 0) 0 [] :=
    ⟨by simp, .inr ⟨g, 0, #[], rfl, hg, hrow, Nat.le_refl _, Nat.zero_le _, by simp, by simp⟩⟩
  cases hu : u with
  | none =>
    have hl0 : l = [] := by
      rcases List.eq_nil_or_concat l with e | ⟨l', y, e⟩
      · exact e
      · obtain ⟨b, o, e2, _⟩ := hl.mem (by subst e; simp)
        rw [hu] at e2; cases e2
    subst hl0
    have hn0 : n = 0 := by simpa using hn.symm
    subst hn0
    rw [hu, hc hu] at hx
    refine wpList_append_own_none hgd s x 32 ho W.heap.size 22 i 1 Try.underlying32 hi _ 0 [] hs hown hx ?_
    exact h g 0 w hW hg (Ls.nil _ _) (fun _ _ _ => rfl) (Nat.le_refl _)
  | some ad =>
    rw [hu] at hx hl
    refine wpList_append_own w hgd s x 32 ho W.heap.size 22 i (.int .u64 0) 1 8 Try.underlying32 hi hz hsz hby rfl (by decide) _ 0 [] hs hown ad n c (l.map (fun z => Value.int .u64 z)) hx (by simp [hn]) ?_ ?_ (by simp only [maxLen]; omega) (by omega) hW.size ?_
    · intro j v hv
      rw [List.getElem?_map] at hv
      cases hlj : l[j]? with
      | none => rw [hlj] at hv; cases hv
      | some z =>
        rw [hlj] at hv; injection hv with hv; subst hv
        obtain ⟨b, o, e, _, hcell⟩ := hl.mem (by intro e; subst e; simp at hlj)
        injection e with e; subst e
        rw [Addr.add_lit]; exact hcell j z hlj
    · intro v hv
      obtain ⟨z, _, e⟩ := List.mem_map.1 hv
      subst e; rfl
    · intro v' w' hown' hgr hiff
      rw [Nat.zero_add, List.nil_append] at hown'
      have hB : Below W.heap.size W w' := Below.grown hW hgr hW.size (fun k hk => by simp [Value.ownBlock] at hk; omega)
      have hkeep : ∀ j, j < w.heap.size → j ≠ g → w'.heap[j]? = w.heap[j]? := fun j hj hjg => hgr.block j hj (by simp [Value.ownBlock]; exact hjg)
      rcases hown'.2 with ⟨e, _⟩ | ⟨b, cap, cur, e, hb, hcur, hcap, hcm, hcs, htake⟩
      · exact absurd (hiff.1 e).1 (by simp)
      · subst e
        refine h b cap w' hB hb ?_ hkeep hgr.size
        refine ⟨by rw [hn]; omega, hl.all, fun _ => ⟨b, 0, rfl, (Array.getElem?_eq_some_iff.1 hcur).1, fun i z hz' => ?_⟩⟩
        have hi' : i < n := by rw [← hn]; exact (List.getElem?_eq_some_iff.1 hz').1
        rw [Nat.zero_add, hown'.cellAt i (by omega), List.getElem?_map, hz']; rfl

/-- The same, behind '[]uint64{}': the source lay there from the start; what was there ahead of the call is as it was. -/
theorem wpList_append_copy {W wa : World} {ops : Array Oper} {rest : List Oper} {o : Oper} {a : Act} {Q : Exit → Act → World → Prop} (hgd : o.guard = none) (s x : Operand)
    (ho : o.op = .call { callee := .builtin .append, args := #[s, x], argTypes := #[32, 32] })
    (g : Nat) (hs : a.eval s = .slice (some ⟨g, 0, none⟩) 0 0) (hg : g = wa.heap.size)
    (u : Option Addr) (l : List Int) (n c : Nat) (hx : a.eval x = .slice u n c) (hl : Kept (Ls W u l ∧ (u = none → c = 0) ∧ l.length = n)) (hW : Below W.heap.size W wa) (hsmall : n ≤ 1048576)
    (h : ∀ q b cap, Kept (Ls (after wa q) (some ⟨b, 0, none⟩) l) → wpList Try.prog ops Q rest (a.put o.dst (.slice (some ⟨b, 0, none⟩) n cap)) (after wa q)) :
    wpList Try.prog ops Q (o :: rest) a (wa.alloc (.cells #[] 22)) := by
  subst hg
  have hb0 : Below wa.heap.size wa (wa.alloc (.cells #[] 22)) := (Below.refl _ wa).alloc (Nat.le_refl _) _
  refine wpList_append_ls (W := wa) hgd s x ho hb0 wa.heap.size (Nat.le_refl _) hs (Go.Deep.blk_alloc_new _ _) u l n c hl.out.2.2 hx ((hl.out.1.below (Nat.le_refl _) hW).box _) hl.out.2.1 hsmall ?_
  intro b cap w' hB _ hlw _ _
  obtain ⟨q, rfl⟩ := after_of hB
  exact h q b cap ⟨hlw⟩

/-- A place where a walk stands still. -/
structure Stop (p : Prop) : Prop where
  out : p
end Go.Proofs.Ytjnlnbkdnjainaa

/- The contracts of the functions that make lists: Dot (it reads), Inverses, Powers. -/
namespace Go.Proofs.Ytjnlnbkdnjainaa
open Go.RowKit Go.Sort

theorem dot_c (p : Int) (u v : Option Addr) (c d : Nat) (l1 l2 : List Int) (w : World) (h1 : Ls w u l1) (h2 : Ls w v l2) : Calls Try.prog 67 #[.agg #[.int .u64 p], .slice u l1.length c, .slice v l2.length d] w (Gives (.int .u64 (ldot p l1 l2)) w) := by
  have hs1 := h1.small
  have hs2 := h2.small
  obtain ⟨n, hn⟩ : ∃ n, l1.length = n := ⟨_, rfl⟩
  obtain ⟨m, hm⟩ : ∃ n, l2.length = n := ⟨_, rfl⟩
  have k1 : Kept (∀ k, k < n → ∃ b o x, u = some ⟨b, o, none⟩ ∧ l1[k]? = some x ∧ b < w.heap.size ∧ w.cell? ⟨b, o + k, none⟩ = some (.int .u64 x) ∧ U x) := ⟨h1.get hn⟩
  have k2 : Kept (∀ k, k < m → ∃ b o x, v = some ⟨b, o, none⟩ ∧ l2[k]? = some x ∧ b < w.heap.size ∧ w.cell? ⟨b, o + k, none⟩ = some (.int .u64 x) ∧ U x) := ⟨h2.get hm⟩
  have e1 : Kept (l1.length = n) := ⟨hn⟩
  have e2 : Kept (l2.length = m) := ⟨hm⟩
  rw [hn] at hs1 ⊢
  rw [hm] at hs2 ⊢
  clear h1 h2 hn hm
  cases hv : vld p
  · have hz : Kept (ldot p l1 l2 = 0) := ⟨by
      unfold ldot
      rcases List.eq_nil_or_concat (l1.zip l2) with h | ⟨l', x, h⟩
      · rw [h]; rfl
      · rw [h, List.concat_eq_append, List.foldl_append]; simp [fadd, hv]⟩
    clear k1 e1 k2 e2
    go_enter Try.func67, Try.ntmps67
    go_wp2_with (first | (go_at_call 50; (first | with_reducible refine use1 (valid_c _ _) ?_ | with_reducible refine use (valid_c _ _) ?_); intro pw))
    repeat (
      (first | refine region_quiet1 (by kernel_rfl) ?_ | refine region_quiet (by kernel_rfl) ?_)
      repeat (go_big_quiet_step (first | (go_at_call 50; with_reducible exact quiet (valid_c _ _))))
      refine wpQuiet_nil ?_
      intro _
      go_wp2_with (first | (go_at_call 50; (first | with_reducible refine use1 (valid_c _ _) ?_ | with_reducible refine use (valid_c _ _) ?_); intro pw)))
    go_ret
    exact ⟨by rw [hz.out]; rfl, (by repeat (first | exact Below.refl _ _ | refine Below.later ?_ _ | refine Below.box ?_ _ | refine Below.drew ?_ | refine Below.put ?_ (by dsimp only; omega) _))⟩
  · have hp := vld_pos hv
    have hv' : Kept (vld p = true) := ⟨hv⟩
    obtain ⟨r, hr⟩ : ∃ r, min n m = r := ⟨_, rfl⟩
    have hr1 : r ≤ n := by omega
    have hr2 : r ≤ m := by omega
    have hr3 : Kept (∀ k, ¬ k < r → ¬ (k < n ∧ k < m)) := ⟨fun k hk => by omega⟩
    have hmin : min (n : Int) (m : Int) = (r : Int) := by omega
    have hif : Kept ((if (m : Int) < (n : Int) then (m : Int) else (n : Int)) = (r : Int)) := ⟨by split <;> omega⟩
    have hif2 : Kept ((if (n : Int) < (m : Int) then (n : Int) else (m : Int)) = (r : Int)) := ⟨by split <;> omega⟩
    have hif3 : Kept ((if (n : Int) ≤ (m : Int) then (n : Int) else (m : Int)) = (r : Int)) := ⟨by split <;> omega⟩
    clear hr
    go_enter Try.func67, Try.ntmps67
    go_wp2_with (go_at_call 50; (first | with_reducible refine use1 (valid_c _ _) ?_ | with_reducible refine use (valid_c _ _) ?_); intro pw)
    go_loopw [7, 17] (fun vs v wr => ∃ (s : Int) (k : Nat) (q : Regrown), vs = .int .u64 s ∧ v = .int .i64 (k : Int) ∧ wr = after (w.alloc (.cells #[.int .u64 p] 27)) q ∧ k ≤ r ∧ 0 ≤ s ∧ s < p ∧ Kept (ldot p (l1.take k) (l2.take k) = s)) (fun _ v _ => (r : Int).toNat - (intOf v).toNat)
    case atStart => exact ⟨0, 0, _, rfl, rfl, rfl, by omega, by omega, by omega, ⟨by simp [ldot]⟩⟩
    case round =>
      obtain ⟨s, k, q, rfl, rfl, rfl, hk, hs0, hs1, hI⟩ := hrel
      by_cases h : k < r
      · obtain ⟨b1, o1, x1, rfl, hx1, hb1, hc1, hU1⟩ := k1.out k (by omega)
        obtain ⟨b2, o2, x2, rfl, hx2, hb2, hc2, hU2⟩ := k2.out k (by omega)
        have g0 := emod_nonneg_pos x1 (p := p) (by omega)
        have g1 := emod_lt_pos x1 (p := p) (by omega)
        have f0 := emod_nonneg_pos x2 (p := p) (by omega)
        have f1 := emod_lt_pos x2 (p := p) (by omega)
        have hm0 := emod_nonneg_pos (x1 * x2) (p := p) (by omega)
        have hm1 := emod_lt_pos (x1 * x2) (p := p) (by omega)
        have ht0 := emod_nonneg_pos (s + x1 * x2) (p := p) (by omega)
        have ht1 := emod_lt_pos (s + x1 * x2) (p := p) (by omega)
        have hI2 : Kept (ldot p (l1.take (k + 1)) (l2.take (k + 1)) = (s + x1 * x2) % p) := ⟨by rw [ldot_next hx1 hx2, hI.out, fadd, fmul, if_pos hv'.out, if_pos hv'.out, em_add_r]⟩
        have cr : Kept (∀ w, Calls Try.prog 51 #[.agg #[.int .u64 p], .int .u64 x1] w (Gives (.int .u64 (x1 % p)) w)) := ⟨fun w => reduced_c p x1 w (by omega) hU1.1⟩
        have cr2 : Kept (∀ w, Calls Try.prog 51 #[.agg #[.int .u64 p], .int .u64 x2] w (Gives (.int .u64 (x2 % p)) w)) := ⟨fun w => reduced_c p x2 w (by omega) hU2.1⟩
        have cm : Kept (∀ w, Calls Try.prog 52 #[.agg #[.int .u64 p], .int .u64 (x1 % p), .int .u64 (x2 % p)] w (Gives (.int .u64 ((x1 * x2) % p)) w)) := ⟨fun w => by
          have := mul_c0 p (x1 % p) (x2 % p) w (by omega) g0 g1 f0 f1; rw [em_mul_l, em_mul_r] at this; exact this⟩
        have ca : Kept (∀ w, Calls Try.prog 77 #[.agg #[.int .u64 p], .int .u64 s, .int .u64 ((x1 * x2) % p)] w (Gives (.int .u64 ((s + x1 * x2) % p)) w)) := ⟨fun w => by
          have := add_c0 p s _ w (by omega) hs0 hs1 hm0 hm1; rw [em_add_r] at this; exact this⟩
        have hlt1 : b1 < w.heap.size + 1 := by omega
        have hlt2 : b2 < w.heap.size + 1 := by omega
        have hd1 : (w.alloc (.cells #[.int .u64 p] 27)).cell? ⟨b1, o1 + k, none⟩ = some (.int .u64 x1) := by rw [World.cell?_alloc_lt _ _ _ hb1]; exact hc1
        have hd2 : (w.alloc (.cells #[.int .u64 p] 27)).cell? ⟨b2, o2 + k, none⟩ = some (.int .u64 x2) := by rw [World.cell?_alloc_lt _ _ _ hb2]; exact hc2
        clear hI hx1 hx2 k1 k2 e1 e2 hU1 hU2 hc1 hc2
        generalize (s + x1 * x2) % p = t at *
        generalize (x1 * x2) % p = z at *
        generalize x1 % p = y1 at *
        generalize x2 % p = y2 at *
        go_wp2_with (first | (go_at_call 51; (first | with_reducible refine use1 (cr.out _) ?_ | with_reducible refine use (cr.out _) ?_); intro pw) | (go_at_call 51; (first | with_reducible refine use1 (cr2.out _) ?_ | with_reducible refine use (cr2.out _) ?_); intro pw) | (go_at_call 52; (first | with_reducible refine use1 (cm.out _) ?_ | with_reducible refine use (cm.out _) ?_); intro pw) | (go_at_call 77; (first | with_reducible refine use1 (ca.out _) ?_ | with_reducible refine use (ca.out _) ?_); intro pw))
        repeat (
          (first | refine region_quiet1 (by kernel_rfl) ?_ | refine region_quiet (by kernel_rfl) ?_)
          repeat (go_big_quiet_step (first | (go_at_call 51; with_reducible exact quiet (cr.out _)) | (go_at_call 51; with_reducible exact quiet (cr2.out _)) | (go_at_call 52; with_reducible exact quiet (cm.out _)) | (go_at_call 77; with_reducible exact quiet (ca.out _))))
          refine wpQuiet_nil ?_
          intro _
          go_wp2_with (first | (go_at_call 51; (first | with_reducible refine use1 (cr.out _) ?_ | with_reducible refine use (cr.out _) ?_); intro pw) | (go_at_call 51; (first | with_reducible refine use1 (cr2.out _) ?_ | with_reducible refine use (cr2.out _) ?_); intro pw) | (go_at_call 52; (first | with_reducible refine use1 (cm.out _) ?_ | with_reducible refine use (cm.out _) ?_); intro pw) | (go_at_call 77; (first | with_reducible refine use1 (ca.out _) ?_ | with_reducible refine use (ca.out _) ?_); intro pw)))
        go_roundw
        case rel => exact ⟨t, k + 1, _, rfl, by go_num, rfl, by omega, ht0, ht1, hI2⟩
        case measure => first | (simp [intOf]; omega) | (simp [intOf]; done)
      · have hI2 : Kept (ldot p l1 l2 = s) := ⟨by
          have := hr3.out k h
          rw [← hI.out, ldot_end (by have := e1.out; have := e2.out; omega) (by have := e1.out; omega) (by have := e2.out; omega)]⟩
        clear hI k1 e1 k2 e2
        go_wp2
        go_ret
        exact ⟨by rw [hI2.out]; rfl, (by repeat (first | exact Below.refl _ _ | refine Below.later ?_ _ | refine Below.box ?_ _ | refine Below.drew ?_ | refine Below.put ?_ (by dsimp only; omega) _))⟩

/-! ### a list that the call itself writes -/
/-- Block b is a row of n numbers that the call has made; of what was there nothing has turned. -/
structure Row (w wr : World) (b n : Nat) (f : Nat → Int) : Prop where
  below : Below w.heap.size w wr
  row : wr.rowIs b 22 n (fun i => .int .u64 (f i))
  ge : w.heap.size ≤ b
theorem Row.later {w wr : World} {b n : Nat} {f : Nat → Int} (h : Row w wr b n f) (p : Regrown) : Row w (after wr p) b n f :=
  ⟨Below.later h.below p, h.row.of_block ((after_below wr p).block b h.row.lt), h.ge⟩
theorem Row.put {w wr : World} {b n : Nat} {f : Nat → Int} (h : Row w wr b n f) (k : Nat) (v : Int) : Row w (wr.setCell ⟨b, k, none⟩ (.int .u64 v)) b n (fun i => if i = k then v else f i) :=
  ⟨Below.put h.below h.ge _, (h.row.set k (.int .u64 v)).congr (fun i _ => by by_cases e : i = k <;> simp [e]), h.ge⟩
theorem Row.congr {w wr : World} {b n : Nat} {f g : Nat → Int} (h : Row w wr b n f) (e : ∀ i, i < n → f i = g i) : Row w wr b n g :=
  ⟨h.below, h.row.congr (fun i hi => by rw [e i hi]), h.ge⟩
theorem Row.list {w wr : World} {b n : Nat} {f : Nat → Int} (h : Row w wr b n f) (l : List Int) (hn : l.length = n) (e : ∀ i x, l[i]? = some x → f i = x) (hs : (n : Int) ≤ 9223372036854775807) (hU : ∀ x ∈ l, U x) :
    GivesL l w (.returned (.slice (some ⟨b, 0, none⟩) n n)) wr := by
  obtain ⟨p, hp⟩ := after_of h.below
  refine ⟨b, p, by rw [hn], hp, Ls.row (t := 22) (n := n) (h.row.congr fun i hi => ?_) (by omega) (by rw [hn]; exact hs) hU⟩
  have hx : l[i]? = some l[i] := List.getElem?_eq_getElem (by omega)
  rw [e i _ hx]; simp [List.getD, hx]

/-! ### the powers of a number -/
theorem powers_none (p a n : Int) (w : World) (h : vld p = false ∨ n < 0 ∨ 65536 < n) : Calls Try.prog 64 #[.agg #[.int .u64 p], .int .u64 a, .int .i64 n] w (Gives (.slice none 0 0) w) := by
  cases hv : vld p
  · clear h
    go_enter Try.func64, Try.ntmps64
    go_wp2_with (first | (go_at_call 50; (first | with_reducible refine use1 (valid_c _ _) ?_ | with_reducible refine use (valid_c _ _) ?_); intro pw))
    repeat (
      (first | refine region_quiet1 (by kernel_rfl) ?_ | refine region_quiet (by kernel_rfl) ?_)
      repeat (go_big_quiet_step (first | (go_at_call 50; with_reducible exact quiet (valid_c _ _))))
      refine wpQuiet_nil ?_
      intro _
      go_wp2_with (first | (go_at_call 50; (first | with_reducible refine use1 (valid_c _ _) ?_ | with_reducible refine use (valid_c _ _) ?_); intro pw)))
    go_ret
    exact ⟨rfl, (by repeat (first | exact Below.refl _ _ | refine Below.later ?_ _ | refine Below.box ?_ _ | refine Below.drew ?_ | refine Below.put ?_ (by dsimp only; omega) _))⟩
  · by_cases h1 : n < 0
    · clear h
      go_enter Try.func64, Try.ntmps64
      go_wp2_with (first | (go_at_call 50; (first | with_reducible refine use1 (valid_c _ _) ?_ | with_reducible refine use (valid_c _ _) ?_); intro pw))
      repeat (
        (first | refine region_quiet1 (by kernel_rfl) ?_ | refine region_quiet (by kernel_rfl) ?_)
        repeat (go_big_quiet_step (first | (go_at_call 50; with_reducible exact quiet (valid_c _ _))))
        refine wpQuiet_nil ?_
        intro _
        go_wp2_with (first | (go_at_call 50; (first | with_reducible refine use1 (valid_c _ _) ?_ | with_reducible refine use (valid_c _ _) ?_); intro pw)))
      go_ret
      exact ⟨rfl, (by repeat (first | exact Below.refl _ _ | refine Below.later ?_ _ | refine Below.box ?_ _ | refine Below.drew ?_ | refine Below.put ?_ (by dsimp only; omega) _))⟩
    · have h2 : 65536 < n := by rcases h with h | h | h
                                · rw [hv] at h; cases h
                                · exact absurd h h1
                                · exact h
      clear h
      go_enter Try.func64, Try.ntmps64
      go_wp2_with (first | (go_at_call 50; (first | with_reducible refine use1 (valid_c _ _) ?_ | with_reducible refine use (valid_c _ _) ?_); intro pw))
      repeat (
        (first | refine region_quiet1 (by kernel_rfl) ?_ | refine region_quiet (by kernel_rfl) ?_)
        repeat (go_big_quiet_step (first | (go_at_call 50; with_reducible exact quiet (valid_c _ _))))
        refine wpQuiet_nil ?_
        intro _
        go_wp2_with (first | (go_at_call 50; (first | with_reducible refine use1 (valid_c _ _) ?_ | with_reducible refine use (valid_c _ _) ?_); intro pw)))
      go_ret
      exact ⟨rfl, (by repeat (first | exact Below.refl _ _ | refine Below.later ?_ _ | refine Below.box ?_ _ | refine Below.drew ?_ | refine Below.put ?_ (by dsimp only; omega) _))⟩

def powL (p a : Int) (n : Nat) : List Int := (List.range n).map (fun i => a ^ i % p)
theorem powers_c (p a : Int) (n : Nat) (w : World) (ha : U a) (hv : vld p = true) (hlen : n ≤ 65536) : Calls Try.prog 64 #[.agg #[.int .u64 p], .int .u64 a, .int .i64 (n : Int)] w (GivesL (powL p a n) w) := by
  have hp := vld_pos hv
  have hmk := run_make_row' (P := Try.prog) 32 22 (.int .u64 0) 8 Try.underlying32 (by kernel_rfl) rfl .i64 .i64 n (by omega) (by omega)
  have a0 := emod_nonneg_pos a (p := p) (by omega)
  have a1 := emod_lt_pos a (p := p) (by omega)
  have cr : Kept (∀ w, Calls Try.prog 51 #[.agg #[.int .u64 p], .int .u64 a] w (Gives (.int .u64 (a % p)) w)) := ⟨fun w => reduced_c p a w (by omega) ha.1⟩
  obtain ⟨r, hr0⟩ : ∃ r, a % p = r := ⟨_, rfl⟩
  rw [hr0] at cr a0 a1
  have hpow : Kept (∀ i : Nat, a ^ i % p = r ^ i % p) := ⟨fun i => by rw [← hr0, em_pow]⟩
  have hUp : Kept (∀ x ∈ powL p a n, U x) := ⟨fun x hx => by
    obtain ⟨i, _, e⟩ := List.mem_map.1 hx
    have := emod_nonneg_pos (a ^ i) (p := p) (by omega)
    have := emod_lt_pos (a ^ i) (p := p) (by omega)
    exact ⟨by omega, by omega⟩⟩
  clear hr0 ha
  go_enter Try.func64, Try.ntmps64
  go_wp2_with (first | (go_at_call 50; (first | with_reducible refine use1 (valid_c _ _) ?_ | with_reducible refine use (valid_c _ _) ?_); intro pw) | (go_at_call 51; (first | with_reducible refine use1 (cr.out _) ?_ | with_reducible refine use (cr.out _) ?_); intro pw))
  have hrow0 : Row w ((after (w.alloc (.cells #[.int .u64 p] 27)) pw).alloc (.cells (madeCells #[.int .u64 0] n) 22)) (w.heap.size + 1 + pw.os.size) n (fun _ => 0) :=
    ⟨(by repeat (first | exact Below.refl _ _ | refine Below.later ?_ _ | refine Below.box ?_ _ | refine Below.drew ?_ | refine Below.put ?_ (by dsimp only; omega) _)), by have := World.rowIs_made (after (w.alloc (.cells #[.int .u64 p] 27)) pw) (.int .u64 0) n 22; simpa using this, by omega⟩
  have hbox0 : Cell1 ((after (w.alloc (.cells #[.int .u64 p] 27)) pw).alloc (.cells (madeCells #[.int .u64 0] n) 22)) w.heap.size p := ((Cell1.new w p _).later pw).boxed _
  obtain ⟨B, hB⟩ : ∃ B, w.heap.size + 1 + pw.os.size = B := ⟨_, rfl⟩
  have hBge : w.heap.size + 1 ≤ B := by omega
  rw [hB] at hrow0 ⊢
  generalize (after (w.alloc (.cells #[.int .u64 p] 27)) pw).alloc (.cells (madeCells #[.int .u64 0] n) 22) = w0 at hrow0 hbox0 ⊢
  clear hB
  go_loopw [8, 28] (fun vs v wr => ∃ (s : Int) (k : Nat) (f : Nat → Int), vs = .int .u64 s ∧ v = .int .i64 (k : Int) ∧ k ≤ n ∧ 0 ≤ s ∧ s < p ∧ Row w wr B n f ∧ Cell1 wr w.heap.size p ∧ Kept (s = r ^ k % p) ∧ Kept (∀ i, i < k → f i = r ^ i % p)) (fun _ v _ => (n : Int).toNat - (intOf v).toNat)
  case atStart => exact ⟨1, 0, _, rfl, rfl, by omega, by omega, by omega, hrow0, hbox0, ⟨by rw [Int.pow_zero, Int.emod_eq_of_lt (by omega) (by omega)]⟩, ⟨fun i hi => absurd hi (by omega)⟩⟩
  case round =>
    obtain ⟨s, k, f, rfl, rfl, hk, hs0, hs1, hr, hbx, hs, hI⟩ := hrel
    clear hrow0 hbox0
    by_cases h : k < n
    · have hI2 : Kept (∀ i, i < k + 1 → (if i = k then s else f i) = r ^ i % p) := ⟨fun i hi => by
        by_cases e : i = k
        · subst e; rw [if_pos rfl]; exact hs.out
        · rw [if_neg e]; exact hI.out i (by omega)⟩
      have hs2 : Kept ((s * r) % p = r ^ (k + 1) % p) := ⟨by rw [hs.out, em_mul_l, Int.pow_succ]⟩
      have hm0 := emod_nonneg_pos (s * r) (p := p) (by omega)
      have hm1 := emod_lt_pos (s * r) (p := p) (by omega)
      have cm : Kept (∀ w, Calls Try.prog 52 #[.agg #[.int .u64 p], .int .u64 s, .int .u64 r] w (Gives (.int .u64 ((s * r) % p)) w)) := ⟨fun w => mul_c0 p s r w (by omega) hs0 hs1 a0 a1⟩
      have hbc := hbx.c0
      have hbl := hbx.lt
      have hoc := hr.row.cell h
      have hof := hr.row.frozen k
      have hol := hr.row.lt
      have hne : ¬ (w.heap.size = B) := by omega
      have hbc2 : (wr.setCell ⟨B, k, none⟩ (.int .u64 s)).cell? ⟨w.heap.size, 0, none⟩ = some (.int .u64 p) := (hbx.other (a := ⟨B, k, none⟩) (by dsimp only; omega) _).c0
      have hr' : Kept (Row w wr B n f) := ⟨hr⟩
      have hbx' : Kept (Cell1 wr w.heap.size p) := ⟨hbx⟩
      clear hI hs hr hbx cr hpow hUp
      generalize (s * r) % p = y at *
      go_wp2_with (first | (go_at_call 52; (first | with_reducible refine use1 (cm.out _) ?_ | with_reducible refine use (cm.out _) ?_); intro pw))
      repeat (
        (first | refine region_quiet1 (by kernel_rfl) ?_ | refine region_quiet (by kernel_rfl) ?_)
        repeat (go_big_quiet_step (first | (go_at_call 52; with_reducible exact quiet (cm.out _))))
        refine wpQuiet_nil ?_
        intro _
        go_wp2_with (first | (go_at_call 52; (first | with_reducible refine use1 (cm.out _) ?_ | with_reducible refine use (cm.out _) ?_); intro pw)))
      go_roundw
      case rel => exact ⟨y, k + 1, _, rfl, by go_num, by omega, hm0, hm1, ((hr'.out.put k s).later _), (hbx'.out.other (by dsimp only; omega) _).later _, hs2, hI2⟩
      case measure => first | (simp [intOf]; omega) | (simp [intOf]; done)
    · have hkn : k = n := by omega
      subst hkn
      have hr' : Kept (Row w wr B k f) := ⟨hr⟩
      clear hr hbx cr
      go_wp2
      go_ret
      exact hr'.out.list _ (by simp [powL]) (fun i x hx => by
        unfold powL at hx
        rw [List.getElem?_map] at hx
        have hi : i < k := by
          by_cases hi : i < k
          · exact hi
          · rw [List.getElem?_eq_none (by simp; omega)] at hx; cases hx
        rw [List.getElem?_range hi] at hx
        injection hx with hx
        rw [hI.out i hi, ← hpow.out i]; exact hx) (by omega) hUp.out
end Go.Proofs.Ytjnlnbkdnjainaa

/- A list among a law's arguments, opened. -/
namespace Go.Proofs.Ytjnlnbkdnjainaa
open Go.ChangeShapes Go.WideShapes Go.ChangeAt Go.RowKit

set_option maxRecDepth 100000
section
variable {H : Type} {enc : TypeId × Value → H} {W : World} {v : Value}
theorem open_list {d : DataW H} {p : List MemPlace} {base : Nat} (hv : Value.okWide Try.prog W .any base 32 v) (h : DataW.Trod enc Try.prog W 0 (fun _ => true) true 32 v d p) :
    ∃ u l c, v = .slice u l.length c ∧ Ls W u l ∧ (u = none → c = 0) := by
  obtain ⟨fuel, h⟩ := h
  have hag : ∀ cs, v ≠ .agg cs := by
    intro cs e
    subst e
    simp [Value.okWide, Try.underlying32, Cell.okWide, Cell.ok] at hv
  have hcells : ∀ s a n c, v.cells.toList = [.slice s n c] → s = a → v = .slice a n c := by
    intro s a n c hc e
    subst e
    cases v <;> simp_all [Value.cells]
  rcases open_ints (k := .u64) Try.underlying32 Try.underlying22 (by kernel_rfl) h with ⟨hc, _⟩ | ⟨a, len, cap, zs, hc, _, hlen, hcap, hzs, _, hcell, hwf⟩
  · exact ⟨none, [], 0, hcells _ _ _ _ hc rfl, Ls.nil _ _, fun _ => rfl⟩
  · have hl : (zs.take len).length = len := by simp [hzs]; omega
    refine ⟨some a, zs.take len, cap, ?_, ⟨?_, ?_, ?_⟩, fun e => by cases e⟩
    · rw [hl]; exact hcells _ _ _ _ hc rfl
    · rw [hl]; simp only [maxLen] at hcap; omega
    · intro x hx
      have := hwf x (List.mem_of_mem_take hx)
      simp [Lit.wf, IntKind.max, IntKind.min, IntKind.signed, IntKind.bits] at this
      exact ⟨this.1, by omega⟩
    · intro hne
      have h0 : 0 < len := by
        rcases Nat.eq_zero_or_pos len with e | e
        · subst e; simp at hne
        · exact e
      have hz : zs.length = cap := by simpa using hzs
      have hc0 := hcell 0 (by omega)
      rw [Addr.add, if_pos rfl] at hc0
      have hsp : a.spot = none := by
        cases hs : a.spot with
        | none => rfl
        | some q =>
          exfalso
          unfold World.cell? at hc0
          split at hc0
          · simp [hs] at hc0
          · cases hc0
      refine ⟨a.block, a.off, by cases a; simp_all, World.block_lt_of_cell? W a hc0, ?_⟩
      intro i x hx
      have hi : i < len := by
        have := (List.getElem?_eq_some_iff.1 hx).1
        rw [hl] at this; exact this
      have hci := hcell i (by omega)
      rw [List.getElem?_take, if_pos hi] at hx
      rw [List.getD, hx] at hci
      have ea : a.add i = ⟨a.block, a.off + i, none⟩ := by
        cases a; simp only at hsp; subst hsp; exact Addr.add_lit _ _ _
      rw [ea] at hci
      exact hci
end
end Go.Proofs.Ytjnlnbkdnjainaa

/- Rows that the call makes longer by append, one element at a time. -/
namespace Go.Proofs.Ytjnlnbkdnjainaa
open Go.RowKit Go.Sort

set_option maxRecDepth 100000
/-- v is a row of the call's own (all its blocks lie behind W), of n one-cell elements xs; nothing of W has turned. -/
structure Grown (e : TypeId) (W w : World) (v : Value) (n : Nat) (xs : List Value) : Prop where
  below : Below W.heap.size W w
  own : w.ownsRow W.heap.size e 1 v n xs
theorem Grown.keep {e : TypeId} {W w w' : World} {v : Value} {n : Nat} {xs : List Value} (h : Grown e W w v n xs) (hb : Below w.heap.size w w') : Grown e W w' v n xs :=
  ⟨Below.next h.below hb, h.own.1, by
    rcases h.own.2 with hn | ⟨g, cap, cur, hv, hg, hc, rest⟩
    · exact .inl hn
    · exact .inr ⟨g, cap, cur, hv, hg, by rw [hb.block g (Array.getElem?_eq_some_iff.1 hc).1]; exact hc, rest⟩⟩
theorem Grown.later {e : TypeId} {W w : World} {v : Value} {n : Nat} {xs : List Value} (h : Grown e W w v n xs) (p : Regrown) : Grown e W (after w p) v n xs := h.keep (after_below w p)
theorem Grown.box {e : TypeId} {W w : World} {v : Value} {n : Nat} {xs : List Value} (h : Grown e W w v n xs) (o : Obj) : Grown e W (w.alloc o) v n xs := h.keep ((Below.refl _ w).alloc (Nat.le_refl _) o)
theorem Grown.nil0 (e : TypeId) (W : World) : Grown e W W (.slice none 0 0) 0 [] := ⟨Below.refl _ _, World.ownsRow_nil _ _ _ _⟩
theorem Grown.one (e : TypeId) (W : World) (x : Value) : Grown e W (W.alloc (.cells #[x] e)) (.slice (some ⟨W.heap.size, 0, none⟩) 1 1) 1 [x] :=
  ⟨(Below.refl _ W).alloc (Nat.le_refl _) _, World.ownsRow_lit (size := 1) W #[x] 1 (Nat.le_refl _) (by decide) rfl⟩
theorem Grown.empty (e : TypeId) (W : World) : Grown e W (W.alloc (.cells #[] e)) (.slice (some ⟨W.heap.size, 0, none⟩) 0 0) 0 [] :=
  ⟨(Below.refl _ W).alloc (Nat.le_refl _) _, World.ownsRow_lit (size := 1) W #[] 0 (Nat.le_refl _) (by decide) rfl⟩
theorem Grown.form {e : TypeId} {W w : World} {v : Value} {n : Nat} {xs : List Value} (h : Grown e W w v n xs) : ∃ u cap, v = .slice u n cap ∧ (u = none → n = 0 ∧ cap = 0) ∧ (∀ a, u = some a → ∃ b, a = ⟨b, 0, none⟩ ∧ W.heap.size ≤ b ∧ b < w.heap.size ∧ ∀ (i : Nat) x, xs[i]? = some x → w.cell? ⟨b, i, none⟩ = some x) ∧ xs.length = n := by
  have hlen := h.own.1
  rw [Nat.mul_one] at hlen
  rcases h.own.2 with ⟨rfl, rfl⟩ | ⟨g, cap, cur, rfl, hg, hc, rest⟩
  · exact ⟨none, 0, rfl, fun _ => ⟨rfl, rfl⟩, fun a ha => (by cases ha), hlen⟩
  · refine ⟨_, cap, rfl, fun e => (by cases e), fun a ha => ⟨g, (by injection ha with ha; exact ha.symm), hg, (Array.getElem?_eq_some_iff.1 hc).1, fun i x hx => ?_⟩, hlen⟩
    have hi : i < xs.length := (List.getElem?_eq_some_iff.1 hx).1
    rw [h.own.cellAt i (by omega), hx]
theorem Grown.ls {W w : World} {u : Option Addr} {n c : Nat} {l : List Int} {xs : List Value} (h : Grown 22 W w (.slice u n c) n xs) (hx : xs = l.map (fun z => Value.int .u64 z)) (hs : n ≤ 9223372036854775807) (hU : ∀ x ∈ l, U x) : Ls w u l ∧ (u = none → c = 0) ∧ l.length = n := by
  obtain ⟨u', c', e, h1, h2, h3⟩ := h.form
  injection e with e1 e2 e3
  subst e1 e3 hx
  rw [List.length_map] at h3
  refine ⟨⟨by omega, hU, fun hne => ?_⟩, fun e => (h1 e).2, h3⟩
  cases u with
  | none => exact absurd (List.length_eq_zero_iff.1 (by rw [h3]; exact (h1 rfl).1)) hne
  | some a =>
    obtain ⟨b, rfl, hb, hlt, hc⟩ := h2 a rfl
    exact ⟨b, 0, rfl, hlt, fun i x hx => by rw [Nat.zero_add]; exact hc i _ (by rw [List.getElem?_map, hx]; rfl)⟩

theorem wpList_push {W w : World} {ops : Array Oper} {rest : List Oper} {o : Oper} {a : Act} {Q : Exit → Act → World → Prop} (t e : TypeId) (z : Value) (by' : Nat) (hu : Try.prog.underlying t = some (.slice e))
    (hi : (Try.prog.info? e).map (fun i => (i.zero, i.size, i.bytes)) = some (some z, 1, by')) (hz1 : z.cells.size = 1) (hb8 : by' ≤ 64) (hgd : o.guard = none) (s x : Operand)
    (ho : o.op = .call { callee := .builtin .append, args := #[s, x], argTypes := #[t, t] }) (v : Value) (n : Nat) (xs : List Value) (hG : Grown e W w v n xs) (hs : a.eval s = v)
    (y : Value) (hy1 : y.oneCell' = true) (b : Nat) (hx : a.eval x = .slice (some ⟨b, 0, none⟩) 1 1) (hc : w.cell? ⟨b, 0, none⟩ = some y) (hsmall : n ≤ 1048576)
    (h : ∀ v' w', Grown e W w' v' (n + 1) (xs ++ [y]) → wpList Try.prog ops Q rest (a.put o.dst v') w') : wpList Try.prog ops Q (o :: rest) a w := by
  obtain ⟨i, hi, hii⟩ := Option.map_eq_some_iff.1 hi
  simp only [Prod.mk.injEq] at hii
  obtain ⟨hz, hsz, hby⟩ := hii
  refine wpList_append_own w hgd s x t ho W.heap.size e i z 1 by' hu hi hz hsz hby hz1 (by decide) v n xs hs hG.own ⟨b, 0, none⟩ 1 1 [y] hx rfl ?_ ?_ (by simp only [maxLen]; omega) ?_ hG.below.size ?_
  · intro j u hj
    match j, hj with
    | 0, hj => simp at hj; subst hj; rw [Addr.add_lit]; exact hc
    | j + 1, hj => simp at hj
  · intro u hu; rw [List.mem_singleton] at hu; subst hu; exact hy1
  · have := Nat.mul_le_mul_left (n + 1) hb8; omega
  · intro v' w' hown' hgr _
    exact h v' w' ⟨Below.grown hG.below hgr hG.below.size (fun k hk => (hG.own.lt k hk).1), hown'⟩
end Go.Proofs.Ytjnlnbkdnjainaa

/- Lists of rows of numbers that the call makes by append: each row in a block of its own. -/
namespace Go.Proofs.Ytjnlnbkdnjainaa
open Go.RowKit Go.Sort

set_option maxRecDepth 100000
def rowV (x : Nat × List Int) : Value := .slice (some ⟨x.1, 0, none⟩) x.2.length x.2.length
/-- v is a list of rows of the call's own: row i lies in block bs[i] and holds ls[i]; nothing of W has turned. -/
structure Mat (W w : World) (v : Value) (bs : List Nat) (ls : List (List Int)) : Prop where
  grown : Grown 32 W w v ls.length ((bs.zip ls).map rowV)
  len : bs.length = ls.length
  rows : ∀ (i : Nat) b l, bs[i]? = some b → ls[i]? = some l → w.rowIs b 22 l.length (fun j => .int .u64 (l.getD j 0))
  ge : ∀ b ∈ bs, W.heap.size ≤ b ∧ v.ownBlock ≠ some b ∧ b < w.heap.size
  nodup : bs.Nodup
  all : ∀ l ∈ ls, ∀ x ∈ l, U x
theorem Mat.keep {W w w' : World} {v : Value} {bs : List Nat} {ls : List (List Int)} (h : Mat W w v bs ls) (hb : Below w.heap.size w w') : Mat W w' v bs ls :=
  ⟨h.grown.keep hb, h.len, fun i b l h1 h2 => (h.rows i b l h1 h2).of_block (hb.block b (h.rows i b l h1 h2).lt), fun b hbm => ⟨(h.ge b hbm).1, (h.ge b hbm).2.1, Nat.lt_of_lt_of_le (h.ge b hbm).2.2 hb.size⟩, h.nodup, h.all⟩
theorem Mat.later {W w : World} {v : Value} {bs : List Nat} {ls : List (List Int)} (h : Mat W w v bs ls) (p : Regrown) : Mat W (after w p) v bs ls := h.keep (after_below w p)
theorem Mat.box {W w : World} {v : Value} {bs : List Nat} {ls : List (List Int)} (h : Mat W w v bs ls) (o : Obj) : Mat W (w.alloc o) v bs ls := h.keep ((Below.refl _ w).alloc (Nat.le_refl _) o)
theorem Mat.nil0 (W : World) : Mat W W (.slice none 0 0) [] [] :=
  ⟨Grown.nil0 _ W, rfl, fun i b l h => by simp at h, fun b h => by simp at h, List.nodup_nil, fun l h => by simp at h⟩
theorem Mat.empty (W : World) : Mat W (W.alloc (.cells #[] 32)) (.slice (some ⟨W.heap.size, 0, none⟩) 0 0) [] [] :=
  ⟨Grown.empty _ W, rfl, fun i b l h => by simp at h, fun b h => by simp at h, List.nodup_nil, fun l h => by simp at h⟩

theorem wpList_pushRow {W w : World} {ops : Array Oper} {rest : List Oper} {o : Oper} {a : Act} {Q : Exit → Act → World → Prop} (hgd : o.guard = none) (s x : Operand)
    (ho : o.op = .call { callee := .builtin .append, args := #[s, x], argTypes := #[28, 28] }) (v : Value) (bs : List Nat) (ls : List (List Int)) (hM : Mat W w v bs ls) (hs : a.eval s = v)
    (pb n : Nat) (l : List Int) (hn : l.length = n) (hp : w.rowIs pb 22 n (fun j => .int .u64 (l.getD j 0))) (hpW : W.heap.size ≤ pb) (hpb : pb ∉ bs) (hpv : v.ownBlock ≠ some pb) (hU : ∀ x ∈ l, U x)
    (b : Nat) (hx : a.eval x = .slice (some ⟨b, 0, none⟩) 1 1) (hc : w.cell? ⟨b, 0, none⟩ = some (.slice (some ⟨pb, 0, none⟩) n n)) (hsmall : ls.length ≤ 1048576)
    (h : ∀ v' w', Mat W w' v' (bs ++ [pb]) (ls ++ [l]) → wpList Try.prog ops Q rest (a.put o.dst v') w') : wpList Try.prog ops Q (o :: rest) a w := by
  subst hn
  obtain ⟨i, hi, hii⟩ := Option.map_eq_some_iff.1 (show (Try.prog.info? 32).map (fun i => (i.zero, i.size, i.bytes)) = some (some (.slice none 0 0), 1, 24) from by kernel_rfl)
  simp only [Prod.mk.injEq] at hii
  obtain ⟨hz, hsz, hby⟩ := hii
  refine wpList_append_own_at w hgd s x 28 ho W.heap.size 32 i (.slice none 0 0) 1 24 Try.underlying28 hi hz hsz hby rfl (by decide) v ls.length _ hs hM.grown.own ⟨b, 0, none⟩ 1 1 [.slice (some ⟨pb, 0, none⟩) l.length l.length] hx rfl ?_ ?_ (by simp only [maxLen]; omega) (by omega) hM.grown.below.size ?_
  · intro j u hj
    match j, hj with
    | 0, hj => simp at hj; subst hj; rw [Addr.add_lit]; exact hc
    | j + 1, hj => simp at hj
  · intro u hu; rw [List.mem_singleton] at hu; subst hu; rfl
  · intro v' w' hown' hgr _ hat
    have hkeep : ∀ k, k < w.heap.size → v.ownBlock ≠ some k → w'.heap[k]? = w.heap[k]? := fun k hk hne => hgr.block k hk (fun e => hne e.symm)
    have hne' : ∀ k, k < w.heap.size → v.ownBlock ≠ some k → v'.ownBlock ≠ some k := fun k hk hne e => by
      rcases hat with e2 | e2
      · rw [e2] at e; exact hne e
      · rw [e2] at e; injection e with e; omega
    refine h v' w' ⟨⟨Below.grown hM.grown.below hgr hM.grown.below.size (fun k hk => (hM.grown.own.lt k hk).1), ?_⟩, by simp [hM.len], ?_, ?_, ?_, ?_⟩
    · rw [List.zip_append hM.len, List.map_append, List.length_append]; exact hown'
    · intro i b' l' h1 h2
      rcases Nat.lt_or_ge i bs.length with hi' | hi'
      · rw [List.getElem?_append_left hi'] at h1
        rw [List.getElem?_append_left (by rw [← hM.len]; exact hi')] at h2
        have hr := hM.rows i b' l' h1 h2
        exact hr.of_block (hkeep b' hr.lt (hM.ge b' (List.mem_of_getElem? h1)).2.1)
      · rw [List.getElem?_append_right hi'] at h1
        rw [List.getElem?_append_right (by rw [← hM.len]; exact hi')] at h2
        match hd : i - bs.length with
        | 0 =>
          rw [hd] at h1; rw [← hM.len, hd] at h2
          simp at h1 h2
          subst h1 h2
          exact hp.of_block (hkeep pb hp.lt hpv)
        | k + 1 => rw [hd] at h1; simp at h1
    · intro b' hb'
      rcases List.mem_append.1 hb' with hb' | hb'
      · have := hM.ge b' hb'
        exact ⟨this.1, hne' b' this.2.2 this.2.1, Nat.lt_of_lt_of_le this.2.2 hgr.size⟩
      · rw [List.mem_singleton] at hb'; subst hb'
        exact ⟨hpW, hne' _ hp.lt hpv, Nat.lt_of_lt_of_le hp.lt hgr.size⟩
    · rw [List.nodup_append]
      exact ⟨hM.nodup, by simp, fun a ha b hb e => by rw [List.mem_singleton] at hb; subst hb; subst e; exact hpb ha⟩
    · intro l' hl'
      rcases List.mem_append.1 hl' with hl' | hl'
      · exact hM.all l' hl'
      · rw [List.mem_singleton] at hl'; subst hl'; exact hU

/-! ### cutting a vector into chunks -/
def chunk (b : Nat) (v : List Int) (k : Nat) : List Int := (List.range b).map fun j => v.getD (k * b + j) 0
def cutL (b n : Nat) (v : List Int) : List (List Int) := (List.range n).map (chunk b v)
def cuts (b : Nat) (pf : Nat → Nat) (lf : Nat → List Int) : Nat → List (List Int)
  | 0 => []
  | i + 1 => cuts b pf lf i ++ cutL b (pf i) (lf i)
theorem cutL_next (b n : Nat) (v : List Int) : cutL b (n + 1) v = cutL b n v ++ [chunk b v n] := by simp [cutL, List.range_succ]
theorem cutL_len (b n : Nat) (v : List Int) : (cutL b n v).length = n := by simp [cutL]
theorem chunk_len (b : Nat) (v : List Int) (k : Nat) : (chunk b v k).length = b := by simp [chunk]
theorem cuts_len {b M : Nat} {pf : Nat → Nat} {lf : Nat → List Int} (h : ∀ i, pf i ≤ M) : ∀ i, (cuts b pf lf i).length ≤ i * M
  | 0 => by simp [cuts]
  | i + 1 => by have := cuts_len (b := b) (lf := lf) h i; have := h i; rw [cuts, List.length_append, cutL_len, Nat.add_mul]; omega
theorem chunk_U {b : Nat} {v : List Int} {k : Nat} (h : ∀ x ∈ v, U x) : ∀ x ∈ chunk b v k, U x := by
  intro x hx
  simp only [chunk, List.mem_map] at hx
  obtain ⟨j, _, rfl⟩ := hx
  rw [List.getD]
  cases hv : v[k * b + j]? with
  | none => exact ⟨by decide, by decide⟩
  | some y => exact h y (List.mem_of_getElem? hv)
theorem chunk_at (b : Nat) (v : List Int) (k j : Nat) (h : j < b) : (chunk b v k).getD j 0 = v.getD (k * b + j) 0 := by
  rw [List.getD, chunk, List.getElem?_map, List.getElem?_range h]; rfl
end Go.Proofs.Ytjnlnbkdnjainaa

/- Rows of rows in memory, to be read: Mt; soundness.full, layout.Total. -/
namespace Go.Proofs.Ytjnlnbkdnjainaa
open Go.RowKit Go.Sort

/-- At u there lie these rows of numbers. -/
structure Mt (w : World) (u : Option Addr) (ls : List (List Int)) : Prop where
  small : (ls.length : Int) ≤ 9223372036854775807
  mem : ls ≠ [] → ∃ b o, u = some ⟨b, o, none⟩ ∧ b < w.heap.size ∧ ∀ (i : Nat) l, ls[i]? = some l → ∃ v c, w.cell? ⟨b, o + i, none⟩ = some (.slice v l.length c) ∧ Ls w v l
theorem Mt.below {w w' : World} {u : Option Addr} {ls : List (List Int)} (h : Mt w u ls) {B : Nat} (hB : w.heap.size ≤ B) (hb : Below B w w') : Mt w' u ls :=
  ⟨h.small, fun hne => by
    obtain ⟨b, o, hu, hlt, hc⟩ := h.mem hne
    exact ⟨b, o, hu, Nat.lt_of_lt_of_le hlt hb.size, fun i l hl => by
      obtain ⟨v, c, h1, h2⟩ := hc i l hl
      exact ⟨v, c, by rw [hb.cell (p := ⟨b, o + i, none⟩) (Nat.lt_of_lt_of_le hlt hB)]; exact h1, h2.below hB hb⟩⟩⟩
theorem Mt.get {w : World} {u : Option Addr} {ls : List (List Int)} (h : Mt w u ls) {n : Nat} (hn : ls.length = n) : ∀ k, k < n → ∃ b o l v c, u = some ⟨b, o, none⟩ ∧ ls[k]? = some l ∧ b < w.heap.size ∧ w.cell? ⟨b, o + k, none⟩ = some (.slice v l.length c) ∧ Ls w v l := fun k hk => by
  have hne : ls ≠ [] := fun e => by subst e; simp at hn; omega
  obtain ⟨b, o, hu, hlt, hc⟩ := h.mem hne
  have hx : ls[k]? = some ls[k] := List.getElem?_eq_getElem (by omega)
  obtain ⟨v, c, h1, h2⟩ := hc k _ hx
  exact ⟨b, o, ls[k], v, c, hu, hx, hlt, h1, h2⟩
theorem Mat.mt {W w : World} {u : Option Addr} {n c : Nat} {bs : List Nat} {ls : List (List Int)} (h : Mat W w (.slice u n c) bs ls) (hs : (ls.length : Int) ≤ 9223372036854775807) (hr : ∀ l ∈ ls, (l.length : Int) ≤ 9223372036854775807) : n = ls.length ∧ Mt w u ls := by
  obtain ⟨u', c', e, h1, h2, h3⟩ := h.grown.form
  injection e with e1 e2 e3
  subst e1 e3
  refine ⟨e2, hs, fun hne => ?_⟩
  cases u with
  | none => exact absurd (List.length_eq_zero_iff.1 (h1 rfl).1) hne
  | some a =>
    obtain ⟨b, rfl, _, hlt, hc⟩ := h2 a rfl
    refine ⟨b, 0, rfl, hlt, fun i l hl => ?_⟩
    have hi : i < ls.length := (List.getElem?_eq_some_iff.1 hl).1
    have hib : i < bs.length := by rw [h.len]; exact hi
    obtain ⟨bi, hb⟩ : ∃ x, bs[i]? = some x := ⟨_, List.getElem?_eq_getElem hib⟩
    have hm := List.mem_of_getElem? hl
    refine ⟨some ⟨bi, 0, none⟩, l.length, ?_, Ls.row (h.rows i _ _ hb hl) (Nat.le_refl _) (hr l hm) (h.all l hm)⟩
    rw [Nat.zero_add]
    refine hc i _ ?_
    rw [List.getElem?_map, (List.getElem?_zip_eq_some (z := (bi, l))).2 ⟨hb, hl⟩]
    rfl

theorem drop_cons {α : Type} {l : List α} {k : Nat} {x : α} (h : l[k]? = some x) : l.drop k = x :: l.drop (k + 1) := by
  obtain ⟨hk, hx⟩ := List.getElem?_eq_some_iff.1 h
  rw [List.drop_eq_getElem_cons hk, hx]
def fullB (b : Int) (ls : List (List Int)) : Bool := ls.all fun l => decide ((l.length : Int) = b)
end Go.Proofs.Ytjnlnbkdnjainaa
