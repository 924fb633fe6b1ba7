/- Lemmas of several texts in one file: Tab, TArg, TArh, Marg. -/
import Derived.Test.YtjnlnbkdnjainaaQC
import Derived.Deep.SlicePairs
/- Tables in memory: terms, rows; what is valid. -/
namespace Go.Proofs.Ytjnlnbkdnjainaa
open Go.RowKit Go.Sort

def I (n : Int) : Prop := -9223372036854775808 ≤ n ∧ n ≤ 9223372036854775807

/-- At u there lie these terms. -/
structure Tm (w : World) (u : Option Addr) (l : List (Int × Int)) : Prop where
  small : (l.length : Int) ≤ 9223372036854775807
  all : ∀ x ∈ l, I x.1 ∧ U x.2
  mem : l ≠ [] → ∃ b o, u = some ⟨b, o, none⟩ ∧ b < w.heap.size ∧ ∀ (i : Nat) x, l[i]? = some x → w.cell? ⟨b, o + i * 2, none⟩ = some (.int .i64 x.1) ∧ w.cell? ⟨b, o + i * 2 + 1, none⟩ = some (.int .u64 x.2)
theorem Tm.below {w w' : World} {u : Option Addr} {l : List (Int × Int)} (h : Tm w u l) {B : Nat} (hB : w.heap.size ≤ B) (hb : Below B w w') : Tm w' u l :=
  ⟨h.small, h.all, fun hne => by
    obtain ⟨b, o, hu, hlt, hc⟩ := h.mem hne
    exact ⟨b, o, hu, Nat.lt_of_lt_of_le hlt hb.size, fun i x hx => by
      rw [hb.cell (p := ⟨b, o + i * 2, none⟩) (Nat.lt_of_lt_of_le hlt hB), hb.cell (p := ⟨b, o + i * 2 + 1, none⟩) (Nat.lt_of_lt_of_le hlt hB)]; exact hc i x hx⟩⟩
theorem Tm.later {w : World} {u : Option Addr} {l : List (Int × Int)} (h : Tm w u l) (p : Regrown) : Tm (after w p) u l := h.below (Nat.le_refl _) (after_below w p)
theorem Tm.box {w : World} {u : Option Addr} {l : List (Int × Int)} (h : Tm w u l) (o : Obj) : Tm (w.alloc o) u l := h.below (Nat.le_refl _) ((Below.refl _ w).alloc (Nat.le_refl _) o)
theorem Tm.get {w : World} {u : Option Addr} {l : List (Int × Int)} (h : Tm w u l) {n : Nat} (hn : l.length = n) : ∀ k, k < n → ∃ b o x y, u = some ⟨b, o, none⟩ ∧ l[k]? = some (x, y) ∧ b < w.heap.size ∧
    w.cell? ⟨b, o + k * 2, none⟩ = some (.int .i64 x) ∧ w.cell? ⟨b, o + k * 2 + 1, none⟩ = some (.int .u64 y) ∧ I x ∧ U y := fun k hk => by
  have hne : l ≠ [] := fun e => by subst e; simp at hn; omega
  obtain ⟨b, o, hu, hlt, hc⟩ := h.mem hne
  have hx : l[k]? = some l[k] := List.getElem?_eq_getElem (by omega)
  have ha := h.all _ (List.getElem_mem (l := l) (n := k) (by omega))
  exact ⟨b, o, l[k].1, l[k].2, hu, hx, hlt, (hc k _ hx).1, (hc k _ hx).2, ha.1, ha.2⟩

/-- Terms in ascending order of variables below n, coefficients not 0 and below p. -/
def linB (p n : Int) (last : Int) : List (Int × Int) → Bool
  | [] => true
  | x :: xs => !(decide (x.1 ≤ last)) && decide (x.1 < n) && !(x.2 == 0) && decide (x.2 < p) && linB p n x.1 xs

theorem drop_next {α : Type} {l : List α} {k : Nat} {x : α} (h : l[k]? = some x) : l.drop k = x :: l.drop (k + 1) := by
  obtain ⟨hk, hx⟩ := List.getElem?_eq_some_iff.1 h
  rw [List.drop_eq_getElem_cons hk, hx]

/-! ### rows -/
structure Lin where
  u : Option Addr
  c : Nat
  l : List (Int × Int)
def Lin.v (x : Lin) : Value := .slice x.u x.l.length x.c
structure Rw where
  a : Lin
  b : Lin
  c : Lin
structure Rws (w : World) (u : Option Addr) (l : List Rw) : Prop where
  small : (l.length : Int) ≤ 9223372036854775807
  all : ∀ x ∈ l, Tm w x.a.u x.a.l ∧ Tm w x.b.u x.b.l ∧ Tm w x.c.u x.c.l
  mem : l ≠ [] → ∃ b o, u = some ⟨b, o, none⟩ ∧ b < w.heap.size ∧ ∀ (i : Nat) x, l[i]? = some x → w.cell? ⟨b, o + i * 3, none⟩ = some x.a.v ∧ w.cell? ⟨b, o + i * 3 + 1, none⟩ = some x.b.v ∧ w.cell? ⟨b, o + i * 3 + 2, none⟩ = some x.c.v
theorem Rws.below {w w' : World} {u : Option Addr} {l : List Rw} (h : Rws w u l) {B : Nat} (hB : w.heap.size ≤ B) (hb : Below B w w') : Rws w' u l :=
  ⟨h.small, fun x hx => ⟨(h.all x hx).1.below hB hb, (h.all x hx).2.1.below hB hb, (h.all x hx).2.2.below hB hb⟩, fun hne => by
    obtain ⟨b, o, hu, hlt, hc⟩ := h.mem hne
    exact ⟨b, o, hu, Nat.lt_of_lt_of_le hlt hb.size, fun i x hx => by
      rw [hb.cell (p := ⟨b, o + i * 3, none⟩) (Nat.lt_of_lt_of_le hlt hB), hb.cell (p := ⟨b, o + i * 3 + 1, none⟩) (Nat.lt_of_lt_of_le hlt hB), hb.cell (p := ⟨b, o + i * 3 + 2, none⟩) (Nat.lt_of_lt_of_le hlt hB)]; exact hc i x hx⟩⟩
theorem Rws.later {w : World} {u : Option Addr} {l : List Rw} (h : Rws w u l) (p : Regrown) : Rws (after w p) u l := h.below (Nat.le_refl _) (after_below w p)
theorem Rws.box {w : World} {u : Option Addr} {l : List Rw} (h : Rws w u l) (o : Obj) : Rws (w.alloc o) u l := h.below (Nat.le_refl _) ((Below.refl _ w).alloc (Nat.le_refl _) o)
theorem Rws.get {w : World} {u : Option Addr} {l : List Rw} (h : Rws w u l) {n : Nat} (hn : l.length = n) : ∀ k, k < n → ∃ b o x, u = some ⟨b, o, none⟩ ∧ l[k]? = some x ∧ b < w.heap.size ∧
    w.cell? ⟨b, o + k * 3, none⟩ = some x.a.v ∧ w.cell? ⟨b, o + k * 3 + 1, none⟩ = some x.b.v ∧ w.cell? ⟨b, o + k * 3 + 2, none⟩ = some x.c.v ∧ Tm w x.a.u x.a.l ∧ Tm w x.b.u x.b.l ∧ Tm w x.c.u x.c.l := fun k hk => by
  have hne : l ≠ [] := fun e => by subst e; simp at hn; omega
  obtain ⟨b, o, hu, hlt, hc⟩ := h.mem hne
  have hx : l[k]? = some l[k] := List.getElem?_eq_getElem (by omega)
  have ha := h.all _ (List.getElem_mem (l := l) (n := k) (by omega))
  exact ⟨b, o, l[k], hu, hx, hlt, (hc k _ hx).1, (hc k _ hx).2.1, (hc k _ hx).2.2, ha.1, ha.2.1, ha.2.2⟩
theorem Tm.ulen {w : World} {u : Option Addr} {l : List (Int × Int)} (h : Tm w u l) : ∀ q, Tm (after w q) u l := fun q => h.later q

def rowB (p n : Int) (x : Rw) : Bool := linB p n (-1) x.a.l && linB p n (-1) x.b.l && linB p n (-1) x.c.l

def szB (p q n : Int) : Bool := vld p && decide (0 ≤ q) && decide (q < n) && decide (n ≤ 65536)
end Go.Proofs.Ytjnlnbkdnjainaa

/- Tables and cases among a law's arguments, opened. -/
namespace Go.Proofs.Ytjnlnbkdnjainaa
open Go.ChangeShapes Go.WideShapes Go.ChangeAt Go.RowKit Go.Deep

set_option maxRecDepth 100000
theorem spot_of {W : World} {a : Addr} {v : Value} (h : W.cell? (a.add 0) = some v) : a.spot = none ∧ a.block < W.heap.size := by
  rw [Addr.add, if_pos rfl] at h
  refine ⟨?_, World.block_lt_of_cell? W a h⟩
  cases hs : a.spot with
  | none => rfl
  | some q =>
    exfalso
    unfold World.cell? at h
    split at h
    · simp [hs] at h
    · cases h
theorem addr_of {a : Addr} (h : a.spot = none) (k : Nat) : a.add k = ⟨a.block, a.off + k, none⟩ := by
  cases a; simp only at h; subst h; exact Addr.add_lit _ _ _

section
variable {H : Type} {enc : TypeId × Value → H} {W : World} {fuel : Nat} {cs : List Value} {x : DataW H × List MemPlace}
theorem open_u64_cell {t : TypeId} (ht : Try.prog.underlying t = some (.int .u64)) (h : DataW.trod enc Try.prog W 0 (fun _ => true) true fuel t cs = some x) : ∃ n, cs = [.int .u64 n] ∧ U n := by
  obtain ⟨n, rfl, _, hw⟩ := DataW.trod_int ht h
  simp [Lit.wf, IntKind.max, IntKind.min, IntKind.signed, IntKind.bits] at hw
  exact ⟨n, rfl, hw.1, by omega⟩
theorem open_i64_cell {t : TypeId} (ht : Try.prog.underlying t = some (.int .i64)) (h : DataW.trod enc Try.prog W 0 (fun _ => true) true fuel t cs = some x) : ∃ n, cs = [.int .i64 n] ∧ I n := by
  obtain ⟨n, rfl, _, hw⟩ := DataW.trod_int ht h
  simp [Lit.wf, IntKind.max, IntKind.min, IntKind.signed, IntKind.bits] at hw
  exact ⟨n, rfl, hw.1, by omega⟩

theorem open_list_cells (h : DataW.trod enc Try.prog W 0 (fun _ => true) true fuel 32 cs = some x) : ∃ u l c, cs = [.slice u l.length c] ∧ Ls W u l ∧ (u = none → c = 0) := by
  rcases open_ints (k := .u64) Try.underlying32 Try.underlying22 (by kernel_rfl) h with ⟨hc, _⟩ | ⟨a, len, cap, zs, hc, _, hlen, hcap, hzs, _, hcell, hwf⟩
  · exact ⟨none, [], 0, hc, Ls.nil _ _, fun _ => rfl⟩
  · have hl : (zs.take len).length = len := by simp [hzs]; omega
    refine ⟨some a, zs.take len, cap, by rw [hl]; exact hc, ⟨?_, ?_, ?_⟩, fun e => by cases e⟩
    · rw [hl]; simp only [maxLen] at hcap; omega
    · intro x hx
      have := hwf x (List.mem_of_mem_take hx)
      simp [Lit.wf, IntKind.max, IntKind.min, IntKind.signed, IntKind.bits] at this
      exact ⟨this.1, by omega⟩
    · intro hne
      have h0 : 0 < len := by
        rcases Nat.eq_zero_or_pos len with e | e
        · subst e; simp at hne
        · exact e
      have hz : zs.length = cap := by simpa using hzs
      obtain ⟨hsp, hblt⟩ := spot_of (hcell 0 (by omega))
      refine ⟨a.block, a.off, by cases a; simp_all, hblt, fun i x hx => ?_⟩
      have hi : i < len := by
        have := (List.getElem?_eq_some_iff.1 hx).1
        rw [hl] at this; exact this
      have hci := hcell i (by omega)
      rw [List.getElem?_take, if_pos hi] at hx
      rw [List.getD, hx, addr_of hsp] at hci
      exact hci

end
end Go.Proofs.Ytjnlnbkdnjainaa

/- Cases among a law's arguments: with what their lists' capacities say. -/
namespace Go.Proofs.Ytjnlnbkdnjainaa
open Go.ChangeShapes Go.WideShapes Go.ChangeAt Go.RowKit Go.Deep

set_option maxRecDepth 100000
section
variable {H : Type} {enc : TypeId × Value → H} {W : World} {fuel : Nat} {cs : List Value} {x : DataW H × List MemPlace}
theorem open_list_cells2 (h : DataW.trod enc Try.prog W 0 (fun _ => true) true fuel 32 cs = some x) : ∃ u l c, cs = [.slice u l.length c] ∧ Ls W u l ∧ (u = none → c = 0) ∧ l.length ≤ c := by
  rcases open_ints (k := .u64) Try.underlying32 Try.underlying22 (by kernel_rfl) h with ⟨hc, _⟩ | ⟨a, len, cap, zs, hc, _, hlen, hcap, hzs, _, hcell, hwf⟩
  · exact ⟨none, [], 0, hc, Ls.nil _ _, fun _ => rfl, Nat.le_refl _⟩
  · have hl : (zs.take len).length = len := by simp [hzs]; omega
    refine ⟨some a, zs.take len, cap, by rw [hl]; exact hc, ⟨?_, ?_, ?_⟩, (fun e => by cases e), by rw [hl]; exact hlen⟩
    · rw [hl]; simp only [maxLen] at hcap; omega
    · intro x hx
      have := hwf x (List.mem_of_mem_take hx)
      simp [Lit.wf, IntKind.max, IntKind.min, IntKind.signed, IntKind.bits] at this
      exact ⟨this.1, by omega⟩
    · intro hne
      have h0 : 0 < len := by
        rcases Nat.eq_zero_or_pos len with e | e
        · subst e; simp at hne
        · exact e
      have hz : zs.length = cap := by simpa using hzs
      obtain ⟨hsp, hblt⟩ := spot_of (hcell 0 (by omega))
      refine ⟨a.block, a.off, by cases a; simp_all, hblt, fun i x hx => ?_⟩
      have hi : i < len := by
        have := (List.getElem?_eq_some_iff.1 hx).1
        rw [hl] at this; exact this
      have hci := hcell i (by omega)
      rw [List.getElem?_take, if_pos hi] at hx
      rw [List.getD, hx, addr_of hsp] at hci
      exact hci

end
end Go.Proofs.Ytjnlnbkdnjainaa

/- Rows of numbers among a law's arguments, opened. -/
namespace Go.Proofs.Ytjnlnbkdnjainaa
open Go.ChangeShapes Go.WideShapes Go.ChangeAt Go.RowKit Go.Deep

set_option maxRecDepth 100000
section
variable {H : Type} {enc : TypeId × Value → H} {W : World} {fuel : Nat} {cs : List Value} {x : DataW H × List MemPlace}
theorem open_mat_cells (h : DataW.trod enc Try.prog W 0 (fun _ => true) true fuel 28 cs = some x) : ∃ u c ls, cs = [.slice u (ls : List (List Int)).length c] ∧ Mt W u ls ∧ (u = none → c = 0) ∧
    ∀ b o i v n c', u = some ⟨b, o, none⟩ → i < ls.length → W.cell? ⟨b, o + i, none⟩ = some (.slice v n c') → (v = none → c' = 0) ∧ n ≤ c' := by
  rcases open_slice Try.underlying28 h with ⟨rfl, _⟩ | ⟨a, len, cap, m, n, D, Pl, rfl, _, hlen, hcap, hm, _, hx⟩
  · exact ⟨none, 0, [], rfl, ⟨by simp, fun e => absurd rfl e⟩, fun _ => rfl, fun b o i v n c' e => by cases e⟩
  · rw [if_pos rfl] at hm
    rw [show Try.prog.cellsOf 32 = 1 from by kernel_rfl] at hx
    have g : ∀ i, i < len → ∃ r : Option Addr × Nat × List Int, W.cell? (a.add i) = some (.slice r.1 r.2.2.length r.2.1) ∧ Ls W r.1 r.2.2 ∧ (r.1 = none → r.2.1 = 0) ∧ r.2.2.length ≤ r.2.1 := fun i hi => by
      obtain ⟨cs', h1, h2⟩ := hx i (by omega)
      obtain ⟨_, hl1, hcell⟩ := World.cells?_some h1
      obtain ⟨u, l, c, e, hL, hc, hcp⟩ := open_list_cells2 h2
      subst e
      have c0 := hcell 0 (by simp)
      rw [add_add] at c0
      simp at c0
      exact ⟨⟨u, c, l⟩, c0, hL, hc, hcp⟩
    have : Inhabited (Option Addr × Nat × List Int) := ⟨⟨none, 0, []⟩⟩
    obtain ⟨R, hR⟩ := choose_lt g
    refine ⟨some a, cap, (List.range len).map fun i => (R i).2.2, by simp, ⟨?_, ?_⟩, fun e => (by cases e), ?_⟩
    · simp only [List.length_map, List.length_range, maxLen] at *; omega
    · intro hne
      have h0 : 0 < len := by
        rcases Nat.eq_zero_or_pos len with e | e
        · subst e; simp at hne
        · exact e
      obtain ⟨hsp, hblt⟩ := spot_of (hR 0 h0).1
      refine ⟨a.block, a.off, by cases a; simp_all, hblt, fun i l hl => ?_⟩
      have hi : i < len := by
        have := (List.getElem?_eq_some_iff.1 hl).1
        simpa using this
      simp only [List.getElem?_map, List.getElem?_range hi, Option.map_some, Option.some.injEq] at hl
      subst hl
      obtain ⟨c0, hL, _⟩ := hR i hi
      rw [addr_of hsp] at c0
      exact ⟨_, _, c0, hL⟩
    · intro b o i v n' c' e hi hc
      have hi' : i < len := by simpa using hi
      injection e with e
      obtain ⟨c0, _, hz, hcp⟩ := hR i hi'
      rw [e, show (⟨b, o, none⟩ : Addr).add i = ⟨b, o + i, none⟩ from Addr.add_lit _ _ _, hc] at c0
      injection c0 with c0
      injection c0 with e1 e2 e3
      exact ⟨fun hv => by rw [e3]; exact hz (by rw [← e1]; exact hv), by rw [e2, e3]; exact hcp⟩
theorem open_mat {v : Value} {d : DataW H} {ps : List MemPlace} {base : Nat} (hv : Value.okWide Try.prog W .any base 28 v) (h : DataW.Trod enc Try.prog W 0 (fun _ => true) true 28 v d ps) :
    ∃ u ls c, v = .slice u (ls : List (List Int)).length c ∧ (Mt W u ls ∧ (u = none → c = 0) ∧ ∀ b o i v n c', u = some ⟨b, o, none⟩ → i < ls.length → W.cell? ⟨b, o + i, none⟩ = some (.slice v n c') → (v = none → c' = 0) ∧ n ≤ c') := by
  obtain ⟨fuel, h⟩ := h
  have hag : ∀ cs, v ≠ .agg cs := by
    intro cs e
    subst e
    simp [Value.okWide, Try.underlying28, Cell.okWide, Cell.ok] at hv
  have hcells : ∀ a n c, v.cells.toList = [.slice a n c] → v = .slice a n c := by
    intro a n c hc
    cases v <;> simp_all [Value.cells]
  obtain ⟨u, c, ls, e, h1, h2, h3⟩ := open_mat_cells h
  exact ⟨u, ls, c, hcells _ _ _ e, h1, h2, h3⟩
end
end Go.Proofs.Ytjnlnbkdnjainaa
