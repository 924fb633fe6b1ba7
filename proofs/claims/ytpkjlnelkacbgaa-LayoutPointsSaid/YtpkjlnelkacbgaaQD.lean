/- Lemmas of several texts in one file: TArg, TArh, TAri. -/
import Derived.Test.YtpkjlnelkacbgaaQC
import Derived.Test.YtpkjlnelkacbgaaQG
import Derived.Deep.SlicePairs
/- Tables and cases among a law's arguments, opened. -/
namespace Go.Proofs.Ytpkjlnelkacbgaa
open Go.ChangeShapes Go.WideShapes Go.ChangeAt Go.RowKit Go.Deep

set_option maxRecDepth 100000
theorem spot_of {W : World} {a : Addr} {v : Value} (h : W.cell? (a.add 0) = some v) : a.spot = none ∧ a.block < W.heap.size := by
  rw [Addr.add, if_pos rfl] at h
  refine ⟨?_, World.block_lt_of_cell? W a h⟩
  cases hs : a.spot with
  | none => rfl
  | some q =>
    exfalso
    unfold World.cell? at h
    split at h
    · simp [hs] at h
    · cases h
theorem addr_of {a : Addr} (h : a.spot = none) (k : Nat) : a.add k = ⟨a.block, a.off + k, none⟩ := by
  cases a; simp only at h; subst h; exact Addr.add_lit _ _ _

section
variable {H : Type} {enc : TypeId × Value → H} {W : World} {fuel : Nat} {cs : List Value} {x : DataW H × List MemPlace}
theorem open_u64_cell {t : TypeId} (ht : Try.prog.underlying t = some (.int .u64)) (h : DataW.trod enc Try.prog W 0 (fun _ => true) true fuel t cs = some x) : ∃ n, cs = [.int .u64 n] ∧ U n := by
  obtain ⟨n, rfl, _, hw⟩ := DataW.trod_int ht h
  simp [Lit.wf, IntKind.max, IntKind.min, IntKind.signed, IntKind.bits] at hw
  exact ⟨n, rfl, hw.1, by omega⟩
theorem open_i64_cell {t : TypeId} (ht : Try.prog.underlying t = some (.int .i64)) (h : DataW.trod enc Try.prog W 0 (fun _ => true) true fuel t cs = some x) : ∃ n, cs = [.int .i64 n] ∧ I n := by
  obtain ⟨n, rfl, _, hw⟩ := DataW.trod_int ht h
  simp [Lit.wf, IntKind.max, IntKind.min, IntKind.signed, IntKind.bits] at hw
  exact ⟨n, rfl, hw.1, by omega⟩

theorem open_list_cells (h : DataW.trod enc Try.prog W 0 (fun _ => true) true fuel 43 cs = some x) : ∃ u l c, cs = [.slice u l.length c] ∧ Ls W u l ∧ (u = none → c = 0) := by
  rcases open_ints (k := .u64) Try.underlying43 Try.underlying22 (by kernel_rfl) h with ⟨hc, _⟩ | ⟨a, len, cap, zs, hc, _, hlen, hcap, hzs, _, hcell, hwf⟩
  · exact ⟨none, [], 0, hc, Ls.nil _ _, fun _ => rfl⟩
  · have hl : (zs.take len).length = len := by simp [hzs]; omega
    refine ⟨some a, zs.take len, cap, by rw [hl]; exact hc, ⟨?_, ?_, ?_⟩, fun e => by cases e⟩
    · rw [hl]; simp only [maxLen] at hcap; omega
    · intro x hx
      have := hwf x (List.mem_of_mem_take hx)
      simp [Lit.wf, IntKind.max, IntKind.min, IntKind.signed, IntKind.bits] at this
      exact ⟨this.1, by omega⟩
    · intro hne
      have h0 : 0 < len := by
        rcases Nat.eq_zero_or_pos len with e | e
        · subst e; simp at hne
        · exact e
      have hz : zs.length = cap := by simpa using hzs
      obtain ⟨hsp, hblt⟩ := spot_of (hcell 0 (by omega))
      refine ⟨a.block, a.off, by cases a; simp_all, hblt, fun i x hx => ?_⟩
      have hi : i < len := by
        have := (List.getElem?_eq_some_iff.1 hx).1
        rw [hl] at this; exact this
      have hci := hcell i (by omega)
      rw [List.getElem?_take, if_pos hi] at hx
      rw [List.getD, hx, addr_of hsp] at hci
      exact hci

theorem open_terms (h : DataW.trod enc Try.prog W 0 (fun _ => true) true fuel 67 cs = some x) : ∃ L : Lin, cs = [L.v] ∧ Tm W L.u L.l := by
  rcases open_slice_pairs Try.underlying67 Try.underlying69 (by kernel_rfl) rfl rfl (by kernel_rfl) (by kernel_rfl) h with ⟨rfl, _⟩ | ⟨a, len, cap, m, n, V0, V1, D0, D1, P0, P1, rfl, _, hlen, hcap, hm, _, hx⟩
  · exact ⟨⟨none, 0, []⟩, rfl, by simp, by simp, fun e => absurd rfl e⟩
  · rw [if_pos rfl] at hm
    have g : ∀ i, i < len → ∃ y z, V0 i = .int .i64 y ∧ V1 i = .int .u64 z ∧ I y ∧ U z := fun i hi => by
      obtain ⟨_, _, h0, h1⟩ := hx i (by omega)
      obtain ⟨y, hy, hI⟩ := open_i64_cell Try.underlying3 h0
      obtain ⟨z, hz, hU⟩ := open_u64_cell Try.underlying22 h1
      exact ⟨y, z, by simpa using hy, by simpa using hz, hI, hU⟩
    refine ⟨⟨some a, cap, (List.range len).map fun i => (intOf (V0 i), intOf (V1 i))⟩, by simp [Lin.v], ?_, ?_, ?_⟩
    · simp only [List.length_map, List.length_range, maxLen] at *; omega
    · intro x hx
      simp only [List.mem_map, List.mem_range] at hx
      obtain ⟨i, hi, rfl⟩ := hx
      obtain ⟨y, z, h0, h1, hI, hU⟩ := g i hi
      rw [h0, h1]; exact ⟨hI, hU⟩
    · intro hne
      have h0 : 0 < len := by
        rcases Nat.eq_zero_or_pos len with e | e
        · subst e; simp at hne
        · exact e
      obtain ⟨hsp, hblt⟩ := spot_of (by have := (hx 0 (by omega)).1; rw [Nat.zero_mul] at this; exact this)
      refine ⟨a.block, a.off, by cases a; simp_all, hblt, fun i x hxi => ?_⟩
      have hi : i < len := by
        have := (List.getElem?_eq_some_iff.1 hxi).1
        simpa using this
      simp only [List.getElem?_map, List.getElem?_range hi, Option.map_some, Option.some.injEq] at hxi
      subst hxi
      obtain ⟨c0, c1, _, _⟩ := hx i (by omega)
      obtain ⟨y, z, e0, e1, _, _⟩ := g i hi
      rw [addr_of hsp] at c0 c1
      rw [e0] at c0 ⊢
      rw [e1] at c1 ⊢
      exact ⟨c0, by rw [Nat.add_assoc]; exact c1⟩

theorem open_rows (h : DataW.trod enc Try.prog W 0 (fun _ => true) true fuel 23 cs = some x) : ∃ u c rs, cs = [.slice u rs.length c] ∧ Rws W u rs := by
  rcases open_slice Try.underlying23 h with ⟨rfl, _⟩ | ⟨a, len, cap, m, n, D, Pl, rfl, _, hlen, hcap, hm, _, hx⟩
  · exact ⟨none, 0, [], rfl, by simp, by simp, fun e => absurd rfl e⟩
  · rw [if_pos rfl] at hm
    rw [show Try.prog.cellsOf 72 = 3 from by kernel_rfl] at hx
    have g : ∀ i, i < len → ∃ r : Rw, W.cell? (a.add (i * 3)) = some r.a.v ∧ W.cell? (a.add (i * 3 + 1)) = some r.b.v ∧ W.cell? (a.add (i * 3 + 2)) = some r.c.v ∧ Tm W r.a.u r.a.l ∧ Tm W r.b.u r.b.l ∧ Tm W r.c.u r.c.l := fun i hi => by
      obtain ⟨cs', h1, h2⟩ := hx i (by omega)
      obtain ⟨_, hl3, hcell⟩ := World.cells?_some h1
      obtain ⟨xs, k, _, _, _, hxl, hf⟩ := DataW.trod_struct Try.underlying72 h2
      match xs, hxl, cs', hl3 with
      | [y0, y1, y2], _, [v0, v1, v2], _ =>
        have g0 := hf 0 _ rfl
        have g1 := hf 1 _ rfl
        have g2 := hf 2 _ rfl
        simp [show Try.prog.cellsOf 67 = 1 from by kernel_rfl] at g0 g1 g2
        obtain ⟨l0, e0, t0⟩ := open_terms g0
        obtain ⟨l1, e1, t1⟩ := open_terms g1
        obtain ⟨l2, e2, t2⟩ := open_terms g2
        have c0 := hcell 0 (by omega)
        have c1 := hcell 1 (by omega)
        have c2 := hcell 2 (by omega)
        rw [add_add] at c0 c1 c2
        simp at e0 e1 e2 c0 c1 c2
        subst e0 e1 e2
        exact ⟨⟨l0, l1, l2⟩, c0, c1, c2, t0, t1, t2⟩
    have : Inhabited Rw := ⟨⟨⟨none, 0, []⟩, ⟨none, 0, []⟩, ⟨none, 0, []⟩⟩⟩
    obtain ⟨R, hR⟩ := choose_lt g
    refine ⟨some a, cap, (List.range len).map R, by simp, ?_, ?_, ?_⟩
    · simp only [List.length_map, List.length_range, maxLen] at *; omega
    · intro x hx
      simp only [List.mem_map, List.mem_range] at hx
      obtain ⟨i, hi, rfl⟩ := hx
      exact (hR i hi).2.2.2
    · intro hne
      have h0 : 0 < len := by
        rcases Nat.eq_zero_or_pos len with e | e
        · subst e; simp at hne
        · exact e
      obtain ⟨hsp, hblt⟩ := spot_of (by have := (hR 0 h0).1; rw [Nat.zero_mul] at this; exact this)
      refine ⟨a.block, a.off, by cases a; simp_all, hblt, fun i x hxi => ?_⟩
      have hi : i < len := by
        have := (List.getElem?_eq_some_iff.1 hxi).1
        simpa using this
      simp only [List.getElem?_map, List.getElem?_range hi, Option.map_some, Option.some.injEq] at hxi
      subst hxi
      obtain ⟨c0, c1, c2, _⟩ := hR i hi
      rw [addr_of hsp] at c0 c1 c2
      exact ⟨c0, by rw [Nat.add_assoc]; exact c1, by rw [Nat.add_assoc]; exact c2⟩

theorem open_table_cells (h : DataW.trod enc Try.prog W 0 (fun _ => true) true fuel 25 cs = some x) :
    ∃ p pub vs u c rs, cs = [.int .u64 p, .int .i64 pub, .int .i64 vs, .slice u rs.length c] ∧ U p ∧ I pub ∧ I vs ∧ Rws W u rs := by
  obtain ⟨xs, k, _, _, hl, hxl, hf⟩ := DataW.trod_struct Try.underlying25 h
  rw [show Try.prog.cellsOf 25 = 4 from by kernel_rfl] at hl
  match xs, hxl, cs, hl with
  | [y0, y1, y2, y3], _, [v0, v1, v2, v3], _ =>
    have g0 := hf 0 _ rfl
    have g1 := hf 1 _ rfl
    have g2 := hf 2 _ rfl
    have g3 := hf 3 _ rfl
    simp [show Try.prog.cellsOf 22 = 1 from by kernel_rfl, show Try.prog.cellsOf 3 = 1 from by kernel_rfl, show Try.prog.cellsOf 23 = 1 from by kernel_rfl] at g0 g1 g2 g3
    obtain ⟨p, e0, t0⟩ := open_u64_cell Try.underlying22 g0
    obtain ⟨pub, e1, t1⟩ := open_i64_cell Try.underlying3 g1
    obtain ⟨vs, e2, t2⟩ := open_i64_cell Try.underlying3 g2
    obtain ⟨u, c, rs, e3, t3⟩ := open_rows g3
    simp at e0 e1 e2 e3
    subst e0 e1 e2 e3
    exact ⟨p, pub, vs, u, c, rs, rfl, t0, t1, t2, t3⟩
theorem open_params_cells (h : DataW.trod enc Try.prog W 0 (fun _ => true) true fuel 27 cs = some x) :
    ∃ b bl q, cs = [.int .i64 b, .int .i64 bl, .int .i64 q] ∧ I b ∧ I bl ∧ I q := by
  obtain ⟨xs, k, _, _, hl, hxl, hf⟩ := DataW.trod_struct Try.underlying27 h
  rw [show Try.prog.cellsOf 27 = 3 from by kernel_rfl] at hl
  match xs, hxl, cs, hl with
  | [y0, y1, y2], _, [v0, v1, v2], _ =>
    have g0 := hf 0 _ rfl
    have g1 := hf 1 _ rfl
    have g2 := hf 2 _ rfl
    simp [show Try.prog.cellsOf 3 = 1 from by kernel_rfl] at g0 g1 g2
    obtain ⟨b, e0, t0⟩ := open_i64_cell Try.underlying3 g0
    obtain ⟨bl, e1, t1⟩ := open_i64_cell Try.underlying3 g1
    obtain ⟨q, e2, t2⟩ := open_i64_cell Try.underlying3 g2
    simp at e0 e1 e2
    subst e0 e1 e2
    exact ⟨b, bl, q, rfl, t0, t1, t2⟩
theorem open_case_cells (h : DataW.trod enc Try.prog W 0 (fun _ => true) true fuel 45 cs = some x) :
    ∃ p pub vs u c rs b bl q uw l cw, cs = [.int .u64 p, .int .i64 pub, .int .i64 vs, .slice u rs.length c, .int .i64 b, .int .i64 bl, .int .i64 q, .slice uw l.length cw] ∧ U p ∧ I pub ∧ I vs ∧ Rws W u rs ∧ I b ∧ I bl ∧ I q ∧ Ls W uw l ∧ (uw = none → cw = 0) := by
  obtain ⟨xs, k, _, _, hl, hxl, hf⟩ := DataW.trod_struct Try.underlying45 h
  rw [show Try.prog.cellsOf 45 = 8 from by kernel_rfl] at hl
  match xs, hxl, cs, hl with
  | [y0, y1, y2], _, [v0, v1, v2, v3, v4, v5, v6, v7], _ =>
    have g0 := hf 0 _ rfl
    have g1 := hf 1 _ rfl
    have g2 := hf 2 _ rfl
    simp [show Try.prog.cellsOf 25 = 4 from by kernel_rfl, show Try.prog.cellsOf 27 = 3 from by kernel_rfl, show Try.prog.cellsOf 43 = 1 from by kernel_rfl] at g0 g1 g2
    obtain ⟨p, pub, vs, u, c, rs, e0, t0, t1, t2, t3⟩ := open_table_cells g0
    obtain ⟨b, bl, q, e1, t4, t5, t6⟩ := open_params_cells g1
    obtain ⟨uw, l, cw, e2, t7, t8⟩ := open_list_cells g2
    simp at e0 e1 e2
    obtain ⟨rfl, rfl, rfl, rfl⟩ := e0
    obtain ⟨rfl, rfl, rfl⟩ := e1
    subst e2
    exact ⟨p, pub, vs, u, c, rs, b, bl, q, uw, l, cw, rfl, t0, t1, t2, t3, t4, t5, t6, t7, t8⟩
theorem open_case {v : Value} {d : DataW H} {ps : List MemPlace} {base : Nat} (hv : Value.okWide Try.prog W .any base 45 v) (h : DataW.Trod enc Try.prog W 0 (fun _ => true) true 45 v d ps) :
    ∃ p pub vs u c rs b bl q uw l cw, v = .agg #[.int .u64 p, .int .i64 pub, .int .i64 vs, .slice u (rs : List Rw).length c, .int .i64 b, .int .i64 bl, .int .i64 q, .slice uw (l : List Int).length cw] ∧ (U p ∧ I pub ∧ I vs ∧ Rws W u rs ∧ I b ∧ I bl ∧ I q ∧ Ls W uw l ∧ (uw = none → cw = 0)) := by
  simp only [Value.okWide, Try.underlying45] at hv
  obtain ⟨cs, rfl, _⟩ := hv
  obtain ⟨fuel, h⟩ := h
  obtain ⟨p, pub, vs, u, c, rs, b, bl, q, uw, l, cw, e, hh⟩ := open_case_cells h
  refine ⟨p, pub, vs, u, c, rs, b, bl, q, uw, l, cw, ?_, hh⟩
  congr 1
  apply Array.toList_inj.1
  exact e
end
end Go.Proofs.Ytpkjlnelkacbgaa

/- Cases among a law's arguments: with what their lists' capacities say. -/
namespace Go.Proofs.Ytpkjlnelkacbgaa
open Go.ChangeShapes Go.WideShapes Go.ChangeAt Go.RowKit Go.Deep

set_option maxRecDepth 100000
section
variable {H : Type} {enc : TypeId × Value → H} {W : World} {fuel : Nat} {cs : List Value} {x : DataW H × List MemPlace}
theorem open_list_cells2 (h : DataW.trod enc Try.prog W 0 (fun _ => true) true fuel 43 cs = some x) : ∃ u l c, cs = [.slice u l.length c] ∧ Ls W u l ∧ (u = none → c = 0) ∧ l.length ≤ c := by
  rcases open_ints (k := .u64) Try.underlying43 Try.underlying22 (by kernel_rfl) h with ⟨hc, _⟩ | ⟨a, len, cap, zs, hc, _, hlen, hcap, hzs, _, hcell, hwf⟩
  · exact ⟨none, [], 0, hc, Ls.nil _ _, fun _ => rfl, Nat.le_refl _⟩
  · have hl : (zs.take len).length = len := by simp [hzs]; omega
    refine ⟨some a, zs.take len, cap, by rw [hl]; exact hc, ⟨?_, ?_, ?_⟩, (fun e => by cases e), by rw [hl]; exact hlen⟩
    · rw [hl]; simp only [maxLen] at hcap; omega
    · intro x hx
      have := hwf x (List.mem_of_mem_take hx)
      simp [Lit.wf, IntKind.max, IntKind.min, IntKind.signed, IntKind.bits] at this
      exact ⟨this.1, by omega⟩
    · intro hne
      have h0 : 0 < len := by
        rcases Nat.eq_zero_or_pos len with e | e
        · subst e; simp at hne
        · exact e
      have hz : zs.length = cap := by simpa using hzs
      obtain ⟨hsp, hblt⟩ := spot_of (hcell 0 (by omega))
      refine ⟨a.block, a.off, by cases a; simp_all, hblt, fun i x hx => ?_⟩
      have hi : i < len := by
        have := (List.getElem?_eq_some_iff.1 hx).1
        rw [hl] at this; exact this
      have hci := hcell i (by omega)
      rw [List.getElem?_take, if_pos hi] at hx
      rw [List.getD, hx, addr_of hsp] at hci
      exact hci

theorem open_case_cells2 (h : DataW.trod enc Try.prog W 0 (fun _ => true) true fuel 45 cs = some x) :
    ∃ p pub vs u c rs b bl q uw l cw, cs = [.int .u64 p, .int .i64 pub, .int .i64 vs, .slice u rs.length c, .int .i64 b, .int .i64 bl, .int .i64 q, .slice uw l.length cw] ∧ U p ∧ I pub ∧ I vs ∧ Rws W u rs ∧ I b ∧ I bl ∧ I q ∧ Ls W uw l ∧ (uw = none → cw = 0) ∧ l.length ≤ cw := by
  obtain ⟨xs, k, _, _, hl, hxl, hf⟩ := DataW.trod_struct Try.underlying45 h
  rw [show Try.prog.cellsOf 45 = 8 from by kernel_rfl] at hl
  match xs, hxl, cs, hl with
  | [y0, y1, y2], _, [v0, v1, v2, v3, v4, v5, v6, v7], _ =>
    have g0 := hf 0 _ rfl
    have g1 := hf 1 _ rfl
    have g2 := hf 2 _ rfl
    simp [show Try.prog.cellsOf 25 = 4 from by kernel_rfl, show Try.prog.cellsOf 27 = 3 from by kernel_rfl, show Try.prog.cellsOf 43 = 1 from by kernel_rfl] at g0 g1 g2
    obtain ⟨p, pub, vs, u, c, rs, e0, t0, t1, t2, t3⟩ := open_table_cells g0
    obtain ⟨b, bl, q, e1, t4, t5, t6⟩ := open_params_cells g1
    obtain ⟨uw, l, cw, e2, t7, t8⟩ := open_list_cells2 g2
    simp at e0 e1 e2
    obtain ⟨rfl, rfl, rfl, rfl⟩ := e0
    obtain ⟨rfl, rfl, rfl⟩ := e1
    subst e2
    exact ⟨p, pub, vs, u, c, rs, b, bl, q, uw, l, cw, rfl, t0, t1, t2, t3, t4, t5, t6, t7, t8⟩
theorem open_case2 {v : Value} {d : DataW H} {ps : List MemPlace} {base : Nat} (hv : Value.okWide Try.prog W .any base 45 v) (h : DataW.Trod enc Try.prog W 0 (fun _ => true) true 45 v d ps) :
    ∃ p pub vs u c rs b bl q uw l cw, v = .agg #[.int .u64 p, .int .i64 pub, .int .i64 vs, .slice u (rs : List Rw).length c, .int .i64 b, .int .i64 bl, .int .i64 q, .slice uw (l : List Int).length cw] ∧ (U p ∧ I pub ∧ I vs ∧ Rws W u rs ∧ I b ∧ I bl ∧ I q ∧ Ls W uw l ∧ (uw = none → cw = 0) ∧ l.length ≤ cw) := by
  simp only [Value.okWide, Try.underlying45] at hv
  obtain ⟨cs, rfl, _⟩ := hv
  obtain ⟨fuel, h⟩ := h
  obtain ⟨p, pub, vs, u, c, rs, b, bl, q, uw, l, cw, e, hh⟩ := open_case_cells2 h
  refine ⟨p, pub, vs, u, c, rs, b, bl, q, uw, l, cw, ?_, hh⟩
  congr 1
  apply Array.toList_inj.1
  exact e
end
end Go.Proofs.Ytpkjlnelkacbgaa

/- A Problem (a Case, places, numbers) among a law's arguments. -/
namespace Go.Proofs.Ytpkjlnelkacbgaa
open Go.ChangeShapes Go.WideShapes Go.ChangeAt Go.RowKit Go.Deep

set_option maxRecDepth 100000
/-- At u there lie these numbers of sixteen bits. -/
structure L16 (w : World) (u : Option Addr) (l : List Int) : Prop where
  small : (l.length : Int) ≤ 9223372036854775807
  all : ∀ x ∈ l, 0 ≤ x ∧ x ≤ 65535
  mem : l ≠ [] → ∃ b o, u = some ⟨b, o, none⟩ ∧ b < w.heap.size ∧ ∀ (i : Nat) x, l[i]? = some x → w.cell? ⟨b, o + i, none⟩ = some (.int .u16 x)
theorem L16.below {w w' : World} {u : Option Addr} {l : List Int} (h : L16 w u l) {B : Nat} (hB : w.heap.size ≤ B) (hb : Below B w w') : L16 w' u l :=
  ⟨h.small, h.all, fun hne => by
    obtain ⟨b, o, hu, hlt, hc⟩ := h.mem hne
    exact ⟨b, o, hu, Nat.lt_of_lt_of_le hlt hb.size, fun i x hx => by rw [hb.cell (p := ⟨b, o + i, none⟩) (Nat.lt_of_lt_of_le hlt hB)]; exact hc i x hx⟩⟩
theorem L16.at_ {w : World} {u : Option Addr} {l : List Int} (h : L16 w u l) {k : Nat} (hk : k < l.length) : ∃ b o x, u = some ⟨b, o, none⟩ ∧ l[k]? = some x ∧ b < w.heap.size ∧ w.cell? ⟨b, o + k, none⟩ = some (.int .u16 x) ∧ 0 ≤ x ∧ x ≤ 65535 := by
  have hne : l ≠ [] := fun e => by subst e; simp at hk
  obtain ⟨b, o, hu, hlt, hc⟩ := h.mem hne
  have hx : l[k]? = some l[k] := List.getElem?_eq_getElem hk
  exact ⟨b, o, l[k], hu, hx, hlt, hc k _ hx, h.all _ (List.getElem_mem hk)⟩

section
variable {H : Type} {enc : TypeId × Value → H} {W : World} {fuel : Nat} {cs : List Value} {x : DataW H × List MemPlace}
end
end Go.Proofs.Ytpkjlnelkacbgaa
