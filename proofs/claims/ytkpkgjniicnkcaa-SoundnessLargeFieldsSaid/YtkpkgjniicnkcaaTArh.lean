/- Cases among a law's arguments: with what their lists' capacities say. -/
import Derived.Test.YtkpkgjniicnkcaaTArg
namespace Go.Proofs.Ytkpkgjniicnkcaa
open Go.ChangeShapes Go.WideShapes Go.ChangeAt Go.RowKit Go.Deep

set_option maxRecDepth 100000
section
variable {H : Type} {enc : TypeId × Value → H} {W : World} {fuel : Nat} {cs : List Value} {x : DataW H × List MemPlace}
theorem open_list_cells2 (h : DataW.trod enc Try.prog W 0 (fun _ => true) true fuel 36 cs = some x) : ∃ u l c, cs = [.slice u l.length c] ∧ Ls W u l ∧ (u = none → c = 0) ∧ l.length ≤ c := by
  rcases open_ints (k := .u64) Try.underlying36 Try.underlying23 (by kernel_rfl) h with ⟨hc, _⟩ | ⟨a, len, cap, zs, hc, _, hlen, hcap, hzs, _, hcell, hwf⟩
  · exact ⟨none, [], 0, hc, Ls.nil _ _, fun _ => rfl, Nat.le_refl _⟩
  · have hl : (zs.take len).length = len := by simp [hzs]; omega
    refine ⟨some a, zs.take len, cap, by rw [hl]; exact hc, ⟨?_, ?_, ?_⟩, (fun e => by cases e), by rw [hl]; exact hlen⟩
    · rw [hl]; simp only [maxLen] at hcap; omega
    · intro x hx
      have := hwf x (List.mem_of_mem_take hx)
      simp [Lit.wf, IntKind.max, IntKind.min, IntKind.signed, IntKind.bits] at this
      exact ⟨this.1, by omega⟩
    · intro hne
      have h0 : 0 < len := by
        rcases Nat.eq_zero_or_pos len with e | e
        · subst e; simp at hne
        · exact e
      have hz : zs.length = cap := by simpa using hzs
      obtain ⟨hsp, hblt⟩ := spot_of (hcell 0 (by omega))
      refine ⟨a.block, a.off, by cases a; simp_all, hblt, fun i x hx => ?_⟩
      have hi : i < len := by
        have := (List.getElem?_eq_some_iff.1 hx).1
        rw [hl] at this; exact this
      have hci := hcell i (by omega)
      rw [List.getElem?_take, if_pos hi] at hx
      rw [List.getD, hx, addr_of hsp] at hci
      exact hci

theorem open_case_cells2 (h : DataW.trod enc Try.prog W 0 (fun _ => true) true fuel 38 cs = some x) :
    ∃ p pub vs u c rs b bl q uw l cw, cs = [.int .u64 p, .int .i64 pub, .int .i64 vs, .slice u rs.length c, .int .i64 b, .int .i64 bl, .int .i64 q, .slice uw l.length cw] ∧ U p ∧ I pub ∧ I vs ∧ Rws W u rs ∧ I b ∧ I bl ∧ I q ∧ Ls W uw l ∧ (uw = none → cw = 0) ∧ l.length ≤ cw := by
  obtain ⟨xs, k, _, _, hl, hxl, hf⟩ := DataW.trod_struct Try.underlying38 h
  rw [show Try.prog.cellsOf 38 = 8 from by kernel_rfl] at hl
  match xs, hxl, cs, hl with
  | [y0, y1, y2], _, [v0, v1, v2, v3, v4, v5, v6, v7], _ =>
    have g0 := hf 0 _ rfl
    have g1 := hf 1 _ rfl
    have g2 := hf 2 _ rfl
    simp [show Try.prog.cellsOf 33 = 4 from by kernel_rfl, show Try.prog.cellsOf 35 = 3 from by kernel_rfl, show Try.prog.cellsOf 36 = 1 from by kernel_rfl] at g0 g1 g2
    obtain ⟨p, pub, vs, u, c, rs, e0, t0, t1, t2, t3⟩ := open_table_cells g0
    obtain ⟨b, bl, q, e1, t4, t5, t6⟩ := open_params_cells g1
    obtain ⟨uw, l, cw, e2, t7, t8⟩ := open_list_cells2 g2
    simp at e0 e1 e2
    obtain ⟨rfl, rfl, rfl, rfl⟩ := e0
    obtain ⟨rfl, rfl, rfl⟩ := e1
    subst e2
    exact ⟨p, pub, vs, u, c, rs, b, bl, q, uw, l, cw, rfl, t0, t1, t2, t3, t4, t5, t6, t7, t8⟩
theorem open_case2 {v : Value} {d : DataW H} {ps : List MemPlace} {base : Nat} (hv : Value.okWide Try.prog W .any base 38 v) (h : DataW.Trod enc Try.prog W 0 (fun _ => true) true 38 v d ps) :
    ∃ p pub vs u c rs b bl q uw l cw, v = .agg #[.int .u64 p, .int .i64 pub, .int .i64 vs, .slice u (rs : List Rw).length c, .int .i64 b, .int .i64 bl, .int .i64 q, .slice uw (l : List Int).length cw] ∧ (U p ∧ I pub ∧ I vs ∧ Rws W u rs ∧ I b ∧ I bl ∧ I q ∧ Ls W uw l ∧ (uw = none → cw = 0) ∧ l.length ≤ cw) := by
  simp only [Value.okWide, Try.underlying38] at hv
  obtain ⟨cs, rfl, _⟩ := hv
  obtain ⟨fuel, h⟩ := h
  obtain ⟨p, pub, vs, u, c, rs, b, bl, q, uw, l, cw, e, hh⟩ := open_case_cells2 h
  refine ⟨p, pub, vs, u, c, rs, b, bl, q, uw, l, cw, ?_, hh⟩
  congr 1
  apply Array.toList_inj.1
  exact e
end
end Go.Proofs.Ytkpkgjniicnkcaa
