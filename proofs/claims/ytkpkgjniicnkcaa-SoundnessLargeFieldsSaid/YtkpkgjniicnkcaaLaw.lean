/- From a law's walk to its row: how the arguments are opened, and the last step. -/
import Derived.Test.YtkpkgjniicnkcaaRows
import Derived.Test.YtkpkgjniicnkcaaConB
import Derived.ProofKit
import Derived.OpenShut
import Derived.Carry
namespace Go.Proofs.Ytkpkgjniicnkcaa
open Go.ChangeShapes Go.WideShapes Go.ChangeAt Go.RowKit

set_option maxRecDepth 100000
theorem own : ownKnob Try.prog.godebug = none := by kernel_rfl
theorem laidOut : laidOutB Try.prog = true := by kernel_rfl

section
variable {W : World} {base : Nat} {v : Value}
theorem open_u64 (h : Value.okWide Try.prog W .any base 23 v) : ∃ n, v = .int .u64 n ∧ U n := by
  simp only [Value.okWide, Try.underlying23, Cell.okWide] at h
  cases v <;> simp_all [Cell.ok]
  obtain ⟨rfl, h1, h2⟩ := h
  exact ⟨h1, by simp [IntKind.max, IntKind.signed, IntKind.bits] at h2; omega⟩
theorem open_u8 (h : Value.okWide Try.prog W .any base 5 v) : ∃ n, v = .int .u8 n ∧ 0 ≤ n ∧ n ≤ 255 := by
  simp only [Value.okWide, Try.underlying5, Cell.okWide] at h
  cases v <;> simp_all [Cell.ok]
  obtain ⟨rfl, h1, h2⟩ := h
  exact ⟨h1, by simp [IntKind.max, IntKind.signed, IntKind.bits] at h2; omega⟩
theorem open_int64 (h : Value.okWide Try.prog W .any base 3 v) : ∃ n, v = .int .i64 n ∧ -9223372036854775808 ≤ n ∧ n ≤ 9223372036854775807 := by
  simp only [Value.okWide, Try.underlying3, Cell.okWide] at h
  cases v <;> simp_all [Cell.ok]
  obtain ⟨rfl, h1, h2⟩ := h
  exact ⟨h1, h2⟩
theorem cell_u64 (h : Cell.okWide Try.prog W .any base 23 v) : ∃ n, v = .int .u64 n ∧ U n := open_u64 (by simpa only [Value.okWide, Try.underlying23] using h)
theorem cell_u8 (h : Cell.okWide Try.prog W .any base 5 v) : ∃ n, v = .int .u8 n ∧ 0 ≤ n ∧ n ≤ 255 := open_u8 (by simpa only [Value.okWide, Try.underlying5] using h)

theorem open_three (h : Value.okWide Try.prog W .any base 119 v) : ∃ a b c, v = .agg #[.int .u64 a, .int .u64 b, .int .u64 c] ∧ U a ∧ U b ∧ U c := by
  simp only [Value.okWide, Try.underlying119] at h
  obtain ⟨cs, rfl, hsz, ts, hts, _, hcell⟩ := h
  rw [show Try.prog.cellsOf 119 = 3 from by kernel_rfl] at hsz
  rw [show Try.prog.cellTypes Try.prog.depth 119 = some [23, 23, 23] from by kernel_rfl] at hts
  obtain rfl : [23, 23, 23] = ts := by injection hts
  have g : ∀ i, i < 3 → ∃ n, cs[i]? = some (.int .u64 n) ∧ U n := by
    intro i hi
    obtain ⟨u, hu, hc⟩ := hcell i cs[i] (by simp)
    have : u = 23 := by
      rcases i with _ | _ | _ | i
      · simpa using hu.symm
      · simpa using hu.symm
      · simpa using hu.symm
      · omega
    subst this
    obtain ⟨n, hn, hU⟩ := cell_u64 hc
    exact ⟨n, by rw [← hn]; simp, hU⟩
  obtain ⟨a, ha, hUa⟩ := g 0 (by omega)
  obtain ⟨b, hb, hUb⟩ := g 1 (by omega)
  obtain ⟨c, hc, hUc⟩ := g 2 (by omega)
  refine ⟨a, b, c, ?_, hUa, hUb, hUc⟩
  congr 1
  apply Array.ext_getElem?
  intro i
  rcases i with _ | _ | _ | i
  · simpa using ha
  · simpa using hb
  · simpa using hc
  · rw [Array.getElem?_eq_none (by omega), Array.getElem?_eq_none (by simp)]
end

section
variable {H : Type} {enc : TypeId × Value → H}
/-- The arguments read on as they did. -/
theorem args_on {W W' : World} (hb : Below W.heap.size W W') : ∀ (ts : List TypeId) (vs : List Value) (ds : List (DataW H)) (p : List MemPlace), (∀ t ∈ ts, Try.prog.readableRec t = true ∧ t < Try.prog.types.size) →
    DataW.TrodAll enc Try.prog W 0 (fun _ => true) true ts vs ds p → (∀ x ∈ p, x.block < W.heap.size) → DataW.TrodAll enc Try.prog W' 0 (fun b => decide (b < W.heap.size)) true ts vs ds p
  | [], vs, ds, p, _, h, _ => by
    obtain ⟨rfl, rfl, rfl⟩ := trodAll_nil h
    exact trodAll_mk0
  | t :: ts, vs, ds, p, hr, h, hlt => by
    obtain ⟨v, vs', d, ds', p1, p2, rfl, rfl, rfl, h1, h2⟩ := trodAll_cons h
    obtain ⟨r1, r2⟩ := hr t (by simp)
    exact trodAll_cons_mk (Below.trod laidOut r1 r2 h1 hb (fun x hx => hlt x (by simp [hx]))) (args_on hb ts vs' ds' p2 (fun t ht => hr t (by simp [ht])) h2 (fun x hx => hlt x (by simp [hx])))

/-- The last step of a law's row: it returned true, and of what was there nothing has turned. -/
theorem law_post {f : Func} {s : ChangeSpec} {W W' : World} {args : Array Value} {ds gs : List (DataW H)} {before : List MemPlace}
    (hread : ∀ t ∈ f.params.toList, Try.prog.readableRec t = true ∧ t < Try.prog.types.size) (hrt : f.resultTypes = #[4]) (hv : s.vars = [])
    (hW : DataW.Whole enc Try.prog f.params.toList s.vars false W args.toList ds gs before) (hs : s.fn H (ds ++ gs) = { results := [.lit (.bool true)], args := ds, vars := [] })
    (hb : Below W.heap.size W W') : s.post enc Try.prog f false true false false W args (.bool true) W' := by
  have hW' := hW
  obtain ⟨p, q, hA, hV, rfl, hfz, hnd⟩ := hW
  rw [hv] at hV
  obtain ⟨rfl, rfl⟩ := trodVars_none hV
  refine ⟨ds, [], p ++ [], [], p, [], hW', ?_, ?_, ?_, ?_, fun h => by cases h⟩
  · rw [hs, hrt]
    exact trodAll_cons_mk (shut_bool Try.underlying4 _) trodAll_mk0
  · rw [hs]
    exact args_on hb _ _ _ _ hread hA (fun x hx => hW'.lt x (by simp [hx]))
  · rw [hs, hv]; rfl
  · exact World.keptBut_mono (fun x hx => ⟨hx, .inr (.inl (by simpa using hx))⟩) (hb.frame (· ∈ p ++ []))
end
end Go.Proofs.Ytkpkgjniicnkcaa
