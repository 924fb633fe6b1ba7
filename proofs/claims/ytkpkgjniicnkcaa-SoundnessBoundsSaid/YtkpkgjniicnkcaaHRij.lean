/- moidorelaw29.right for every problem: it is not right, or it gives rows of numbers below P. -/
import Derived.Test.YtkpkgjniicnkcaaHRih
namespace Go.Proofs.Ytkpkgjniicnkcaa
open Go.RowKit Go.Sort

set_option maxRecDepth 100000
structure RightYes (p pub vs b bl q : Int) (rs : List Rw) (l : List Int) (pn pb B P0 P1 : Nat) (ls : List (List Int)) : Prop where
  hp : p = pn
  hpub : pub = pb
  hb : b = B
  vld : vld (pn : Int) = true
  p257 : pn ≤ 257
  b2 : 2 ≤ B
  b256 : B ≤ 256
  rows : rs.length ≤ 20
  vars : pb + 1 ≤ l.length
  len : (l.length : Int) = vs
  vs6 : vs ≤ 65536
  p07 : P0 ≤ 70000
  p17 : P1 ≤ 70000
  q0 : (vs - 1 - (pb : Int) + (B : Int) - 1) / (B : Int) = P0
  q1 : ((rs.length : Int) + (B : Int) - 1) / (B : Int) = P1
  good : Good (pn : Int) B (P0 + P1 + P1 + P1) ls
  right : rightB (pn : Int) (pb : Int) vs (B : Int) bl q rs l 20 = true
def probV (p pub vs : Int) (u : Option Addr) (m c : Nat) (b bl q : Int) (uw : Option Addr) (n cw : Nat) (up : Option Addr) (n' cp : Nat) (ub : Option Addr) (ny cb : Nat) : Value := .agg #[.int .u64 p, .int .i64 pub, .int .i64 vs, .slice u m c, .int .i64 b, .int .i64 bl, .int .i64 q, .slice uw n cw, .slice up n' cp, .slice ub ny cb]
theorem right29_all (p pub vs : Int) (u : Option Addr) (c : Nat) (rs : List Rw) (b bl q : Int) (uw : Option Addr) (l : List Int) (cw : Nat) (up : Option Addr) (pl : List Int) (cp : Nat) (ub : Option Addr) (by' : List Int) (cb : Nat) (w : World)
    (hR : Rws w u rs) (hL : Ls w uw l) (hP : L16 w up pl) (hY : Ls w ub by') (hcw : l.length ≤ cw) :
    (∃ a0 a1 a2 a3 a4 a5 a6 a7 a8 a9 a10 : Int, ∀ w', Below w.heap.size w w' → Calls Try.prog 21 #[.agg #[.int .u64 p, .int .i64 pub, .int .i64 vs, .slice u rs.length c, .int .i64 b, .int .i64 bl, .int .i64 q, .slice uw l.length cw, .slice up pl.length cp, .slice ub by'.length cb]] w'
      (Gives (.tuple #[.agg #[.int .u64 a0, .int .i64 a1, .int .i64 a2, .int .i64 a3, .int .i64 a4, .int .i64 a5, .int .i64 a6, .int .i64 a7, .int .i64 a8, .int .i64 a9, .int .i64 a10], .slice none 0 0, .slice none 0 0, .bool false]) w')) ∨
    (∃ (pn pb B P0 P1 : Nat) (NN : Int) (ls : List (List Int)), RightYes p pub vs b bl q rs l pn pb B P0 P1 ls ∧ ∀ w', Below w.heap.size w w' → Calls Try.prog 21 #[.agg #[.int .u64 p, .int .i64 pub, .int .i64 vs, .slice u rs.length c, .int .i64 b, .int .i64 bl, .int .i64 q, .slice uw l.length cw, .slice up pl.length cp, .slice ub by'.length cb]] w'
      (GivesRight (.agg #[.int .u64 (pn : Int), .int .i64 (B : Int), .int .i64 q, .int .i64 ((B : Int) + q), .int .i64 NN, .int .i64 (vs - 1 - (pb : Int)), .int .i64 rs.length, .int .i64 (P0 : Nat), .int .i64 (P1 : Nat), .int .i64 (P1 : Nat), .int .i64 (P1 : Nat)]) ls ((l.drop 1).take pb) w')) := by
  cases hn : rightOk p pub vs b bl q rs l pl
  · left
    have key : ∃ a0 a1 a2 a3 a4 a5 a6 a7 a8 a9 a10 : Int, rightV p pub vs b bl q rs l 20 = .agg #[.int .u64 a0, .int .i64 a1, .int .i64 a2, .int .i64 a3, .int .i64 a4, .int .i64 a5, .int .i64 a6, .int .i64 a7, .int .i64 a8, .int .i64 a9, .int .i64 a10] := by
      unfold rightV layV lay0
      split
      · exact ⟨_, _, _, _, _, _, _, _, _, _, _, rfl⟩
      · exact ⟨_, _, _, _, _, _, _, _, _, _, _, rfl⟩
    obtain ⟨a0, a1, a2, a3, a4, a5, a6, a7, a8, a9, a10, ha⟩ := key
    refine ⟨a0, a1, a2, a3, a4, a5, a6, a7, a8, a9, a10, fun w' hw => ?_⟩
    rw [← ha]
    exact right29_no p pub vs u c rs b bl q uw l cw up pl cp ub by' cb w' (hR.below (Nat.le_refl _) hw) (hL.below (Nat.le_refl _) hw) (hP.below (Nat.le_refl _) hw) hn
  · right
    simp only [rightOk, Bool.and_eq_true, decide_eq_true_eq] at hn
    obtain ⟨⟨hr, hp⟩, hpl⟩ := hn
    obtain ⟨f1, f2, f3, f4, f5, f6, f7, f8, f9, f10, f11, f12, f13, _⟩ := right_facts hr
    have hv := vld_pos f11
    obtain ⟨pn, rfl⟩ : ∃ B : Nat, p = B := ⟨p.toNat, by omega⟩
    obtain ⟨B, rfl⟩ : ∃ B : Nat, b = B := ⟨b.toNat, by omega⟩
    obtain ⟨pb, rfl⟩ : ∃ B : Nat, pub = B := ⟨pub.toNat, by omega⟩
    have hq0 : 0 ≤ (vs - 1 - (pb : Int) + (B : Int) - 1) / (B : Int) ∧ (vs - 1 - (pb : Int) + (B : Int) - 1) / (B : Int) ≤ 70000 := ⟨Int.ediv_nonneg (by omega) (by omega), Int.le_trans (Int.ediv_le_self _ (by omega)) (by omega)⟩
    have hq1 : 0 ≤ ((rs.length : Int) + (B : Int) - 1) / (B : Int) ∧ ((rs.length : Int) + (B : Int) - 1) / (B : Int) ≤ 70000 := ⟨Int.ediv_nonneg (by omega) (by omega), Int.le_trans (Int.ediv_le_self _ (by omega)) (by omega)⟩
    obtain ⟨P0, hP0⟩ : ∃ P : Nat, (vs - 1 - (pb : Int) + (B : Int) - 1) / (B : Int) = P := ⟨_, (Int.toNat_of_nonneg hq0.1).symm⟩
    obtain ⟨P1, hP1⟩ : ∃ P : Nat, ((rs.length : Int) + (B : Int) - 1) / (B : Int) = P := ⟨_, (Int.toNat_of_nonneg hq1.1).symm⟩
    have hgood := (rCuts_good (p := (pn : Int)) (l := l) (rs := rs) (pb := pb) (B := B) (P0 := P0) (P1 := P1) (by omega) (right_lt hr hL.all)).puts (by omega) (by omega) (pl.zip by')
    refine ⟨pn, pb, B, P0, P1, newN (B : Int) bl q, puts (pn : Int) B (rCuts (pn : Int) l rs pb B P0 P1) (pl.zip by'), ⟨rfl, rfl, rfl, f11, by omega, by omega, by omega, by omega, by omega, f12, f10, by omega, by omega, hP0, hP1, hgood, hr⟩, fun w' hw => ?_⟩
    have := right29_yes (pn : Int) vs pb B P0 P1 u c rs bl q uw l cw up pl cp ub by' cb w' (hR.below (Nat.le_refl _) hw) (hL.below (Nat.le_refl _) hw) (hP.below (Nat.le_refl _) hw) (hY.below (Nat.le_refl _) hw) hcw hr hp hpl hP0 hP1
    unfold layV at this
    rw [hP0, hP1] at this
    exact this
theorem Mat.form2 {W w : World} {u2 : Option Addr} {M c2 : Nat} {bs : List Nat} {ls : List (List Int)} (h : Mat W w (.slice u2 M c2) bs ls) : (u2 = none ∧ c2 = 0) ∨ ∃ mb mo, u2 = some ⟨mb, mo, none⟩ := by
  obtain ⟨u, c, e, h1, h2, _⟩ := h.grown.form
  injection e with e1 e2 e3
  subst e1 e3
  cases u2 with
  | none => exact .inl ⟨rfl, (h1 rfl).2⟩
  | some a =>
    obtain ⟨G, rfl, _⟩ := h2 a rfl
    exact .inr ⟨G, 0, rfl⟩
theorem Mat.mt2 {W w : World} {u2 : Option Addr} {M c2 : Nat} {bs : List Nat} {ls : List (List Int)} {p : Int} {B N : Nat} (h : Mat W w (.slice u2 M c2) bs ls) (hg : Good p B N ls) (hN : N ≤ 1000000) (hB : B ≤ 1000000) : Mt w u2 ls :=
  (h.mt (by rw [hg.len]; omega) (fun l hl => by rw [hg.row l hl]; omega)).2
theorem up_sizes {n B P M : Nat} (hB : 1 ≤ B) (hM : n + B ≤ M) (h : ((n : Int) + (B : Int) - 1) / (B : Int) = P) : n ≤ P * B ∧ P * B ≤ M := by
  have h1 := Int.emod_add_mul_ediv ((n : Int) + (B : Int) - 1) (B : Int)
  have h2 := Int.emod_nonneg ((n : Int) + (B : Int) - 1) (show (B : Int) ≠ 0 by omega)
  have h3 := Int.emod_lt_of_pos ((n : Int) + (B : Int) - 1) (show 0 < (B : Int) by omega)
  rw [h] at h1
  have h4 : (B : Int) * (P : Int) = ((P * B : Nat) : Int) := by rw [Int.mul_comm]; simp
  rw [h4] at h1
  omega
theorem right_sizes {p pub vs b bl q : Int} {rs : List Rw} {l : List Int} {pn pb B P0 P1 S : Nat} {ls : List (List Int)} (hy : RightYes p pub vs b bl q rs l pn pb B P0 P1 ls) (hS : vs - 1 - (pb : Int) = S) : S ≤ P0 * B ∧ rs.length ≤ P1 * B ∧ P0 * B ≤ 70000 ∧ P1 * B ≤ 70000 := by
  have h0 := hy.q0
  rw [hS] at h0
  have := hy.b2
  have := hy.b256
  have := hy.vs6
  have := hy.rows
  have h1 := up_sizes (M := 70000) (by omega) (by omega) h0
  have h2 := up_sizes (M := 70000) (by omega) (by omega) hy.q1
  exact ⟨h1.1, h2.1, h1.2, h2.2⟩
end Go.Proofs.Ytkpkgjniicnkcaa
