/- moidorelaw29.right for every problem: it is not right, or it gives rows of numbers below P. -/
import Derived.Test.YtpkjlnelkacbgaaHRih
namespace Go.Proofs.Ytpkjlnelkacbgaa
open Go.RowKit Go.Sort

set_option maxRecDepth 100000
structure RightYes (p pub vs b bl q : Int) (rs : List Rw) (l : List Int) (pn pb B P0 P1 : Nat) (ls : List (List Int)) : Prop where
  hp : p = pn
  hpub : pub = pb
  hb : b = B
  vld : vld (pn : Int) = true
  p257 : pn ≤ 257
  b2 : 2 ≤ B
  b256 : B ≤ 256
  rows : rs.length ≤ 20
  vars : pb + 1 ≤ l.length
  len : (l.length : Int) = vs
  vs6 : vs ≤ 65536
  p07 : P0 ≤ 70000
  p17 : P1 ≤ 70000
  q0 : (vs - 1 - (pb : Int) + (B : Int) - 1) / (B : Int) = P0
  q1 : ((rs.length : Int) + (B : Int) - 1) / (B : Int) = P1
  good : Good (pn : Int) B (P0 + P1 + P1 + P1) ls
  right : rightB (pn : Int) (pb : Int) vs (B : Int) bl q rs l 20 = true
def probV (p pub vs : Int) (u : Option Addr) (m c : Nat) (b bl q : Int) (uw : Option Addr) (n cw : Nat) (up : Option Addr) (n' cp : Nat) (ub : Option Addr) (ny cb : Nat) : Value := .agg #[.int .u64 p, .int .i64 pub, .int .i64 vs, .slice u m c, .int .i64 b, .int .i64 bl, .int .i64 q, .slice uw n cw, .slice up n' cp, .slice ub ny cb]
theorem Mat.form2 {W w : World} {u2 : Option Addr} {M c2 : Nat} {bs : List Nat} {ls : List (List Int)} (h : Mat W w (.slice u2 M c2) bs ls) : (u2 = none ∧ c2 = 0) ∨ ∃ mb mo, u2 = some ⟨mb, mo, none⟩ := by
  obtain ⟨u, c, e, h1, h2, _⟩ := h.grown.form
  injection e with e1 e2 e3
  subst e1 e3
  cases u2 with
  | none => exact .inl ⟨rfl, (h1 rfl).2⟩
  | some a =>
    obtain ⟨G, rfl, _⟩ := h2 a rfl
    exact .inr ⟨G, 0, rfl⟩
theorem Mat.mt2 {W w : World} {u2 : Option Addr} {M c2 : Nat} {bs : List Nat} {ls : List (List Int)} {p : Int} {B N : Nat} (h : Mat W w (.slice u2 M c2) bs ls) (hg : Good p B N ls) (hN : N ≤ 1000000) (hB : B ≤ 1000000) : Mt w u2 ls :=
  (h.mt (by rw [hg.len]; omega) (fun l hl => by rw [hg.row l hl]; omega)).2
theorem up_sizes {n B P M : Nat} (hB : 1 ≤ B) (hM : n + B ≤ M) (h : ((n : Int) + (B : Int) - 1) / (B : Int) = P) : n ≤ P * B ∧ P * B ≤ M := by
  have h1 := Int.emod_add_mul_ediv ((n : Int) + (B : Int) - 1) (B : Int)
  have h2 := Int.emod_nonneg ((n : Int) + (B : Int) - 1) (show (B : Int) ≠ 0 by omega)
  have h3 := Int.emod_lt_of_pos ((n : Int) + (B : Int) - 1) (show 0 < (B : Int) by omega)
  rw [h] at h1
  have h4 : (B : Int) * (P : Int) = ((P * B : Nat) : Int) := by rw [Int.mul_comm]; simp
  rw [h4] at h1
  omega
theorem right_sizes {p pub vs b bl q : Int} {rs : List Rw} {l : List Int} {pn pb B P0 P1 S : Nat} {ls : List (List Int)} (hy : RightYes p pub vs b bl q rs l pn pb B P0 P1 ls) (hS : vs - 1 - (pb : Int) = S) : S ≤ P0 * B ∧ rs.length ≤ P1 * B ∧ P0 * B ≤ 70000 ∧ P1 * B ≤ 70000 := by
  have h0 := hy.q0
  rw [hS] at h0
  have := hy.b2
  have := hy.b256
  have := hy.vs6
  have := hy.rows
  have h1 := up_sizes (M := 70000) (by omega) (by omega) h0
  have h2 := up_sizes (M := 70000) (by omega) (by omega) hy.q1
  exact ⟨h1.1, h2.1, h1.2, h2.2⟩
end Go.Proofs.Ytpkjlnelkacbgaa
