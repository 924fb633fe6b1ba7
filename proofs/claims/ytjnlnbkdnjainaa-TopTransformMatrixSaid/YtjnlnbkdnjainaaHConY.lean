/- The contracts of powers in packages extension and moidoreref02. -/
import Derived.Test.YtjnlnbkdnjainaaHConX
namespace Go.Proofs.Ytjnlnbkdnjainaa
open Go.RowKit

theorem xmul_valid {p : Int} (h : vld p = true) (a b : Int × Int) : xmul p a b = pmul p (gen p) a b := by
  unfold xmul pmul fadd fmul
  simp only [h, if_true]
  congr 1
  · rw [em_add_l, em_add_r, ← em_add_r (a.1 * b.1), em_mul_r, em_add_r]
  · rw [em_add_l, em_add_r]
theorem xmul_not {p : Int} (h : vld p = false) (a b : Int × Int) : xmul p a b = (0, 0) := by
  simp [xmul, fadd, h]
/-- The power. -/
def xpow (p : Int) (a : Int × Int) (e : Nat) : Int × Int := if vld p then ppow p (gen p) a e else (0, 0)

/-- What the loop has made so far, and what is still to come. -/
def PowSo (p : Int) (a R A : Int × Int) (e E : Nat) : Prop := if vld p then pmul p (gen p) R (ppow p (gen p) A E) = ppow p (gen p) a e ∧ pred p R = R else R = (0, 0)
theorem powSo_start {p : Int} (a : Int × Int) (e : Nat) : PowSo p a (fred p 1, 0) a e e := by
  unfold PowSo
  split
  · rename_i h
    have e1 : (fred p 1, (0 : Int)) = pone p := by simp [fred, h, pone]
    rw [e1]
    exact ⟨by rw [pmul_comm, pmul_one, pred_ppow], pred_pone p⟩
  · rename_i h; simp [fred, h]
theorem powSo_odd {p : Int} {a R A : Int × Int} {e E : Nat} (h : PowSo p a R A e E) (ho : E % 2 = 1) : PowSo p a (xmul p R A) (xmul p A A) e (E / 2) := by
  unfold PowSo at *
  split
  · rename_i hv
    rw [if_pos hv] at h
    rw [xmul_valid hv, xmul_valid hv]
    exact ⟨pp_odd h.1 ho, pred_pmul p _ _ _⟩
  · rename_i hv; rw [xmul_not (by simpa using hv)]
theorem powSo_even {p : Int} {a R A : Int × Int} {e E : Nat} (h : PowSo p a R A e E) (ho : E % 2 = 0) : PowSo p a R (xmul p A A) e (E / 2) := by
  unfold PowSo at *
  split
  · rename_i hv
    rw [if_pos hv] at h
    rw [xmul_valid hv]
    exact ⟨pp_even h.1 ho, h.2⟩
  · rename_i hv; rw [if_neg hv] at h; exact h
theorem powSo_end {p : Int} {a R A : Int × Int} {e : Nat} (h : PowSo p a R A e 0) : R = xpow p a e := by
  unfold PowSo at h
  unfold xpow
  split
  · rename_i hv
    rw [if_pos hv] at h
    obtain ⟨h1, h2⟩ := h
    rw [ppow, pmul_one, h2] at h1
    exact h1
  · rename_i hv; rw [if_neg hv] at h; exact h
theorem xpow_U {p : Int} {a : Int × Int} {e : Nat} : U2 (xpow p a e) := by
  unfold xpow
  split
  · rename_i h
    have hp := vld_pos h
    rw [← pred_ppow]
    obtain ⟨u0, u1⟩ := emod_U (a := (ppow p (gen p) a e).1) h
    obtain ⟨v0, v1⟩ := emod_U (a := (ppow p (gen p) a e).2) h
    exact ⟨⟨u0, by show _ % p < _; omega⟩, ⟨v0, by show _ % p < _; omega⟩⟩
  · exact ⟨⟨by omega, by omega⟩, ⟨by omega, by omega⟩⟩

/-- The loop's relation: the blocks of the field, the base, the result's variable, the result so far. -/
structure PowRel (p : Int) (a : Int × Int) (e : Nat) (w : World) (b b' b2 b3 : Nat) (E : Nat) (A R : Int × Int) (wr : World) : Prop where
  uA : U2 A
  uR : U2 R
  so : PowSo p a R A e E
  big : BigB E
  below : Below w.heap.size w wr
  cf : Cell1 wr b p
  ca : Cell2 wr b' A.1 A.2
  c2 : Cell2 wr b2 0 0
  cr : Cell2 wr b3 R.1 R.2

end Go.Proofs.Ytjnlnbkdnjainaa
