/- Lemmas of several texts in one file: Qua, Dii, Qup, Ele, Hor. -/
import Derived.Test.YtpkjlnelkacbgaaQH
/- soundness.quadPass: by Horner's rule, the last row first. -/
namespace Go.Proofs.Ytpkjlnelkacbgaa
open Go.RowKit Go.Sort

def horS (p beta : Int) (k : Nat) (row : List Int) (acc : Int) : Int := fmul p (fadd p acc (row.getD k 0)) beta
def hor (p beta : Int) (gs : List (List Int)) (k : Nat) : Int := gs.foldr (horS p beta k) 0
theorem hor_U {p beta : Int} {gs : List (List Int)} {k : Nat} : U (hor p beta gs k) := by
  cases gs with
  | nil => show U 0; exact ⟨by decide, by decide⟩
  | cons g gs => exact fmul_U
def quadB (p beta : Int) (gs : List (List Int)) (b : Nat) : Bool := (List.range b).all fun k => hor p beta gs k == 0
theorem range_drop_next {b k : Nat} (h : k < b) : (List.range b).drop k = k :: (List.range b).drop (k + 1) :=
  drop_cons (List.getElem?_range h)

end Go.Proofs.Ytpkjlnelkacbgaa

/- soundness.differences: whatever there is. -/
namespace Go.Proofs.Ytpkjlnelkacbgaa
open Go.RowKit Go.Sort

def gaps (p : Int) (ls : List (List Int)) (p0 P b : Nat) : List (List Int) := (List.range P).map (gapL p ls p0 P b)
theorem gaps_len (p : Int) (ls : List (List Int)) (p0 P b : Nat) : (gaps p ls p0 P b).length = P := by simp [gaps]
theorem gaps_rows (p : Int) (ls : List (List Int)) (p0 P b : Nat) : ∀ l ∈ gaps p ls p0 P b, l.length = b := by
  intro l hl
  simp only [gaps, List.mem_map] at hl
  obtain ⟨j, _, rfl⟩ := hl
  exact gapL_len _ _ _ _ _ _
theorem gapL_U (p : Int) (ls : List (List Int)) (p0 P b j : Nat) : ∀ x ∈ gapL p ls p0 P b j, U x := by
  intro x hx
  simp only [gapL, List.mem_map] at hx
  obtain ⟨k, _, rfl⟩ := hx
  exact fsub_U
theorem Gap.mt {W w : World} {G P b : Nat} {p : Int} {ls : List (List Int)} {p0 : Nat} {h : Nat → Nat} (hg : Gap W w G P b (gapL p ls p0 P b) P h) (hP : P ≤ 70000) (hb : b ≤ 256) : Mt w (some ⟨G, 0, none⟩) (gaps p ls p0 P b) := by
  refine ⟨by rw [gaps_len]; omega, fun _ => ⟨G, 0, rfl, hg.row.lt, fun i l hl => ?_⟩⟩
  have hi : i < P := by
    have := (List.getElem?_eq_some_iff.1 hl).1
    rw [gaps_len] at this; exact this
  have hl2 : l = gapL p ls p0 P b i := by
    simp only [gaps, List.getElem?_map, List.getElem?_range hi, Option.map_some, Option.some.injEq] at hl
    exact hl.symm
  subst hl2
  have hc := hg.row.cell hi
  rw [if_pos hi] at hc
  refine ⟨some ⟨h i, 0, none⟩, b, by rw [Nat.zero_add, gapL_len]; exact hc, ?_⟩
  exact Ls.row (hg.own i hi).2 (by rw [gapL_len]; exact Nat.le_refl _) (by rw [gapL_len]; omega) (gapL_U _ _ _ _ _ _)

def GivesGaps (P : Nat) (gs : List (List Int)) (w : World) (e : Ending) (w' : World) : Prop := ∃ G, e = .returned (.slice (some ⟨G, 0, none⟩) P P) ∧ Below w.heap.size w w' ∧ Mt w' (some ⟨G, 0, none⟩) gs
end Go.Proofs.Ytpkjlnelkacbgaa

/- soundness.QuadPasses. -/
namespace Go.Proofs.Ytpkjlnelkacbgaa
open Go.RowKit Go.Sort

def quadN (p : Int) (gs : List (List Int)) (b n : Nat) : Nat := ((List.range n).filter fun beta : Nat => quadB p (beta : Int) gs b).length
theorem quadN_next (p : Int) (gs : List (List Int)) (b n : Nat) : quadN p gs b (n + 1) = quadN p gs b n + if quadB p (n : Int) gs b = true then 1 else 0 := by
  unfold quadN
  rw [List.range_succ, List.filter_append, List.length_append]
  by_cases h : quadB p (n : Int) gs b = true <;> simp [h]
theorem quadN_le (p : Int) (gs : List (List Int)) (b n : Nat) : quadN p gs b n ≤ n := by
  unfold quadN
  exact Nat.le_trans (List.length_filter_le _ _) (by simp)

end Go.Proofs.Ytpkjlnelkacbgaa

/- The reference's Element: the i-th number of a vector, out of the rows. -/
namespace Go.Proofs.Ytpkjlnelkacbgaa
open Go.RowKit Go.Sort

/-- The rows ahead of a vector. -/
def ahead (p0 p1 p2 : Nat) (v : Nat) : Nat := if v = 0 then 0 else if v = 1 then p0 else if v = 2 then p0 + p1 else p0 + p1 + p2
def eleV (ls : List (List Int)) (b p0 p1 p2 v i : Nat) : Int := (ls.getD (ahead p0 p1 p2 v + i / b) []).getD (i % b) 0

end Go.Proofs.Ytpkjlnelkacbgaa

/- The plain law of the quadratic test: the sum of powers is Horner's. -/
namespace Go.Proofs.Ytpkjlnelkacbgaa

def hx (beta : Int) (k : Nat) : List (List Int) → Int
  | [] => 0
  | g :: gs => g.getD k 0 + beta * hx beta k gs
/-- As the reference reckons it: the first row first. -/
def refF (p beta : Int) (k : Nat) : List (List Int) → Int → Int → Int
  | [], s, _ => s
  | g :: gs, s, pw => refF p beta k gs (fadd p s (fmul p pw (g.getD k 0))) (fmul p pw beta)
theorem hor_eq {p : Int} (hv : vld p = true) (beta : Int) (k : Nat) : ∀ gs, hor p beta gs k = (beta * hx beta k gs) % p
  | [] => by simp [hor, hx]
  | g :: gs => by
    have ih := hor_eq hv beta k gs
    have e : hor p beta (g :: gs) k = fmul p (fadd p (hor p beta gs k) (g.getD k 0)) beta := rfl
    rw [e, ih, fmul, if_pos hv, fadd, if_pos hv, hx]
    rw [Int.emod_add_emod, Int.mul_emod, Int.emod_emod, ← Int.mul_emod]
    congr 1
    rw [Int.mul_comm beta, Int.add_comm, Int.mul_comm beta]
theorem refF_eq {p : Int} (hv : vld p = true) (beta : Int) (k : Nat) : ∀ (gs : List (List Int)) (s pw : Int), s % p = s → refF p beta k gs s pw = (s + pw * hx beta k gs) % p
  | [], s, pw, h => by simp [refF, hx, h]
  | g :: gs, s, pw, h => by
    rw [refF, refF_eq hv beta k gs _ _ (by rw [fadd, if_pos hv, Int.emod_emod]), fadd, if_pos hv, fmul, if_pos hv, fmul, if_pos hv, hx]
    rw [Int.add_emod_emod, Int.emod_add_emod]
    rw [Int.add_emod, Int.mul_emod, Int.emod_emod, ← Int.mul_emod, ← Int.add_emod]
    congr 1
    rw [Int.mul_add, Int.mul_assoc, Int.add_assoc]
/-- The test's two readings agree. -/
theorem ref_hor {p : Int} (hv : vld p = true) (beta : Int) (gs : List (List Int)) (k : Nat) : refF p beta k gs 0 beta = hor p beta gs k := by
  rw [refF_eq hv beta k gs 0 beta (by simp), hor_eq hv, Int.zero_add]
end Go.Proofs.Ytpkjlnelkacbgaa
