/- Messages with changed elements: what the changes come to, in plain lists. -/
import Derived.Test.YtpkjlnelkacbgaaHRig
namespace Go.Proofs.Ytpkjlnelkacbgaa
open Go.RowKit Go.Sort

def putK (B M : Nat) (x : Int) : Nat := x.toNat % (M * B)
def putS (p : Int) (B : Nat) (ls : List (List Int)) (nx : Int × Int) : List (List Int) :=
  if ls.length = 0 then ls else
    ls.set (putK B ls.length nx.1 / B) ((ls.getD (putK B ls.length nx.1 / B) []).set (putK B ls.length nx.1 % B) (((ls.getD (putK B ls.length nx.1 / B) []).getD (putK B ls.length nx.1 % B) 0 + nx.2 % p) % p))
def puts (p : Int) (B : Nat) (ls : List (List Int)) (zs : List (Int × Int)) : List (List Int) := zs.foldl (putS p B) ls
/-- Rows of B numbers below p. -/
structure Good (p : Int) (B M : Nat) (ls : List (List Int)) : Prop where
  len : ls.length = M
  row : ∀ l ∈ ls, l.length = B
  lt : ∀ l ∈ ls, ∀ x ∈ l, 0 ≤ x ∧ x < p
theorem putK_lt {B M : Nat} (hB : 1 ≤ B) (hM : 1 ≤ M) (x : Int) : putK B M x / B < M ∧ putK B M x % B < B := by
  have h : putK B M x < M * B := Nat.mod_lt _ (Nat.mul_pos hM hB)
  exact ⟨Nat.div_lt_of_lt_mul (by rw [Nat.mul_comm]; exact h), Nat.mod_lt _ hB⟩
theorem Good.put {p : Int} {B M : Nat} {ls : List (List Int)} (h : Good p B M ls) {i j : Nat} {l : List Int} {z : Int} (hl : ls[i]? = some l) (hz : 0 ≤ z ∧ z < p) : Good p B M (ls.set i (l.set j z)) := by
  have hm := List.mem_of_getElem? hl
  refine ⟨by rw [List.length_set]; exact h.len, fun l' hl' => ?_, fun l' hl' x hx => ?_⟩
  · rcases List.mem_or_eq_of_mem_set hl' with h1 | rfl
    · exact h.row l' h1
    · rw [List.length_set]; exact h.row l hm
  · rcases List.mem_or_eq_of_mem_set hl' with h1 | rfl
    · exact h.lt l' h1 x hx
    · rcases List.mem_or_eq_of_mem_set hx with h2 | rfl
      · exact h.lt l hm x h2
      · exact hz
theorem putS_at {p : Int} {B : Nat} {ls : List (List Int)} {x y v : Int} {l : List Int} {i j : Nat} (hM : ls.length ≠ 0) (hi : putK B ls.length x / B = i) (hj : putK B ls.length x % B = j) (hl : ls[i]? = some l) (hv : l[j]? = some v) :
    putS p B ls (x, y) = ls.set i (l.set j ((v + y % p) % p)) := by
  unfold putS
  rw [if_neg hM]
  simp only [hi, hj, List.getD, hl, hv, Option.getD_some]
theorem Good.putS {p : Int} {B M : Nat} {ls : List (List Int)} (hp : 0 < p) (hB : 1 ≤ B) (h : Good p B M ls) (nx : Int × Int) : Good p B M (putS p B ls nx) := by
  obtain ⟨x, y⟩ := nx
  by_cases h0 : ls.length = 0
  · unfold Go.Proofs.Ytpkjlnelkacbgaa.putS; rw [if_pos h0]; exact h
  · have hk := putK_lt hB (M := ls.length) (by omega) x
    have hl : ls[putK B ls.length x / B]? = some ls[putK B ls.length x / B] := List.getElem?_eq_getElem hk.1
    have hr := h.row _ (List.mem_of_getElem? hl)
    have hv : (ls[putK B ls.length x / B])[putK B ls.length x % B]? = some (ls[putK B ls.length x / B])[putK B ls.length x % B] := List.getElem?_eq_getElem (by rw [hr]; exact hk.2)
    rw [putS_at h0 rfl rfl hl hv]
    exact h.put hl ⟨Int.emod_nonneg _ (by omega), Int.emod_lt_of_pos _ hp⟩
theorem Good.puts {p : Int} {B M : Nat} (hp : 0 < p) (hB : 1 ≤ B) : ∀ (zs : List (Int × Int)) {ls : List (List Int)}, Good p B M ls → Good p B M (puts p B ls zs)
  | [], _, h => h
  | z :: zs, _, h => Good.puts hp hB zs (h.putS hp hB z)
theorem puts_next {p : Int} {B : Nat} {ls : List (List Int)} {zs : List (Int × Int)} {k : Nat} {z : Int × Int} (h : zs[k]? = some z) : Go.Proofs.Ytpkjlnelkacbgaa.puts p B ls (zs.take (k + 1)) = Go.Proofs.Ytpkjlnelkacbgaa.putS p B (Go.Proofs.Ytpkjlnelkacbgaa.puts p B ls (zs.take k)) z := by
  unfold Go.Proofs.Ytpkjlnelkacbgaa.puts; rw [List.take_add_one, h]; simp
theorem puts_none {p : Int} {B : Nat} {ls : List (List Int)} (h : ls.length = 0) : ∀ zs, Go.Proofs.Ytpkjlnelkacbgaa.puts p B ls zs = ls
  | [] => rfl
  | z :: zs => by
    have : Go.Proofs.Ytpkjlnelkacbgaa.putS p B ls z = ls := by unfold Go.Proofs.Ytpkjlnelkacbgaa.putS; rw [if_pos h]
    show Go.Proofs.Ytpkjlnelkacbgaa.puts p B (Go.Proofs.Ytpkjlnelkacbgaa.putS p B ls z) zs = ls
    rw [this]; exact puts_none h zs
theorem Good.U {p : Int} {B M : Nat} {ls : List (List Int)} (h : Good p B M ls) (hp : p ≤ 18446744073709551615) : ∀ l ∈ ls, ∀ x ∈ l, Go.Proofs.Ytpkjlnelkacbgaa.U x := fun l hl x hx => by
  have := h.lt l hl x hx
  exact ⟨by omega, by omega⟩

/-! ### the parts of a right case -/
theorem fadd_lt {p a b : Int} (hp : 0 < p) : 0 ≤ fadd p a b ∧ fadd p a b < p := by
  unfold fadd; split
  · exact ⟨Int.emod_nonneg _ (by omega), Int.emod_lt_of_pos _ hp⟩
  · omega
theorem foldl_lt {p : Int} {ws : List Int} (hp : 0 < p) : ∀ (l : List (Int × Int)) (acc : Int), 0 ≤ acc ∧ acc < p → 0 ≤ l.foldl (valS p ws) acc ∧ l.foldl (valS p ws) acc < p
  | [], acc, h => h
  | x :: l, acc, h => foldl_lt hp l _ (by
    unfold valS; split
    · exact fadd_lt hp
    · exact h)
theorem valL_lt {p : Int} {ws : List Int} {l : List (Int × Int)} (hp : 0 < p) : 0 ≤ valL p ws l ∧ valL p ws l < p := foldl_lt hp l 0 ⟨by omega, hp⟩
theorem vl_lt {p : Int} {ws : List Int} {R : List Rw} {k : Nat} (hp : 0 < p) : ∀ x ∈ vl p ws R k, 0 ≤ x ∧ x < p := by
  intro x hx
  simp only [vl, List.mem_map] at hx
  obtain ⟨r, _, rfl⟩ := hx
  exact valL_lt hp
theorem chunk_lt {p : Int} {b : Nat} {v : List Int} {k : Nat} (hp : 0 < p) (h : ∀ x ∈ v, 0 ≤ x ∧ x < p) : ∀ x ∈ chunk b v k, 0 ≤ x ∧ x < p := by
  intro x hx
  simp only [chunk, List.mem_map] at hx
  obtain ⟨j, _, rfl⟩ := hx
  rw [List.getD]
  cases hv : v[k * b + j]? with
  | none => exact ⟨Int.le_refl 0, hp⟩
  | some y => exact h y (List.mem_of_getElem? hv)
theorem cuts_good {p : Int} {b : Nat} {pf : Nat → Nat} {lf : Nat → List Int} (hp : 0 < p) (h : ∀ i, ∀ x ∈ lf i, 0 ≤ x ∧ x < p) : ∀ i, (∀ l ∈ cuts b pf lf i, l.length = b) ∧ ∀ l ∈ cuts b pf lf i, ∀ x ∈ l, 0 ≤ x ∧ x < p
  | 0 => by simp [cuts]
  | i + 1 => by
    have ih := cuts_good hp h (pf := pf) (b := b) i
    refine ⟨fun l hl => ?_, fun l hl => ?_⟩
    · rw [cuts] at hl
      rcases List.mem_append.1 hl with hl | hl
      · exact ih.1 l hl
      · simp only [cutL, List.mem_map] at hl
        obtain ⟨k, _, rfl⟩ := hl
        exact chunk_len _ _ _
    · rw [cuts] at hl
      rcases List.mem_append.1 hl with hl | hl
      · exact ih.2 l hl
      · simp only [cutL, List.mem_map] at hl
        obtain ⟨k, _, rfl⟩ := hl
        exact chunk_lt hp (h i)
def rPf (P0 P1 : Nat) (j : Nat) : Nat := if j = 0 then P0 else P1
def rLf (p : Int) (l : List Int) (rs : List Rw) (pb : Nat) (j : Nat) : List Int := if j = 0 then l.drop (1 + pb) else vl p l rs (j - 1)
def rCuts (p : Int) (l : List Int) (rs : List Rw) (pb B P0 P1 : Nat) : List (List Int) := cuts B (rPf P0 P1) (rLf p l rs pb) 4
theorem rCuts_good {p : Int} {l : List Int} {rs : List Rw} {pb B P0 P1 : Nat} (hp : 0 < p) (hl : ∀ x ∈ l, 0 ≤ x ∧ x < p) : Good p B (P0 + P1 + P1 + P1) (rCuts p l rs pb B P0 P1) := by
  have h := cuts_good (b := B) (pf := rPf P0 P1) (lf := rLf p l rs pb) hp (fun i => by
    unfold rLf; split
    · exact fun x hx => hl x (List.mem_of_mem_drop hx)
    · exact vl_lt hp) 4
  exact ⟨by simp [rCuts, cuts, cutL_len, rPf]; omega, h.1, h.2⟩
theorem right_lt {p pub vs b bl q : Int} {rs : List Rw} {l : List Int} {rows : Int} (h : rightB p pub vs b bl q rs l rows = true) (hU : ∀ x ∈ l, U x) : ∀ x ∈ l, 0 ≤ x ∧ x < p := by
  simp only [rightB, asgB, Bool.and_eq_true, List.all_eq_true, decide_eq_true_eq] at h
  intro x hx
  have := h.1.1.2.2 x hx
  have h2 := hU x hx
  unfold U at h2
  omega
end Go.Proofs.Ytpkjlnelkacbgaa
