/- soundness.linear. -/
import Derived.Test.YtpkjlnelkacbgaaHQfr
import Derived.Test.YtpkjlnelkacbgaaHLct
import Derived.Test.YtpkjlnelkacbgaaQE
namespace Go.Proofs.Ytpkjlnelkacbgaa
open Go.RowKit Go.Sort

set_option maxRecDepth 100000
@[go_sem] theorem iidx_0 (x y z t : Value) (w : World) : (Instr.index 30 (.agg #[x, y, z, t]) (.int .i64 0)).run Try.prog w = .ok x w := by kernel_rfl
@[go_sem] theorem iidx_1 (x y z t : Value) (w : World) : (Instr.index 30 (.agg #[x, y, z, t]) (.int .i64 1)).run Try.prog w = .ok y w := by kernel_rfl
@[go_sem] theorem iidx_2 (x y z t : Value) (w : World) : (Instr.index 30 (.agg #[x, y, z, t]) (.int .i64 2)).run Try.prog w = .ok z w := by kernel_rfl
@[go_sem] theorem iidx_3 (x y z t : Value) (w : World) : (Instr.index 30 (.agg #[x, y, z, t]) (.int .i64 3)).run Try.prog w = .ok t w := by kernel_rfl
def pfs (P0 P : Nat) (i : Nat) : Nat := if i = 0 then P0 else P
theorem iidx_c (i : Nat) (hi : i < 4) (P0 P : Nat) (w : World) : (Instr.index 30 (.agg #[.int .i64 (P0 : Nat), .int .i64 (P : Nat), .int .i64 (P : Nat), .int .i64 (P : Nat)]) (.int .i64 (i : Int))).run Try.prog w = .ok (.int .i64 ((pfs P0 P i : Nat) : Int)) w := by
  match i, hi with
  | 0, _ => exact iidx_0 _ _ _ _ _
  | 1, _ => exact iidx_1 _ _ _ _ _
  | 2, _ => exact iidx_2 _ _ _ _ _
  | 3, _ => exact iidx_3 _ _ _ _ _
def ah (P0 P : Nat) : Nat → Nat
  | 0 => 0
  | i + 1 => ah P0 P i + pfs P0 P i
def rowsOf (ls : List (List Int)) (a j : Nat) : List Int := ((ls.drop a).take j).flatten
def vecs (ls : List (List Int)) (P0 P i j k : Nat) : List Int := if k < i then rowsOf ls (ah P0 P k) (pfs P0 P k) else if k = i then rowsOf ls (ah P0 P i) j else []
theorem rowsOf_next {ls : List (List Int)} {a j : Nat} {l : List Int} (h : (ls.drop a)[j]? = some l) : rowsOf ls a (j + 1) = rowsOf ls a j ++ l := by
  unfold rowsOf; rw [List.take_add_one, h]; simp
theorem rowsOf_len {ls : List (List Int)} {B : Nat} (h : ∀ l ∈ ls, l.length = B) (a : Nat) : ∀ j, a + j ≤ ls.length → (rowsOf ls a j).length = j * B
  | 0, _ => by simp [rowsOf]
  | j + 1, hj => by
    have hx : (ls.drop a)[j]? = some ls[a + j] := by rw [List.getElem?_drop]; exact List.getElem?_eq_getElem (by omega)
    rw [rowsOf_next hx, List.length_append, rowsOf_len h a j (by omega), h _ (List.getElem_mem _), Nat.add_mul, Nat.one_mul]
theorem rowsOf_at {ls : List (List Int)} {B : Nat} (hB : 1 ≤ B) (h : ∀ l ∈ ls, l.length = B) (a : Nat) : ∀ j, a + j ≤ ls.length → ∀ i, i < j * B → (rowsOf ls a j).getD i 0 = (ls.getD (a + i / B) []).getD (i % B) 0
  | 0, _, i, hi => by omega
  | j + 1, hj, i, hi => by
    have hx : (ls.drop a)[j]? = some ls[a + j] := by rw [List.getElem?_drop]; exact List.getElem?_eq_getElem (by omega)
    have hl := rowsOf_len h a j (by omega)
    rw [rowsOf_next hx]
    by_cases hij : i < j * B
    · rw [List.getD, List.getElem?_append_left (by rw [hl]; exact hij), ← List.getD]; exact rowsOf_at hB h a j (by omega) i hij
    · rw [Nat.add_mul, Nat.one_mul] at hi
      have hd : i / B = j := Nat.div_eq_of_lt_le (by omega) (by rw [Nat.add_mul]; omega)
      have hm : i % B = i - j * B := by
        have := Nat.div_add_mod i B
        rw [hd, Nat.mul_comm] at this; omega
      have hx2 : ls[a + j]? = some ls[a + j] := List.getElem?_eq_getElem (by omega)
      rw [List.getD, List.getElem?_append_right (by rw [hl]; omega), hl, hd, hm, List.getD, List.getD, hx2]; rfl
theorem rowsOf_U {ls : List (List Int)} (h : ∀ l ∈ ls, ∀ x ∈ l, U x) (a j : Nat) : ∀ x ∈ rowsOf ls a j, U x := by
  intro x hx
  simp only [rowsOf, List.mem_flatten] at hx
  obtain ⟨l, hl, hx⟩ := hx
  exact h l (List.mem_of_mem_drop (List.mem_of_mem_take hl)) x hx
theorem Mt.drop {w : World} {b o : Nat} {ls : List (List Int)} (h : Mt w (some ⟨b, o, none⟩) ls) (n : Nat) : Mt w (some ⟨b, o + n, none⟩) (ls.drop n) :=
  ⟨by have := h.small; rw [List.length_drop]; omega, fun hne => by
    obtain ⟨b', o', e, hlt, hc⟩ := h.mem (fun e => by subst e; simp at hne)
    injection e with e
    injection e with e1 e2
    subst e1 e2
    exact ⟨b, o + n, rfl, hlt, fun i l hl => by
      rw [List.getElem?_drop] at hl
      obtain ⟨v, c, h1, h2⟩ := hc _ l hl
      exact ⟨v, c, by rw [Nat.add_assoc]; exact h1, h2⟩⟩⟩
theorem Mt.nil (w : World) (u : Option Addr) : Mt w u [] := ⟨by simp, fun h => absurd rfl h⟩
/-- The assignment that messages and public values give. -/
def wsC (ls : List (List Int)) (B P0 P S : Nat) (ps : List Int) : List Int := 1 :: (ps ++ (List.range S).map (eleV ls B P0 P P 0))
def linR (p : Int) (ws : List Int) (R : List Rw) (ev : Nat → Nat → Int) (i : Nat) : Bool := (List.range 3).all fun k => ev (k + 1) i == valL p ws (side k (R.getD i rw0)).l
def linC (p : Int) (ws : List Int) (R : List Rw) (ev : Nat → Nat → Int) (m : Nat) : Bool := (List.range m).all (linR p ws R ev)
theorem ah_ahead (P0 P k : Nat) (hk : k < 4) : ah P0 P k = ahead P0 P P k := by
  match k, hk with
  | 0, _ => rfl
  | 1, _ => simp [ah, ahead, pfs]
  | 2, _ => simp [ah, ahead, pfs]
  | 3, _ => simp [ah, ahead, pfs]
theorem rowsOf_ele {ls : List (List Int)} {B P0 P k : Nat} (hB : 1 ≤ B) (h : ∀ l ∈ ls, l.length = B) (hk : k < 4) (hle : ah P0 P k + pfs P0 P k ≤ ls.length) {i : Nat} (hi : i < pfs P0 P k * B) : (rowsOf ls (ah P0 P k) (pfs P0 P k)).getD i 0 = eleV ls B P0 P P k i := by
  rw [rowsOf_at hB h _ _ hle i hi, eleV, ah_ahead P0 P k hk]
theorem rowsOf_take {ls : List (List Int)} {B P0 P S : Nat} (hB : 1 ≤ B) (h : ∀ l ∈ ls, l.length = B) (hle : P0 ≤ ls.length) (hS : S ≤ P0 * B) : (rowsOf ls 0 P0).take S = (List.range S).map (eleV ls B P0 P P 0) := by
  have hl := rowsOf_len h 0 P0 (by omega)
  apply List.ext_getElem?
  intro i
  rw [List.getElem?_take]
  by_cases hi : i < S
  · rw [if_pos hi, List.getElem?_map, List.getElem?_range hi]
    have hx : (rowsOf ls 0 P0)[i]? = some (rowsOf ls 0 P0)[i] := List.getElem?_eq_getElem (by omega)
    have := rowsOf_ele (k := 0) (P0 := P0) (P := P) hB h (by omega) (by simp [ah, pfs]; omega) (i := i) (by simp [pfs]; omega)
    simp only [ah, pfs, if_true] at this
    rw [List.getD, hx] at this
    rw [hx]
    show _ = some (eleV ls B P0 P P 0 i)
    rw [← this]; rfl
  · rw [if_neg hi, List.getElem?_eq_none (by simp; omega)]

end Go.Proofs.Ytpkjlnelkacbgaa
