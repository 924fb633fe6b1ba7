/- The messages of an assignment: linearly consistent, and quadratically consistent exactly if it satisfies the table. -/
import Derived.Test.YtpkjlnelkacbgaaHQeq
import Derived.Test.YtpkjlnelkacbgaaHPut
import Derived.Test.YtpkjlnelkacbgaaHSat2
namespace Go.Proofs.Ytpkjlnelkacbgaa
open Go.RowKit Go.Sort

def psum (pf : Nat → Nat) : Nat → Nat
  | 0 => 0
  | n + 1 => psum pf n + pf n
theorem cuts_psum (b : Nat) (pf : Nat → Nat) (lf : Nat → List Int) : ∀ n, (cuts b pf lf n).length = psum pf n
  | 0 => rfl
  | n + 1 => by rw [cuts, List.length_append, cuts_psum b pf lf n, cutL_len, psum]
theorem psum_mono (pf : Nat → Nat) {v : Nat} : ∀ {n : Nat}, v < n → psum pf v + pf v ≤ psum pf n
  | 0, h => by omega
  | n + 1, h => by
    rw [psum]
    by_cases e : v = n
    · subst e; omega
    · have := psum_mono pf (v := v) (n := n) (by omega); omega
theorem cuts_at (b : Nat) (pf : Nat → Nat) (lf : Nat → List Int) {v j : Nat} (hj : j < pf v) : ∀ n, v < n → (cuts b pf lf n)[psum pf v + j]? = some (chunk b (lf v) j)
  | 0, h => by omega
  | n + 1, h => by
    rw [cuts]
    by_cases e : v = n
    · subst e
      rw [List.getElem?_append_right (by rw [cuts_psum]; omega), cuts_psum, Nat.add_sub_cancel_left, cutL, List.getElem?_map, List.getElem?_range hj]; rfl
    · have := psum_mono pf (v := v) (n := n) (by omega)
      rw [List.getElem?_append_left (by rw [cuts_psum]; omega)]
      exact cuts_at b pf lf hj n (by omega)
theorem rCuts_ele {p : Int} {l : List Int} {rs : List Rw} {pb B P0 P1 : Nat} (hB : 1 ≤ B) {v i : Nat} (hv : v < 4) (hi : i < rPf P0 P1 v * B) : eleV (rCuts p l rs pb B P0 P1) B P0 P1 P1 v i = (rLf p l rs pb v).getD i 0 := by
  have hd : i / B < rPf P0 P1 v := Nat.div_lt_of_lt_mul (by rw [Nat.mul_comm]; exact hi)
  have ha : ahead P0 P1 P1 v = psum (rPf P0 P1) v := by
    match v, hv with
    | 0, _ => rfl
    | 1, _ => simp [ahead, psum, rPf]
    | 2, _ => simp [ahead, psum, rPf]
    | 3, _ => simp [ahead, psum, rPf]
  have hc : (cuts B (rPf P0 P1) (rLf p l rs pb) 4).getD (psum (rPf P0 P1) v + i / B) [] = chunk B (rLf p l rs pb v) (i / B) := by rw [List.getD, cuts_at B (rPf P0 P1) (rLf p l rs pb) hd 4 hv]; rfl
  rw [eleV, ha, rCuts, hc, chunk_at _ _ _ _ (Nat.mod_lt _ hB)]
  rw [show i / B * B + i % B = i from by rw [Nat.mul_comm]; exact Nat.div_add_mod i B]
theorem vl_at {p : Int} {ws : List Int} {R : List Rw} {k i : Nat} {r : Rw} (h : R[i]? = some r) : (vl p ws R k).getD i 0 = valL p ws (side k r).l := by
  rw [List.getD, vl, List.getElem?_map, h]; rfl
theorem asg_ws {p : Int} {l : List Int} {rs : List Rw} {pb B P0 P1 S : Nat} (hB : 1 ≤ B) (hS : S ≤ P0 * B) (h1 : l.head? = some 1) (hl : l.length = 1 + pb + S) : wsC (rCuts p l rs pb B P0 P1) B P0 P1 S ((l.drop 1).take pb) = l := by
  have e : (List.range S).map (eleV (rCuts p l rs pb B P0 P1) B P0 P1 P1 0) = l.drop (1 + pb) := by
    apply List.ext_getElem?
    intro i
    by_cases hi : i < S
    · rw [List.getElem?_map, List.getElem?_range hi]
      have := rCuts_ele (p := p) (l := l) (rs := rs) (pb := pb) (P0 := P0) (P1 := P1) hB (v := 0) (i := i) (by omega) (by simp [rPf]; omega)
      have hlt : i < (l.drop (1 + pb)).length := by rw [List.length_drop]; omega
      have hx : (l.drop (1 + pb))[i]? = some ((l.drop (1 + pb))[i]'hlt) := List.getElem?_eq_getElem hlt
      show some (eleV _ _ _ _ _ 0 i) = _
      rw [this, rLf, if_pos rfl, List.getD, hx]; rfl
    · rw [List.getElem?_eq_none (by simp; omega), List.getElem?_eq_none (by rw [List.length_drop]; omega)]
  rw [wsC, e]
  cases l with
  | nil => simp at h1
  | cons a t =>
    simp only [List.head?_cons, Option.some.injEq] at h1
    subst h1
    rw [show (1 + pb) = pb + 1 from Nat.add_comm _ _]
    simp only [List.drop_succ_cons, List.drop_zero, List.take_append_drop]
theorem asg_lin {p : Int} {l : List Int} {rs : List Rw} {pb B P0 P1 S : Nat} (hB : 1 ≤ B) (hS : S ≤ P0 * B) (hm : rs.length ≤ P1 * B) (h1 : l.head? = some 1) (hl : l.length = 1 + pb + S) :
    linC p (wsC (rCuts p l rs pb B P0 P1) B P0 P1 S ((l.drop 1).take pb)) rs (eleV (rCuts p l rs pb B P0 P1) B P0 P1 P1) rs.length = true := by
  rw [asg_ws hB hS h1 hl]
  unfold linC linR
  simp only [List.all_eq_true, List.mem_range, beq_iff_eq]
  intro i hi k hk
  have hx : rs[i]? = some rs[i] := List.getElem?_eq_getElem hi
  rw [rCuts_ele hB (v := k + 1) (by omega) (by simp [rPf]; omega), rLf, if_neg (by omega), Nat.add_sub_cancel, vl_at hx, List.getD, hx]; rfl
theorem asg_quad {p : Int} {l : List Int} {rs : List Rw} {pb B P0 P1 : Nat} (hv : vld p = true) (hB : 1 ≤ B) (hm : rs.length ≤ P1 * B) : quadE p (eleV (rCuts p l rs pb B P0 P1) B P0 P1 P1) (P1 * B) = rs.all (holdB p l) := by
  have key : ∀ i, i < P1 * B → quadR p (eleV (rCuts p l rs pb B P0 P1) B P0 P1 P1) i = (match rs[i]? with | some r => holdB p l r | none => true) := fun i hi => by
    unfold quadR
    rw [rCuts_ele hB (v := 1) (by omega) (by simp [rPf]; omega), rCuts_ele hB (v := 2) (by omega) (by simp [rPf]; omega), rCuts_ele hB (v := 3) (by omega) (by simp [rPf]; omega)]
    simp only [rLf, if_neg (show ¬ (1 = 0) by omega), if_neg (show ¬ (2 = 0) by omega), if_neg (show ¬ (3 = 0) by omega)]
    cases hx : rs[i]? with
    | some r =>
      rw [vl_at hx, vl_at hx, vl_at hx]; rfl
    | none =>
      have hlen : ∀ k, (vl p l rs k).getD i 0 = 0 := fun k => by
        rw [List.getD, vl, List.getElem?_map, hx]; rfl
      rw [hlen, hlen, hlen]
      unfold fmul; rw [if_pos hv]; simp
  rw [Bool.eq_iff_iff]
  unfold quadE
  simp only [List.all_eq_true, List.mem_range]
  constructor
  · intro h r hr
    obtain ⟨i, hi, hx⟩ := List.getElem_of_mem hr
    have := h i (by omega)
    rw [key i (by omega), List.getElem?_eq_getElem hi, hx] at this
    exact this
  · intro h i hi
    rw [key i hi]
    cases hx : rs[i]? with
    | some r => exact h r (List.mem_of_getElem? hx)
    | none => rfl
end Go.Proofs.Ytpkjlnelkacbgaa
