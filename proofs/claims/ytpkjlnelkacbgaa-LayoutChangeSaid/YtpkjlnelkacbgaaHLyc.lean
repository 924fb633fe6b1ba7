/- Plain laws of the layout: the messages of an assignment meet the target; a changed element shows. -/
import Derived.Test.YtpkjlnelkacbgaaQF
import Derived.Test.YtpkjlnelkacbgaaHAsg
namespace Go.Proofs.Ytpkjlnelkacbgaa
open Go.RowKit Go.Sort

theorem idot_comm (a b : List Int) (B : Nat) : idot a b B = idot b a B := by
  unfold idot
  exact fsum_congr fun k _ => Int.mul_comm _ _
theorem msum_comm {p : Int} (hv : vld p = true) {xs ys : List (List Int)} {B N : Nat} (hx : ∀ l ∈ xs, l.length = B) (hy : ∀ l ∈ ys, l.length = B) (h1 : xs.length = N) (h2 : ys.length = N) : msum p xs ys = msum p ys xs := by
  rw [msum_i hv hx hy h1 h2, msum_i hv hy hx h2 h1, fsum_congr fun j _ => idot_comm _ _ B]
theorem lay_lin {p : Int} (hv : vld p = true) {l : List Int} {rs : List Rw} {pb B P0 P1 S : Nat} (hB : 1 ≤ B) (hl : ∀ x ∈ l, 0 ≤ x ∧ x < p) (hS : S ≤ P0 * B) (hm : rs.length ≤ P1 * B) (h1 : l.head? = some 1) (hlen : l.length = 1 + pb + S)
    (hvar : ∀ r ∈ rs, ∀ k, k < 3 → ∀ t ∈ (side k r).l, 0 ≤ t.1 ∧ t.1 < 1 + (pb : Int) + S) (rho : Int) :
    msum p (cofM p pb rs B P0 P1 S rho) (rCuts p l rs pb B P0 P1) = tgV p rho (1 :: (l.drop 1).take pb) rs rs.length := by
  have hp := vld_pos hv
  have hg := rCuts_good (p := p) (l := l) (rs := rs) (pb := pb) (B := B) (P0 := P0) (P1 := P1) (by omega) hl
  have hlin := asg_lin (p := p) (l := l) (rs := rs) (pb := pb) (B := B) (P0 := P0) (P1 := P1) (S := S) hB hS hm h1 hlen
  refine (lin_iff hv hB hg.row hg.len hS hm (by rw [List.length_take, List.length_drop]; omega) hvar).2 ?_
  have her : ∀ v i, 0 ≤ eleV (rCuts p l rs pb B P0 P1) B P0 P1 P1 v i ∧ eleV (rCuts p l rs pb B P0 P1) B P0 P1 P1 v i < p := fun v i => by
    unfold eleV
    simp only [List.getD]
    cases h1 : (rCuts p l rs pb B P0 P1)[ahead P0 P1 P1 v + i / B]? with
    | none => simp; omega
    | some l' =>
      simp only [Option.getD_some]
      cases h2 : l'[i % B]? with
      | none => simp; omega
      | some x => exact hg.lt l' (List.mem_of_getElem? h1) x (List.mem_of_getElem? h2)
  generalize wsC (rCuts p l rs pb B P0 P1) B P0 P1 S ((l.drop 1).take pb) = ws at *
  generalize eleV (rCuts p l rs pb B P0 P1) B P0 P1 P1 = ev at *
  have hlc : ∀ i, i < rs.length → ∀ k, k < 3 → ev (k + 1) i = valL p ws (side k (rs.getD i rw0)).l := by
    unfold linC linR at hlin
    simpa only [List.all_eq_true, List.mem_range, beq_iff_eq] using hlin
  refine peval_zero _ fun c hc => ?_
  obtain ⟨e, he, rfl⟩ := List.mem_map.1 hc
  have he := List.mem_range.1 he
  have hm0 : 0 < rs.length := by omega
  exact (far_zero hv (her _ _)).2 (hlc _ (Nat.mod_lt _ hm0) _ (Nat.div_lt_of_lt_mul (by rw [Nat.mul_comm]; exact he)))
end Go.Proofs.Ytpkjlnelkacbgaa
