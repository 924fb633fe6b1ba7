/- Lemmas of several texts in one file: Sm, Lps. -/
import Derived.Test.YtpkjlnelkacbgaaQC
import Derived.Test.YtpkjlnelkacbgaaHCof
/- The reference's Sum; how LinearPasses counts. -/
namespace Go.Proofs.Ytpkjlnelkacbgaa
open Go.RowKit Go.Sort

set_option maxRecDepth 100000
def msum (p : Int) (xs ys : List (List Int)) : Int := (xs.zip ys).foldl (fun s x => fadd p s (ldot p x.1 x.2)) 0
theorem msum_next {p : Int} {xs ys : List (List Int)} {k : Nat} {x y : List Int} (h1 : xs[k]? = some x) (h2 : ys[k]? = some y) : msum p (xs.take (k + 1)) (ys.take (k + 1)) = fadd p (msum p (xs.take k) (ys.take k)) (ldot p x y) := by
  have e : (xs.take (k + 1)).zip (ys.take (k + 1)) = (xs.take k).zip (ys.take k) ++ [(x, y)] := by
    have e1 : xs.take (k + 1) = xs.take k ++ [x] := by rw [List.take_add_one, h1]; rfl
    have e2 : ys.take (k + 1) = ys.take k ++ [y] := by rw [List.take_add_one, h2]; rfl
    rw [e1, e2, List.zip_append (by
      have a := (List.getElem?_eq_some_iff.1 h1).1
      have b := (List.getElem?_eq_some_iff.1 h2).1
      simp; omega)]; rfl
  unfold msum
  rw [e, List.foldl_append]; rfl
theorem fmsum_U {p : Int} : ∀ (l : List (List Int × List Int)) (acc : Int), U acc → U (l.foldl (fun s x => fadd p s (ldot p x.1 x.2)) acc)
  | [], _, h => h
  | _ :: l, _, _ => fmsum_U l _ fadd_U
theorem msum_U {p : Int} {xs ys : List (List Int)} : U (msum p xs ys) := fmsum_U _ 0 ⟨by decide, by decide⟩

set_option maxHeartbeats 4000000 in
theorem sum_c (p : Int) (u1 u2 : Option Addr) (c1 c2 N : Nat) (xs ys : List (List Int)) (w : World) (h1 : Mt w u1 xs) (h2 : Mt w u2 ys) (hx : xs.length = N) (hy : ys.length = N) :
    Calls Try.prog 25 #[.int .u64 p, .slice u1 N c1, .slice u2 N c2] w (Gives (.int .u64 (msum p xs ys)) w) := by
  have hs1 := h1.small
  rw [hx] at hs1
  have k1 := (⟨h1.get hx⟩ : Kept _)
  have k2 := (⟨h2.get hy⟩ : Kept _)
  have e1 : Kept (xs.length = N ∧ ys.length = N) := ⟨hx, hy⟩
  clear h1 h2 hx hy
  go_enter Try.func25, Try.ntmps25
  go_wp2
  go_loopw [7, 8] (fun vs vi wr => ∃ (i : Nat) (S : Int) (q : Regrown), vs = .int .u64 S ∧ vi = .int .i64 (i : Int) ∧ i ≤ N ∧ U S ∧ wr = after w q ∧ Kept (msum p (xs.take i) (ys.take i) = S)) (fun _ vi _ => ((N : Int) - intOf vi).toNat)
  case atStart => exact ⟨0, 0, ⟨w.drawn, #[]⟩, rfl, rfl, by omega, ⟨by decide, by decide⟩, (after_none w).symm, ⟨rfl⟩⟩
  case round =>
    obtain ⟨i, S, q, rfl, rfl, hi, hU, rfl, hI⟩ := hrel
    by_cases h : i < N
    · obtain ⟨b1, o1, x, v1, d1, rfl, hx1, hb1, hc1, hL1⟩ := k1.out i h
      obtain ⟨b2, o2, y, v2, d2, rfl, hy1, hb2, hc2, hL2⟩ := k2.out i h
      have hI2 : Kept (msum p (xs.take (i + 1)) (ys.take (i + 1)) = fadd p S (ldot p x y)) := ⟨by rw [msum_next hx1 hy1, hI.out]⟩
      have cd : Kept (∀ q, Calls Try.prog 50 #[.int .u64 p, .slice v1 x.length d1, .slice v2 y.length d2] (after w q) (Gives (.int .u64 (ldot p x y)) (after w q))) := ⟨fun q => rdot_c p v1 v2 d1 d2 x y (after w q) (hL1.later q) (hL2.later q)⟩
      have ca : Kept (∀ w, Calls Try.prog 48 #[.int .u64 p, .int .u64 S, .int .u64 (ldot p x y)] w (Gives (.int .u64 (fadd p S (ldot p x y))) w)) := ⟨fun w => radd_c p S _ w hU ldot_U⟩
      have hU2 : U (fadd p S (ldot p x y)) := fadd_U
      clear hI hx1 hy1 k1 k2 hL1 hL2
      generalize fadd p S (ldot p x y) = A at *
      generalize ldot p x y = D at *
      generalize x.length = nx at *
      generalize y.length = ny at *
      go_wp2
      first | refine region_quiet1 (by kernel_rfl) ?_ | refine region_quiet (by kernel_rfl) ?_
      repeat (go_big_quiet_step (first | (go_at_call 50; with_reducible exact quiet (cd.out _)) | (go_at_call 48; with_reducible exact quiet (ca.out _))))
      refine wpQuiet_nil ?_
      intro _
      go_wp2
      go_roundw
      case rel => exact ⟨i + 1, A, _, rfl, by go_num, by omega, hU2, rfl, hI2⟩
      case measure => first | (simp [intOf]; omega) | (simp [intOf]; done)
    · have hI2 : Kept (msum p xs ys = S) := ⟨by rw [← hI.out, List.take_of_length_le (by rw [e1.out.1]; omega), List.take_of_length_le (by rw [e1.out.2]; omega)]⟩
      clear hI k1 k2
      go_wp2
      go_ret
      exact ⟨by rw [hI2.out]; rfl, (by repeat (first | exact Below.refl _ _ | refine Below.later ?_ _ | refine Below.box ?_ _ | refine Below.drew ?_ | refine Below.put ?_ (by dsimp only; omega) _))⟩

def linN (p : Int) (ls : List (List Int)) (cf : Int → List (List Int)) (tg : Int → Int) (n : Nat) : Nat := ((List.range n).filter fun rho : Nat => msum p (cf (rho : Int)) ls == tg (rho : Int)).length
theorem linN_next (p : Int) (ls : List (List Int)) (cf : Int → List (List Int)) (tg : Int → Int) (n : Nat) : linN p ls cf tg (n + 1) = linN p ls cf tg n + if msum p (cf (n : Int)) ls = tg (n : Int) then 1 else 0 := by
  unfold linN
  rw [List.range_succ, List.filter_append, List.length_append]
  by_cases h : msum p (cf (n : Int)) ls = tg (n : Int) <;> simp [h]
theorem linN_le (p : Int) (ls : List (List Int)) (cf : Int → List (List Int)) (tg : Int → Int) (n : Nat) : linN p ls cf tg n ≤ n := by
  unfold linN
  exact Nat.le_trans (List.length_filter_le _ _) (by simp)
end Go.Proofs.Ytpkjlnelkacbgaa

/- soundness.LinearPasses. -/
namespace Go.Proofs.Ytpkjlnelkacbgaa
open Go.RowKit Go.Sort

set_option maxRecDepth 100000
/-- The coefficients as rows. -/
def cofM (p pub : Int) (R : List Rw) (B P0 P1 S : Nat) (rho : Int) : List (List Int) := cuts B (fun i => if i = 0 then P0 else P1) (cofL p rho pub R S) 4
theorem cuts_pf {b : Nat} {pf pf' : Nat → Nat} {lf : Nat → List Int} : ∀ n, (∀ i, i < n → pf i = pf' i) → cuts b pf lf n = cuts b pf' lf n
  | 0, _ => rfl
  | n + 1, h => by rw [cuts, cuts, cuts_pf n (fun i hi => h i (by omega)), h n (by omega)]
theorem cofL_lens {p rho pub : Int} {R : List Rw} {S : Nat} : (cofL p rho pub R S 0).length = S ∧ ∀ k, k < 3 → (cofL p rho pub R S (k + 1)).length = R.length := by
  refine ⟨by simp [cofL, secL], fun k hk => ?_⟩
  unfold cofL
  rw [if_neg (by omega), List.length_take, List.length_drop, Nat.add_sub_cancel]
  have : k * R.length ≤ 2 * R.length := Nat.mul_le_mul_right _ (by omega)
  simp [powL]; omega
theorem cofM_eq {p rho pub : Int} {R : List Rw} {B P0 P1 S : Nat} (h0 : upl B S = P0) (h1 : upl B R.length = P1) : cuts B (fun i => upl B (cofL p rho pub R S i).length) (cofL p rho pub R S) 4 = cofM p pub R B P0 P1 S rho := by
  refine cuts_pf 4 fun i hi => ?_
  match i, hi with
  | 0, _ => simp only [cofL_lens.1, h0, if_true]
  | 1, _ => rw [cofL_lens.2 0 (by omega), h1]; rfl
  | 2, _ => rw [cofL_lens.2 1 (by omega), h1]; rfl
  | 3, _ => rw [cofL_lens.2 2 (by omega), h1]; rfl
theorem cofM_len (p pub : Int) (R : List Rw) (B P0 P1 S : Nat) (rho : Int) : (cofM p pub R B P0 P1 S rho).length = P0 + P1 + P1 + P1 := by
  simp [cofM, cuts, cutL_len]; omega
theorem cuts_row {b : Nat} {pf : Nat → Nat} {lf : Nat → List Int} : ∀ i, ∀ l ∈ cuts b pf lf i, l.length = b
  | 0 => by simp [cuts]
  | i + 1 => fun l hl => by
    rw [cuts] at hl
    rcases List.mem_append.1 hl with hl | hl
    · exact cuts_row i l hl
    · simp only [cutL, List.mem_map] at hl
      obtain ⟨k, _, rfl⟩ := hl
      exact chunk_len _ _ _
theorem upl_int {B n P : Nat} (hB : 1 ≤ B) (h : ((n : Int) + (B : Int) - 1) / (B : Int) = P) : upl B n = P := by
  unfold upl
  have : ((n + B - 1 : Nat) : Int) = (n : Int) + (B : Int) - 1 := by omega
  rw [← this] at h
  have h2 : (((n + B - 1) / B : Nat) : Int) = (P : Int) := by rw [← h]; simp
  exact Int.ofNat_inj.1 h2

end Go.Proofs.Ytpkjlnelkacbgaa
