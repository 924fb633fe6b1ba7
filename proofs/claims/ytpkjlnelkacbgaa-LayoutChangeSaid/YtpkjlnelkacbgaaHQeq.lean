/- The two ways to say that messages are quadratically consistent. -/
import Derived.Test.YtpkjlnelkacbgaaHCns
import Derived.Test.YtpkjlnelkacbgaaHRcn
import Derived.Test.YtpkjlnelkacbgaaHPut
namespace Go.Proofs.Ytpkjlnelkacbgaa
open Go.RowKit Go.Sort

theorem gapV_zero {p : Int} (hv : vld p = true) {x y z : Int} (hz : 0 ≤ z ∧ z < p) : (fsub p (fmul p x y) z == 0) = (fmul p x y == z) := by
  unfold fsub fmul
  rw [if_pos hv, if_pos hv, Bool.eq_iff_iff, beq_iff_eq, beq_iff_eq]
  constructor
  · intro h
    have h2 : (x * y % p - z) % p = 0 := h
    have h3 := Int.emod_emod_of_dvd (x * y) (Int.dvd_refl p)
    have h4 : (x * y % p) % p = z % p := Int.emod_eq_emod_iff_emod_sub_eq_zero.2 h2
    rw [h3, Int.emod_eq_of_lt hz.1 hz.2] at h4
    exact h4
  · intro h
    rw [h, Int.sub_self]; rfl
theorem quad_eq {p : Int} {B P0 P N : Nat} {ls : List (List Int)} (hv : vld p = true) (hB : 1 ≤ B) (hg : Good p B N ls) : quadC (gaps p ls P0 P B) = quadE p (eleV ls B P0 P P) (P * B) := by
  have hlt : ∀ a b, 0 ≤ (ls.getD a []).getD b 0 ∧ (ls.getD a []).getD b 0 < p := fun a b => by
    have hp := vld_pos hv
    simp only [List.getD]
    cases h1 : ls[a]? with
    | none => simp; omega
    | some l =>
      simp only [Option.getD_some]
      cases h2 : l[b]? with
      | none => simp; omega
      | some x => exact hg.lt l (List.mem_of_getElem? h1) x (List.mem_of_getElem? h2)
  have key : ∀ j k, k < B → (gapV p ls P0 P j k == 0) = quadR p (eleV ls B P0 P P) (j * B + k) := fun j k hk => by
    unfold quadR gapV
    rw [ele_at ls B P0 P 1 j k hB hk, ele_at ls B P0 P 2 j k hB hk, ele_at ls B P0 P 3 j k hB hk, gapV_zero hv (hlt _ _)]
    rfl
  rw [Bool.eq_iff_iff]
  unfold quadC quadE gaps zeroR gapL
  simp only [List.all_eq_true, List.mem_map, List.mem_range, forall_exists_index, and_imp, forall_apply_eq_imp_iff₂]
  constructor
  · intro h i hi
    have hd : i / B < P := Nat.div_lt_of_lt_mul (by rw [Nat.mul_comm]; exact hi)
    have hm : i % B < B := Nat.mod_lt _ hB
    have := h (i / B) hd (i % B) hm
    rw [key _ _ hm] at this
    rw [show i / B * B + i % B = i from by rw [Nat.mul_comm]; exact Nat.div_add_mod i B] at this
    exact this
  · intro h j hj k hk
    rw [key _ _ hk]
    refine h _ ?_
    have : (j + 1) * B ≤ P * B := Nat.mul_le_mul_right _ hj
    rw [Nat.add_mul, Nat.one_mul] at this
    omega
end Go.Proofs.Ytpkjlnelkacbgaa
