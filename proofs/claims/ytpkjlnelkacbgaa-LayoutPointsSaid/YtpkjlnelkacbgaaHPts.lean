/- The points of a layout are all different. -/
import Derived.Test.YtpkjlnelkacbgaaHDom
import Derived.Test.YtpkjlnelkacbgaaHOrd
import Derived.Test.YtpkjlnelkacbgaaHTabN
namespace Go.Proofs.Ytpkjlnelkacbgaa

theorem fitF_two : ∀ (f : Nat) (k : Nat) (m : Int), ∃ j, j ≤ k + f ∧ fitF f ((2 ^ k : Nat) : Int) m = ((2 ^ j : Nat) : Int)
  | 0, k, m => ⟨k, by omega, rfl⟩
  | f + 1, k, m => by
    unfold fitF
    split
    · obtain ⟨j, h1, h2⟩ := fitF_two f (k + 1) m
      exact ⟨j, by omega, by rw [← h2, Nat.pow_succ]; congr 1; omega⟩
    · exact ⟨k, by omega, rfl⟩
theorem newN_two {b bl q : Int} (hx : okX b bl q = true) : ∃ j, j ≤ 14 ∧ newN b bl q = ((2 ^ j : Nat) : Int) := by
  obtain ⟨j, h1, h2⟩ := fitF_two 11 0 (2 * (b + q))
  have hbl : bl = 1 ∨ bl = 2 ∨ bl = 4 ∨ bl = 8 := by
    simp only [okX, Bool.and_eq_true, Bool.or_eq_true, decide_eq_true_eq, beq_iff_eq] at hx
    omega
  have e : newN b bl q = ((2 ^ j : Nat) : Int) * bl := by rw [newN, fits, ← h2]; rfl
  rcases hbl with rfl | rfl | rfl | rfl
  · exact ⟨j, by omega, by rw [e]; omega⟩
  · exact ⟨j + 1, by omega, by rw [e, Nat.pow_succ]; omega⟩
  · exact ⟨j + 2, by omega, by rw [e, Nat.pow_add]; omega⟩
  · exact ⟨j + 3, by omega, by rw [e, Nat.pow_add]; omega⟩
theorem blk_two {b bl q : Int} (hx : okX b bl q = true) : ∃ i, 1 ≤ i ∧ i ≤ 8 ∧ b = ((2 ^ i : Nat) : Int) := by
  have hb : 2 ≤ b ∧ b ≤ 256 ∧ bits .and .i64 b (b - 1) = 0 := by
    simp only [okX, Bool.and_eq_true, Bool.or_eq_true, decide_eq_true_eq, beq_iff_eq] at hx
    omega
  obtain ⟨n, rfl⟩ := Int.eq_ofNat_of_zero_le (a := b) (by omega)
  have h2 : pow2B n = true := by
    have := and_pred_i64 (n : Int) (by omega) (by omega)
    rw [hb.2.2] at this
    simpa using this
  have key : (List.range 257).all (fun n => !(decide (2 ≤ n) && pow2B n) || [2, 4, 8, 16, 32, 64, 128, 256].contains n) = true := by decide +kernel
  have h3 := List.all_eq_true.1 key n (List.mem_range.2 (by omega))
  rw [h2, decide_eq_true (show 2 ≤ n by omega)] at h3
  simp at h3
  rcases h3 with h | h | h | h | h | h | h | h <;> subst h
  · exact ⟨1, by omega, by omega, rfl⟩
  · exact ⟨2, by omega, by omega, rfl⟩
  · exact ⟨3, by omega, by omega, rfl⟩
  · exact ⟨4, by omega, by omega, rfl⟩
  · exact ⟨5, by omega, by omega, rfl⟩
  · exact ⟨6, by omega, by omega, rfl⟩
  · exact ⟨7, by omega, by omega, rfl⟩
  · exact ⟨8, by omega, by omega, rfl⟩
theorem pow2B_two (j : Nat) : pow2B (2 ^ j) = true := by
  induction j with
  | zero => decide
  | succ j ih => rw [Nat.pow_succ, Nat.mul_comm, pow2B_even _ (Nat.pos_of_ne_zero (by have := Nat.two_pow_pos j; omega))]; exact ih
/-- All powers, of exponents that are all different. -/
theorem pw_pair {p : Int} (hv : vld p = true) (es : List Nat) (hlt : ∀ e ∈ es, (e : Int) < p - 1) (hd : es.Pairwise (· ≠ ·)) : (es.map fun e => gen p ^ e % p).Pairwise (· ≠ ·) := by
  rw [List.pairwise_map]
  exact hd.imp_of_mem fun {a b} ha hb hab h => hab (gen_inj hv a b (hlt a ha) (hlt b hb) h)
theorem dom_exp {p s : Int} {n : Nat} (ho : rootOk p n = true) (hv : vld p = true) {a q : Nat} (hs : s % p = gen p ^ a % p) (hq : ((p - 1) / (n : Int)).toNat = q) : domL p s n = (List.range n).map fun i => gen p ^ (a + q * i) % p := by
  unfold domL
  refine List.map_congr_left fun i _ => ?_
  rw [hs, rootV, if_pos ho, fpow, if_pos hv, hq, Int.mul_emod, Int.emod_emod, em_pow, ← Int.mul_emod, ← Int.pow_mul, ← Int.pow_add]
theorem pts_all {p : Int} {B N i j : Nat} (hv : vld p = true) (hBi : B = 2 ^ i) (hNj : N = 2 ^ j) (hB1 : (p - 1) % (B : Int) = 0) (hN1 : (p - 1) % (N : Int) = 0) (hlt : (N : Int) < p - 1) (hBN : B ≤ N) :
    (domL p 1 B ++ domL p (gen p) N).Pairwise (· ≠ ·) ∧ (∀ x ∈ domL p 1 B ++ domL p (gen p) N, 0 ≤ x ∧ x < p) ∧ rootOk p B = true ∧ rootOk p N = true := by
  have hp := vld_pos hv
  have hB0 : 1 ≤ B := by rw [hBi]; exact Nat.two_pow_pos i
  have hN0 : 1 ≤ N := by rw [hNj]; exact Nat.two_pow_pos j
  have oB : rootOk p B = true := by
    unfold rootOk; rw [hv, Int.toNat_natCast, hBi, pow2B_two]; simp only [Bool.and_eq_true, decide_eq_true_eq]; rw [← hBi]; exact ⟨⟨⟨trivial, by omega⟩, trivial⟩, hB1⟩
  have oN : rootOk p N = true := by
    unfold rootOk; rw [hv, Int.toNat_natCast, hNj, pow2B_two]; simp only [Bool.and_eq_true, decide_eq_true_eq]; rw [← hNj]; exact ⟨⟨⟨trivial, by omega⟩, trivial⟩, hN1⟩
  obtain ⟨n, hn⟩ : ∃ n : Nat, p - 1 = n := ⟨(p - 1).toNat, by omega⟩
  have dB : B ∣ n := by have := Int.dvd_of_emod_eq_zero hB1; rw [hn] at this; exact Int.natCast_dvd_natCast.1 this
  have dN : N ∣ n := by have := Int.dvd_of_emod_eq_zero hN1; rw [hn] at this; exact Int.natCast_dvd_natCast.1 this
  obtain ⟨qB, hqB⟩ := dB
  obtain ⟨qN, hqN⟩ := dN
  have eB : ((p - 1) / (B : Int)).toNat = qB := by rw [hn, hqB, ← Int.natCast_ediv, Int.toNat_natCast, Nat.mul_div_cancel_left _ (by omega)]
  have eN : ((p - 1) / (N : Int)).toNat = qN := by rw [hn, hqN, ← Int.natCast_ediv, Int.toNat_natCast, Nat.mul_div_cancel_left _ (by omega)]
  have hq2 : 2 ≤ qN := by
    rcases Nat.lt_or_ge qN 2 with h | h
    · have : N * qN ≤ N * 1 := Nat.mul_le_mul_left _ (by omega)
      omega
    · exact h
  have hij : i ≤ j := by
    rcases Nat.lt_or_ge j i with h | h
    · have := Nat.pow_lt_pow_right (a := 2) (by omega) h; omega
    · exact h
  obtain ⟨c, hc⟩ : ∃ c, N = B * c := by
    rw [hNj, hBi]; exact ⟨2 ^ (j - i), by rw [← Nat.pow_add]; congr 1; omega⟩
  have hqq : qB = c * qN := by
    have : B * qB = B * (c * qN) := by rw [← hqB, hqN, hc, Nat.mul_assoc]
    exact Nat.eq_of_mul_eq_mul_left (by omega) this
  have g1 : (1 : Int) % p = gen p ^ 0 % p := by rw [Int.pow_zero]
  have g2 : gen p % p = gen p ^ 1 % p := by rw [Int.pow_one]
  rw [dom_exp oB hv g1 eB, dom_exp oN hv g2 eN]
  have e : (List.range B).map (fun i => gen p ^ (0 + qB * i) % p) ++ (List.range N).map (fun i => gen p ^ (1 + qN * i) % p) = (((List.range B).map fun i => 0 + qB * i) ++ (List.range N).map fun i => 1 + qN * i).map fun e => gen p ^ e % p := by
    rw [List.map_append, List.map_map, List.map_map]; rfl
  rw [e]
  have lB : ∀ i, i < B → 0 + qB * i < n := fun i hi => by
    have h : qB * (i + 1) ≤ qB * B := Nat.mul_le_mul_left _ hi
    have hq1 : 1 ≤ qB := by
      rcases Nat.eq_zero_or_pos qB with h | h
      · rw [h] at hqB; omega
      · exact h
    rw [Nat.mul_add, Nat.mul_comm qB B, ← hqB] at h; omega
  have lN : ∀ i, i < N → 1 + qN * i < n := fun i hi => by
    have h : qN * (i + 1) ≤ qN * N := Nat.mul_le_mul_left _ hi
    rw [Nat.mul_add, Nat.mul_comm qN N, ← hqN] at h; omega
  refine ⟨pw_pair hv _ (fun e he => ?_) ?_, fun x hx => ?_, oB, oN⟩
  · rcases List.mem_append.1 he with he | he
    · obtain ⟨i, hi, rfl⟩ := List.mem_map.1 he
      have := lB i (List.mem_range.1 hi); omega
    · obtain ⟨i, hi, rfl⟩ := List.mem_map.1 he
      have := lN i (List.mem_range.1 hi); omega
  · rw [List.pairwise_append]
    refine ⟨?_, ?_, fun a ha b hb hab => ?_⟩
    · rw [List.pairwise_map]
      refine List.pairwise_lt_range.imp fun {a b} hab h => ?_
      have hq1 : 1 ≤ qB := by
        rcases Nat.eq_zero_or_pos qB with h | h
        · rw [h] at hqB; omega
        · exact h
      have h3 : qB * a < qB * b := Nat.mul_lt_mul_of_pos_left hab (by omega)
      omega
    · rw [List.pairwise_map]
      refine List.pairwise_lt_range.imp fun {a b} hab h => ?_
      have h3 : qN * a < qN * b := Nat.mul_lt_mul_of_pos_left hab (by omega)
      omega
    · obtain ⟨x, _, rfl⟩ := List.mem_map.1 ha
      obtain ⟨y, _, rfl⟩ := List.mem_map.1 hb
      have h1 : (0 + qB * x) % qN = 0 := by rw [hqq, Nat.zero_add, Nat.mul_comm c qN, Nat.mul_assoc, Nat.mul_mod_right]
      rw [hab, Nat.add_mul_mod_self_left, Nat.mod_eq_of_lt (by omega)] at h1
      omega
  · obtain ⟨e, _, rfl⟩ := List.mem_map.1 hx
    exact ⟨Int.emod_nonneg _ (by omega), Int.emod_lt_of_pos _ (by omega)⟩
end Go.Proofs.Ytpkjlnelkacbgaa
