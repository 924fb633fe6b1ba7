/- Lemmas of several texts in one file: Rts, Fsm, Lnr, Lnq, Lnb. -/
import Derived.Test.YtpkjlnelkacbgaaHCns
import Derived.Test.YtpkjlnelkacbgaaQE
import Derived.Test.YtpkjlnelkacbgaaHRtg
import Derived.Test.YtpkjlnelkacbgaaQI
import Derived.Test.YtpkjlnelkacbgaaHAsg
import Derived.Test.YtpkjlnelkacbgaaHPut
import Derived.Test.YtpkjlnelkacbgaaHRcf
/- A polynomial whose coefficients are not all zero has fewer roots than coefficients; what that says of QuadPasses. -/
namespace Go.Proofs.Ytpkjlnelkacbgaa
open Go.RowKit Go.Sort

def peval (x : Int) : List Int → Int
  | [] => 0
  | c :: cs => c + x * peval x cs
def sdiv (r : Int) : List Int → List Int
  | [] => []
  | [_] => []
  | _ :: c :: t => peval r (c :: t) :: sdiv r (c :: t)
theorem sdiv_len (r : Int) : ∀ cs : List Int, (sdiv r cs).length = cs.length - 1
  | [] => rfl
  | [_] => rfl
  | _ :: c :: t => by rw [sdiv, List.length_cons, sdiv_len r (c :: t)]; simp
theorem sdiv_eq (r x : Int) : ∀ cs : List Int, peval x cs = (x - r) * peval x (sdiv r cs) + peval r cs
  | [] => by simp [peval, sdiv]
  | [c] => by simp [peval, sdiv]
  | a :: c :: t => by
    have ih := sdiv_eq r x (c :: t)
    have e1 : peval x (a :: c :: t) = a + x * peval x (c :: t) := rfl
    have e2 : peval r (a :: c :: t) = a + r * peval r (c :: t) := rfl
    have e3 : peval x (peval r (c :: t) :: sdiv r (c :: t)) = peval r (c :: t) + x * peval x (sdiv r (c :: t)) := rfl
    rw [sdiv, e1, e2, e3, ih]
    generalize peval x (sdiv r (c :: t)) = q
    generalize peval r (c :: t) = s
    simp only [Int.mul_add, Int.sub_mul, Int.mul_sub]
    rw [Int.mul_left_comm x r q]
    omega
theorem sdiv_zero {p r : Int} : ∀ cs : List Int, peval r cs % p = 0 → (∀ d ∈ sdiv r cs, d % p = 0) → ∀ c ∈ cs, c % p = 0
  | [], _, _, c, hc => by cases hc
  | [a], h, _, c, hc => by
    rw [List.mem_singleton] at hc; subst hc
    simpa [peval] using h
  | a :: b :: t, h, hd, c, hc => by
    have h1 : peval r (b :: t) % p = 0 := hd _ (by rw [sdiv]; exact List.mem_cons_self)
    have ih := sdiv_zero (b :: t) h1 (fun d hdm => hd d (by rw [sdiv]; exact List.mem_cons_of_mem _ hdm))
    rcases List.mem_cons.1 hc with rfl | hc
    · rw [peval, Int.add_emod, Int.mul_emod, h1] at h
      simpa using h
    · exact ih c hc
theorem roots_le {p : Int} (hv : vld p = true) : ∀ (xs : List Int) (cs : List Int), (∃ c ∈ cs, c % p ≠ 0) → xs.Pairwise (fun a b => (b - a) % p ≠ 0) → (∀ x ∈ xs, peval x cs % p = 0) → xs.length ≤ cs.length - 1
  | [], _, _, _, _ => Nat.zero_le _
  | r :: xs, cs, ⟨c, hc, hcn⟩, hpw, hr => by
    obtain ⟨hpr, hpw⟩ := List.pairwise_cons.1 hpw
    have hr0 := hr r List.mem_cons_self
    have hne : ∃ d ∈ sdiv r cs, d % p ≠ 0 := by
      refine Classical.byContradiction fun hn => hcn (sdiv_zero cs hr0 (fun d hd => ?_) c hc)
      exact Classical.byContradiction fun hd0 => hn ⟨d, hd, hd0⟩
    have ih := roots_le hv xs (sdiv r cs) hne hpw (fun x hx => by
      have h1 := hr x (List.mem_cons_of_mem _ hx)
      rw [sdiv_eq r x cs, Int.add_emod, hr0, Int.add_zero, Int.emod_emod_of_dvd _ (Int.dvd_refl p)] at h1
      exact no_zero_div hv _ _ h1 (hpr x hx))
    rw [sdiv_len] at ih
    have : (sdiv r cs).length ≠ 0 := by
      obtain ⟨d, hd, _⟩ := hne
      intro e
      rw [List.length_eq_zero_iff] at e
      rw [e] at hd; cases hd
    rw [sdiv_len] at this
    rw [List.length_cons]; omega
theorem count_le {pn : Nat} (hv : vld (pn : Int) = true) {f : Nat → Bool} {cs : List Int} (hc : ∃ c ∈ cs, c % (pn : Int) ≠ 0) (hf : ∀ x, x < pn → f x = true → peval (x : Int) cs % (pn : Int) = 0) : ((List.range pn).filter f).length ≤ cs.length - 1 := by
  have h := roots_le hv (((List.range pn).filter f).map fun x : Nat => (x : Int)) cs hc ?_ ?_
  · rw [List.length_map] at h; exact h
  · rw [List.pairwise_map]
    have hp : ((List.range pn).filter f).Pairwise (fun a b => a < b ∧ a < pn ∧ b < pn) := by
      have h1 : (List.range pn).Pairwise (fun a b => a < b) := List.pairwise_lt_range
      have h2 : ((List.range pn).filter f).Pairwise (fun a b => a < b) := h1.filter f
      refine h2.imp_of_mem ?_
      intro a b ha hb hab
      exact ⟨hab, List.mem_range.1 (List.mem_filter.1 ha).1, List.mem_range.1 (List.mem_filter.1 hb).1⟩
    refine hp.imp ?_
    intro a b ⟨hab, ha, hb⟩ h0
    rw [Int.emod_eq_of_lt (by omega) (by omega)] at h0
    omega
  · intro x hx
    obtain ⟨y, hy, rfl⟩ := List.mem_map.1 hx
    obtain ⟨h1, h2⟩ := List.mem_filter.1 hy
    exact hf y (List.mem_range.1 h1) h2
theorem hx_peval (beta : Int) (k : Nat) : ∀ gs : List (List Int), hx beta k gs = peval beta (gs.map fun r => r.getD k 0)
  | [] => rfl
  | g :: gs => by rw [hx, List.map_cons, peval, hx_peval beta k gs]
/-- QuadPasses: all challenges where all gaps are zero, at most as many as there are rows where not. -/
theorem quad_all {pn b : Nat} {gs : List (List Int)} (hv : vld (pn : Int) = true) (h : quadC gs = true) : quadN (pn : Int) gs b pn = pn := by
  unfold quadC zeroR at h
  simp only [List.all_eq_true, beq_iff_eq] at h
  have hz : ∀ (beta : Int) k, peval beta (gs.map fun r => r.getD k 0) = 0 := fun beta k => by
    have hm : ∀ c ∈ (gs.map fun r => r.getD k 0), c = 0 := fun c hc => by
      obtain ⟨r, hr, rfl⟩ := List.mem_map.1 hc
      rw [List.getD]
      cases hx : r[k]? with
      | none => rfl
      | some x => exact h r hr x (List.mem_of_getElem? hx)
    generalize (gs.map fun r => r.getD k 0) = cs at hm
    induction cs with
    | nil => rfl
    | cons c cs ih => rw [peval, hm c List.mem_cons_self, ih (fun d hd => hm d (List.mem_cons_of_mem _ hd))]; simp
  have hall : ∀ beta : Nat, quadB (pn : Int) (beta : Int) gs b = true := fun beta => by
    unfold quadB
    simp only [List.all_eq_true, beq_iff_eq]
    intro k _
    rw [hor_eq hv, hx_peval, hz, Int.mul_zero]; rfl
  unfold quadN
  rw [List.filter_eq_self.2 (fun a _ => hall a), List.length_range]
theorem quad_few {pn b : Nat} {gs : List (List Int)} (hv : vld (pn : Int) = true) (hrow : ∀ l ∈ gs, l.length = b) (hlt : ∀ l ∈ gs, ∀ x ∈ l, 0 ≤ x ∧ x < (pn : Int)) (h : quadC gs = false) : quadN (pn : Int) gs b pn ≤ gs.length := by
  have hex : ∃ l ∈ gs, ∃ x ∈ l, x ≠ 0 := by
    refine Classical.byContradiction fun hn => ?_
    have : quadC gs = true := by
      unfold quadC zeroR
      simp only [List.all_eq_true, beq_iff_eq]
      exact fun l hl x hx => Classical.byContradiction fun hne => hn ⟨l, hl, x, hx, hne⟩
    rw [this] at h; cases h
  obtain ⟨l, hl, x, hx, hne⟩ := hex
  obtain ⟨k, hk, hkx⟩ := List.getElem_of_mem hx
  have hkb : k < b := by rw [← hrow l hl]; exact hk
  have hlx := hlt l hl x hx
  have := count_le hv (f := fun beta : Nat => quadB (pn : Int) (beta : Int) gs b) (cs := 0 :: gs.map fun r => r.getD k 0) ⟨x, List.mem_cons_of_mem _ (List.mem_map.2 ⟨l, hl, by rw [List.getD, List.getElem?_eq_getElem hk, hkx]; rfl⟩), by rw [Int.emod_eq_of_lt hlx.1 hlx.2]; exact hne⟩ (fun beta _ hq => by
    unfold quadB at hq
    simp only [List.all_eq_true, beq_iff_eq] at hq
    have := hq k (List.mem_range.2 hkb)
    rw [hor_eq hv, hx_peval] at this
    rw [peval, Int.zero_add]; exact this)
  rw [List.length_cons, List.length_map] at this
  exact this
end Go.Proofs.Ytpkjlnelkacbgaa

/- Sums of numbers: double sums, sums of products of rows. -/
namespace Go.Proofs.Ytpkjlnelkacbgaa
open Go.RowKit Go.Sort

theorem fsum_split (f : Nat → Int) (a : Nat) : ∀ b, fsum f (a + b) = fsum f a + fsum (fun j => f (a + j)) b
  | 0 => by simp [fsum]
  | b + 1 => by rw [← Nat.add_assoc, fsum, fsum, fsum_split f a b, Int.add_assoc]
theorem fsum_mul2 (f : Nat → Int) (B : Nat) : ∀ n, fsum f (n * B) = fsum (fun j => fsum (fun k => f (j * B + k)) B) n
  | 0 => by rw [Nat.zero_mul]; rfl
  | n + 1 => by rw [Nat.add_mul, Nat.one_mul, fsum_split, fsum_mul2 f B n]; rfl
theorem fsum_cut {f : Nat → Int} {M : Nat} : ∀ {N : Nat}, M ≤ N → (∀ i, M ≤ i → i < N → f i = 0) → fsum f N = fsum f M
  | 0, h, _ => by rw [Nat.le_zero.1 h]
  | N + 1, h, h0 => by
    by_cases e : M = N + 1
    · rw [e]
    · rw [fsum, h0 N (by omega) (by omega), Int.add_zero]; exact fsum_cut (by omega) (fun i h1 h2 => h0 i h1 (by omega))
theorem fsum_left (a : Int) (f : Nat → Int) : ∀ n, fsum (fun i => a * f i) n = a * fsum f n
  | 0 => by simp [fsum]
  | n + 1 => by rw [fsum, fsum, fsum_left a f n, Int.mul_add]
theorem fsum_sub (f g : Nat → Int) : ∀ n, fsum (fun i => f i - g i) n = fsum f n - fsum g n
  | 0 => rfl
  | n + 1 => by simp only [fsum, fsum_sub f g n]; omega
theorem fsum_mod {p : Int} {f g : Nat → Int} : ∀ {n : Nat}, (∀ i, i < n → f i % p = g i % p) → fsum f n % p = fsum g n % p
  | 0, _ => rfl
  | n + 1, h => by
    rw [fsum, fsum, Int.add_emod, fsum_mod (fun i hi => h i (by omega)), h n (by omega), ← Int.add_emod]
def idot (l1 l2 : List Int) (B : Nat) : Int := fsum (fun k => l1.getD k 0 * l2.getD k 0) B
theorem ldot_take {p : Int} (hv : vld p = true) {l1 l2 : List Int} : ∀ k, k ≤ l1.length → k ≤ l2.length → ldot p (l1.take k) (l2.take k) = idot l1 l2 k % p
  | 0, _, _ => by simp [ldot, idot, fsum]
  | k + 1, h1, h2 => by
    have e1 : l1[k]? = some l1[k] := List.getElem?_eq_getElem (by omega)
    have e2 : l2[k]? = some l2[k] := List.getElem?_eq_getElem (by omega)
    rw [ldot_next e1 e2, ldot_take hv k (by omega) (by omega), idot, idot, fsum, List.getD, List.getD, e1, e2]
    unfold fadd fmul
    rw [if_pos hv, if_pos hv]
    simp [Int.add_emod]
theorem ldot_i {p : Int} (hv : vld p = true) {l1 l2 : List Int} {B : Nat} (h1 : l1.length = B) (h2 : l2.length = B) : ldot p l1 l2 = idot l1 l2 B % p := by
  have := ldot_take hv (l1 := l1) (l2 := l2) B (by omega) (by omega)
  rw [List.take_of_length_le (by omega), List.take_of_length_le (by omega)] at this
  exact this
theorem msum_take {p : Int} (hv : vld p = true) {xs ys : List (List Int)} {B : Nat} (hx : ∀ l ∈ xs, l.length = B) (hy : ∀ l ∈ ys, l.length = B) : ∀ n, n ≤ xs.length → n ≤ ys.length → msum p (xs.take n) (ys.take n) = fsum (fun j => idot (xs.getD j []) (ys.getD j []) B) n % p
  | 0, _, _ => by simp [msum, fsum]
  | n + 1, h1, h2 => by
    have e1 : xs[n]? = some xs[n] := List.getElem?_eq_getElem (by omega)
    have e2 : ys[n]? = some ys[n] := List.getElem?_eq_getElem (by omega)
    rw [msum_next e1 e2, msum_take hv hx hy n (by omega) (by omega), ldot_i hv (hx _ (List.getElem_mem _)) (hy _ (List.getElem_mem _)), fsum, List.getD, List.getD, e1, e2]
    unfold fadd
    rw [if_pos hv]
    simp [Int.add_emod]
theorem msum_i {p : Int} (hv : vld p = true) {xs ys : List (List Int)} {B N : Nat} (hx : ∀ l ∈ xs, l.length = B) (hy : ∀ l ∈ ys, l.length = B) (h1 : xs.length = N) (h2 : ys.length = N) : msum p xs ys = fsum (fun j => idot (xs.getD j []) (ys.getD j []) B) N % p := by
  have := msum_take hv hx hy N (by omega) (by omega)
  rw [List.take_of_length_le (by omega), List.take_of_length_le (by omega)] at this
  exact this
theorem psum_sum (f : Nat → Int) (pf : Nat → Nat) : ∀ n, fsum f (psum pf n) = fsum (fun v => fsum (fun j => f (psum pf v + j)) (pf v)) n
  | 0 => rfl
  | n + 1 => by rw [psum, fsum_split, psum_sum f pf n]; rfl
/-- The sum over all rows is the sum over the vectors' elements. -/
theorem msum_cuts {p : Int} (hv : vld p = true) {B : Nat} {pf : Nat → Nat} {lf : Nat → List Int} {ls : List (List Int)} (hB : 1 ≤ B) (hls : ∀ l ∈ ls, l.length = B) (hlen : ls.length = psum pf 4) :
    msum p (cuts B pf lf 4) ls = fsum (fun v => fsum (fun i => (lf v).getD i 0 * (ls.getD (psum pf v + i / B) []).getD (i % B) 0) (pf v * B)) 4 % p := by
  rw [msum_i hv (cuts_row 4) hls (cuts_psum B pf lf 4) hlen, psum_sum]
  congr 1
  refine fsum_congr fun v hv4 => ?_
  rw [fsum_mul2]
  refine fsum_congr fun j hj => ?_
  have hc : (cuts B pf lf 4).getD (psum pf v + j) [] = chunk B (lf v) j := by rw [List.getD, cuts_at B pf lf hj 4 hv4]; rfl
  rw [hc]
  unfold idot
  refine fsum_congr fun k hk => ?_
  have hd : (j * B + k) / B = j := by rw [Nat.mul_comm, Nat.mul_add_div (by omega), Nat.div_eq_of_lt hk, Nat.add_zero]
  have hm : (j * B + k) % B = k := by rw [Nat.mul_comm, Nat.mul_add_mod, Nat.mod_eq_of_lt hk]
  rw [chunk_at B (lf v) j k hk, hd, hm]
end Go.Proofs.Ytpkjlnelkacbgaa

/- What LinearPasses counts: the roots of a polynomial whose coefficients say how far the constraints are from being met. -/
namespace Go.Proofs.Ytpkjlnelkacbgaa
open Go.RowKit Go.Sort

def vs1 (ws : List Int) (t : Int × Int) : Int := if 0 ≤ t.1 ∧ t.1 < ws.length then t.2 * ws.getD t.1.toNat 0 else 0
def vsum (ws : List Int) : List (Int × Int) → Int
  | [] => 0
  | t :: l => vs1 ws t + vsum ws l
theorem foldl_vsum {p : Int} (hv : vld p = true) (ws : List Int) : ∀ (l : List (Int × Int)) (acc : Int), acc % p = acc → l.foldl (valS p ws) acc = (acc + vsum ws l) % p
  | [], acc, h => by rw [vsum, Int.add_zero, h]; rfl
  | t :: l, acc, h => by
    rw [List.foldl_cons, vsum, ← Int.add_assoc]
    by_cases hc : 0 ≤ t.1 ∧ t.1 < ws.length
    · have e : valS p ws acc t = (acc + vs1 ws t) % p := by
        unfold valS vs1; rw [if_pos hc, if_pos hc]
        unfold fadd fmul; rw [if_pos hv, if_pos hv]; simp [Int.add_emod]
      rw [e, foldl_vsum hv ws l _ (Int.emod_emod_of_dvd _ (Int.dvd_refl p))]
      simp [Int.add_emod]
    · have e : valS p ws acc t = acc := by unfold valS; rw [if_neg hc]
      have e2 : vs1 ws t = 0 := by unfold vs1; rw [if_neg hc]
      rw [e, e2, Int.add_zero]; exact foldl_vsum hv ws l acc h
theorem valL_vsum {p : Int} (hv : vld p = true) (ws : List Int) (l : List (Int × Int)) : valL p ws l = vsum ws l % p := by
  have := foldl_vsum hv ws l 0 (Int.zero_emod p)
  rw [Int.zero_add] at this; exact this
theorem fsum_one (g : Nat → Int) (d : Nat) : ∀ S, fsum (fun v => if v = d then g v else 0) S = if d < S then g d else 0
  | 0 => rfl
  | S + 1 => by
    rw [fsum, fsum_one g d S]
    by_cases h : d < S
    · rw [if_pos h, if_neg (by omega), if_pos (by omega)]; omega
    · by_cases e : S = d
      · subst e; rw [if_neg h, if_pos rfl, if_pos (by omega)]; omega
      · rw [if_neg h, if_neg e, if_neg (by omega)]; rfl
theorem vs1_parts {ps sec : List Int} {pub : Int} {S : Nat} (hps : (ps.length : Int) = pub) (hsec : sec.length = S) {t : Int × Int} (ht : 0 ≤ t.1 ∧ t.1 < 1 + pub + S) :
    vs1 (1 :: (ps ++ sec)) t = vs1 (1 :: ps) t + fsum (fun v => (if t.1 = (v : Int) + 1 + pub then t.2 else 0) * sec.getD v 0) S := by
  obtain ⟨a, c⟩ := t
  simp only at ht ⊢
  obtain ⟨A, rfl⟩ : ∃ A : Nat, a = A := ⟨a.toNat, by omega⟩
  have e1 : vs1 (1 :: (ps ++ sec)) ((A : Int), c) = c * (1 :: (ps ++ sec)).getD A 0 := by
    unfold vs1; rw [if_pos ⟨by simp, by simp; omega⟩]; simp
  rw [e1]
  by_cases h : A < 1 + ps.length
  · have e2 : vs1 (1 :: ps) ((A : Int), c) = c * (1 :: ps).getD A 0 := by
      unfold vs1; rw [if_pos ⟨by simp, by simp; omega⟩]; simp
    have e3 : fsum (fun v => (if (A : Int) = (v : Int) + 1 + pub then c else 0) * sec.getD v 0) S = 0 := by
      rw [fsum_congr (g := fun _ => 0) (fun v _ => by rw [if_neg (by omega), Int.zero_mul]), fsum_zero]
    rw [e2, e3, Int.add_zero]
    congr 1
    cases A with
    | zero => rfl
    | succ A => simp only [List.getD, List.getElem?_cons_succ]; rw [List.getElem?_append_left (by omega)]
  · obtain ⟨d, hd⟩ : ∃ d, A = d + 1 + ps.length := ⟨A - 1 - ps.length, by omega⟩
    have e2 : vs1 (1 :: ps) ((A : Int), c) = 0 := by
      unfold vs1; rw [if_neg (by simp; omega)]
    have e3 : fsum (fun v => (if (A : Int) = (v : Int) + 1 + pub then c else 0) * sec.getD v 0) S = c * sec.getD d 0 := by
      rw [fsum_congr (g := fun v => if v = d then c * sec.getD v 0 else 0) (fun v _ => by
        by_cases e : v = d
        · rw [if_pos e, if_pos (by omega)]
        · rw [if_neg e, if_neg (by omega), Int.zero_mul]), fsum_one, if_pos (by omega)]
    rw [e2, e3, Int.zero_add, hd, show d + 1 + ps.length = (d + ps.length) + 1 by omega]
    congr 1
    simp only [List.getD, List.getElem?_cons_succ]
    rw [List.getElem?_append_right (by omega), Nat.add_sub_cancel]
theorem vsum_parts {ps sec : List Int} {pub : Int} {S : Nat} (hps : (ps.length : Int) = pub) (hsec : sec.length = S) : ∀ l : List (Int × Int), (∀ t ∈ l, 0 ≤ t.1 ∧ t.1 < 1 + pub + S) →
    vsum (1 :: (ps ++ sec)) l = vsum (1 :: ps) l + fsum (fun v => trm l ((v : Int) + 1 + pub) * sec.getD v 0) S
  | [], _ => by simp [vsum, trm, fsum_zero]
  | t :: l, h => by
    rw [vsum, vsum, vs1_parts hps hsec (h t List.mem_cons_self), vsum_parts hps hsec l (fun s hs => h s (List.mem_cons_of_mem _ hs))]
    have e : fsum (fun v => trm (t :: l) ((v : Int) + 1 + pub) * sec.getD v 0) S = fsum (fun v => (if t.1 = (v : Int) + 1 + pub then t.2 else 0) * sec.getD v 0) S + fsum (fun v => trm l ((v : Int) + 1 + pub) * sec.getD v 0) S := by
      rw [← fsum_add]
      exact fsum_congr fun v _ => by rw [trm, Int.add_mul]
    rw [e]; omega
theorem peval_fsum (x : Int) : ∀ cs : List Int, peval x cs = fsum (fun e => x ^ e * cs.getD e 0) cs.length
  | [] => rfl
  | c :: cs => by
    rw [peval, peval_fsum x cs, List.length_cons, show cs.length + 1 = 1 + cs.length from Nat.add_comm _ _, fsum_split]
    have e1 : fsum (fun e => x ^ e * (c :: cs).getD e 0) 1 = c := by simp [fsum]
    have e2 : fsum (fun j => x ^ (1 + j) * (c :: cs).getD (1 + j) 0) cs.length = x * fsum (fun e => x ^ e * cs.getD e 0) cs.length := by
      rw [← fsum_left]
      refine fsum_congr fun j _ => ?_
      rw [show 1 + j = j + 1 from Nat.add_comm _ _, Int.pow_succ]
      simp only [List.getD, List.getElem?_cons_succ]
      rw [Int.mul_comm (x ^ j) x, Int.mul_assoc]
    rw [e1, e2]
/-- How far row i is from meeting its k-th constraint. -/
def farD (ws : List Int) (R : List Rw) (ev : Nat → Nat → Int) (k i : Nat) : Int := ev (k + 1) i - vsum ws (side k (R.getD i rw0)).l
def farL (ws : List Int) (R : List Rw) (ev : Nat → Nat → Int) (m : Nat) : List Int := (List.range (3 * m)).map fun e => farD ws R ev (e / m) (e % m)
theorem farL_eval (ws : List Int) (R : List Rw) (ev : Nat → Nat → Int) (m : Nat) (rho : Int) : peval rho (farL ws R ev m) = fsum (fun k => fsum (fun i => rho ^ (k * m + i) * farD ws R ev k i) m) 3 := by
  rw [peval_fsum]
  have hl : (farL ws R ev m).length = 3 * m := by simp [farL]
  rw [hl, fsum_mul2]
  refine fsum_congr fun k hk => fsum_congr fun i hi => ?_
  have hlt : k * m + i < 3 * m := by
    have : (k + 1) * m ≤ 3 * m := Nat.mul_le_mul_right _ (by omega)
    rw [Nat.add_mul, Nat.one_mul] at this; omega
  have hd : (k * m + i) / m = k := by rw [Nat.mul_comm, Nat.mul_add_div (by omega), Nat.div_eq_of_lt hi, Nat.add_zero]
  have hm : (k * m + i) % m = i := by rw [Nat.mul_comm, Nat.mul_add_mod, Nat.mod_eq_of_lt hi]
  rw [List.getD, farL, List.getElem?_map, List.getElem?_range hlt, Option.map_some, Option.getD_some, hd, hm]
end Go.Proofs.Ytpkjlnelkacbgaa

/- LinearPasses: all challenges where the messages are linearly consistent, fewer than coefficients where not. -/
namespace Go.Proofs.Ytpkjlnelkacbgaa
open Go.RowKit Go.Sort

theorem fsum_right (a : Int) (f : Nat → Int) : ∀ n, fsum (fun i => f i * a) n = fsum f n * a
  | 0 => by simp [fsum]
  | n + 1 => by rw [fsum, fsum, fsum_right a f n, Int.add_mul]
theorem fsum_neg (f : Nat → Int) : ∀ n, fsum (fun i => -f i) n = -fsum f n
  | 0 => rfl
  | n + 1 => by simp only [fsum, fsum_neg f n]; omega
theorem sec_swap (rho : Int) (R : List Rw) (m S : Nat) (pub : Int) (e : Nat → Int) :
    fsum (fun v => cfS rho R m ((v : Int) + 1 + pub) * e v) S = fsum (fun k => fsum (fun i => rho ^ (k * m + i) * fsum (fun v => trm (side k (R.getD i rw0)).l ((v : Int) + 1 + pub) * e v) S) m) 3 := by
  have h1 : ∀ v : Nat, cfS rho R m ((v : Int) + 1 + pub) * e v = fsum (fun k => fsum (fun i => cfA rho R m k i ((v : Int) + 1 + pub) * e v) m) 3 := fun v => by
    rw [cfS_eq, ← fsum_right]
    refine fsum_congr fun k _ => ?_
    rw [cfK, fsum_right]
  rw [fsum_congr (g := fun v => fsum (fun k => fsum (fun i => cfA rho R m k i ((v : Int) + 1 + pub) * e v) m) 3) (fun v _ => h1 v), fsum_swap]
  refine fsum_congr fun k _ => ?_
  rw [fsum_swap]
  refine fsum_congr fun i _ => ?_
  rw [← fsum_left]
  refine fsum_congr fun v _ => ?_
  rw [cfA, Int.mul_assoc]
theorem lin_iff {p : Int} (hv : vld p = true) {B P0 P1 S : Nat} {pub rho : Int} {R : List Rw} {ls : List (List Int)} {ps : List Int} (hB : 1 ≤ B) (hls : ∀ l ∈ ls, l.length = B) (hlen : ls.length = P0 + P1 + P1 + P1) (hS : S ≤ P0 * B) (hm : R.length ≤ P1 * B) (hps : (ps.length : Int) = pub)
    (hvar : ∀ r ∈ R, ∀ k, k < 3 → ∀ t ∈ (side k r).l, 0 ≤ t.1 ∧ t.1 < 1 + pub + S) :
    msum p (cofM p pub R B P0 P1 S rho) ls = tgV p rho (1 :: ps) R R.length ↔ peval rho (farL (wsC ls B P0 P1 S ps) R (eleV ls B P0 P1 P1) R.length) % p = 0 := by
  obtain ⟨m, hm'⟩ : ∃ m, R.length = m := ⟨_, rfl⟩
  obtain ⟨ev, hev⟩ : ∃ ev, eleV ls B P0 P1 P1 = ev := ⟨_, rfl⟩
  obtain ⟨pf, hpf⟩ : ∃ pf : Nat → Nat, (fun i => if i = 0 then P0 else P1) = pf := ⟨_, rfl⟩
  have hpf0 : pf 0 = P0 := by rw [← hpf]; rfl
  have hpf1 : ∀ k, pf (k + 1) = P1 := fun k => by rw [← hpf]; rfl
  have hE : ∀ v i, v < 4 → (ls.getD (psum pf v + i / B) []).getD (i % B) 0 = ev v i := fun v i hv4 => by
    rw [← hev, eleV, show ahead P0 P1 P1 v = psum pf v from by
      match v, hv4 with
      | 0, _ => rfl
      | 1, _ => simp [ahead, psum, hpf0]
      | 2, _ => simp [ahead, psum, hpf0, hpf1]
      | 3, _ => simp [ahead, psum, hpf0, hpf1]]
  have hms := msum_cuts hv (pf := pf) (lf := cofL p rho pub R S) hB hls (by rw [hlen]; simp [psum, hpf0, hpf1])
  rw [show cofM p pub R B P0 P1 S rho = cuts B pf (cofL p rho pub R S) 4 from by rw [cofM, hpf], hms]
  -- the sum, vector by vector
  have hT : fsum (fun v => fsum (fun i => (cofL p rho pub R S v).getD i 0 * (ls.getD (psum pf v + i / B) []).getD (i % B) 0) (pf v * B)) 4 =
      fsum (fun v => ((-(cfS rho R m ((v : Int) + 1 + pub))) % p) * ev 0 v) S + fsum (fun k => fsum (fun i => (rho ^ (k * m + i) % p) * ev (k + 1) i) m) 3 := by
    rw [show (4 : Nat) = 1 + 3 from rfl, fsum_split]
    congr 1
    · rw [show (1 : Nat) = 0 + 1 from rfl, fsum, fsum, Int.zero_add, hpf0, fsum_cut hS (fun i h1 h2 => by
        rw [List.getD, List.getElem?_eq_none (by rw [cofL_lens.1]; omega)]; simp)]
      refine fsum_congr fun v hvS => ?_
      rw [hE 0 v (by omega), cofL, if_pos rfl, secL_at hvS, hm']
    · refine fsum_congr fun k hk => ?_
      rw [show 1 + k = k + 1 from Nat.add_comm _ _, hpf1, fsum_cut (M := m) (by omega) (fun i h1 h2 => by
        rw [List.getD, List.getElem?_eq_none (by rw [cofL_lens.2 k hk]; omega)]; simp)]
      refine fsum_congr fun i hi => ?_
      rw [hE (k + 1) i (by omega), cofL, if_neg (by omega), Nat.add_sub_cancel, hm', powL_seg hk, List.getD, List.getElem?_map, List.getElem?_range hi]; rfl
  rw [hT, tgV_eq, hm']
  -- modulo p
  have hsec : ∀ v, v < S → ((List.range S).map (ev 0)).getD v 0 = ev 0 v := fun v hvS => by
    rw [List.getD, List.getElem?_map, List.getElem?_range hvS]; rfl
  have hM : (fsum (fun v => ((-(cfS rho R m ((v : Int) + 1 + pub))) % p) * ev 0 v) S + fsum (fun k => fsum (fun i => (rho ^ (k * m + i) % p) * ev (k + 1) i) m) 3) % p =
      (-fsum (fun v => cfS rho R m ((v : Int) + 1 + pub) * ev 0 v) S + fsum (fun k => fsum (fun i => rho ^ (k * m + i) * ev (k + 1) i) m) 3) % p := by
    rw [Int.add_emod, Int.add_emod (-_)]
    congr 1
    congr 1
    · rw [← fsum_neg]
      refine fsum_mod fun v _ => ?_
      rw [← Int.neg_mul]; simp [Int.mul_emod]
    · exact fsum_mod fun k _ => fsum_mod fun i _ => by simp [Int.mul_emod]
  have hG : fsum (tgK p rho (1 :: ps) R m) 3 % p = fsum (fun k => fsum (fun i => rho ^ (k * m + i) * vsum (1 :: ps) (side k (R.getD i rw0)).l) m) 3 % p :=
    fsum_mod fun k _ => fsum_mod fun i _ => by rw [tgA, valL_vsum hv]; simp [Int.mul_emod]
  rw [hM, hG, farL_eval, Int.emod_eq_emod_iff_emod_sub_eq_zero]
  have hfin : fsum (fun k => fsum (fun i => rho ^ (k * m + i) * farD (wsC ls B P0 P1 S ps) R ev k i) m) 3 =
      -fsum (fun v => cfS rho R m ((v : Int) + 1 + pub) * ev 0 v) S + fsum (fun k => fsum (fun i => rho ^ (k * m + i) * ev (k + 1) i) m) 3 - fsum (fun k => fsum (fun i => rho ^ (k * m + i) * vsum (1 :: ps) (side k (R.getD i rw0)).l) m) 3 := by
    rw [sec_swap, Int.add_comm, ← Int.sub_eq_add_neg, ← fsum_sub, ← fsum_sub]
    refine fsum_congr fun k hk => ?_
    rw [← fsum_sub, ← fsum_sub]
    refine fsum_congr fun i hi => ?_
    have hr : R[i]? = some R[i] := List.getElem?_eq_getElem (by omega)
    have hrd : R.getD i rw0 = R[i] := by rw [List.getD, hr]; rfl
    have hvp := vsum_parts (ps := ps) (sec := (List.range S).map (ev 0)) (pub := pub) (S := S) hps (by simp) (side k (R.getD i rw0)).l (by rw [hrd]; exact hvar _ (List.getElem_mem _) k hk)
    rw [farD, wsC, hev, hvp, fsum_congr (g := fun v => trm (side k (R.getD i rw0)).l ((v : Int) + 1 + pub) * ev 0 v) (fun v hvS => by rw [hsec v hvS])]
    simp only [Int.mul_sub, Int.mul_add]
    omega
  rw [hev, hfin]
end Go.Proofs.Ytpkjlnelkacbgaa

/- The bounds of LinearPasses. -/
namespace Go.Proofs.Ytpkjlnelkacbgaa
open Go.RowKit Go.Sort

theorem peval_zero {p x : Int} : ∀ cs : List Int, (∀ c ∈ cs, c % p = 0) → peval x cs % p = 0
  | [], _ => Int.zero_emod p
  | c :: cs, h => by
    rw [peval, Int.add_emod, Int.mul_emod, h c List.mem_cons_self, peval_zero cs (fun d hd => h d (List.mem_cons_of_mem _ hd))]; simp
theorem far_zero {p : Int} (hv : vld p = true) {ws : List Int} {R : List Rw} {ev : Nat → Nat → Int} {k i : Nat} (hr : 0 ≤ ev (k + 1) i ∧ ev (k + 1) i < p) : farD ws R ev k i % p = 0 ↔ ev (k + 1) i = valL p ws (side k (R.getD i rw0)).l := by
  rw [valL_vsum hv, farD, ← Int.emod_eq_emod_iff_emod_sub_eq_zero, Int.emod_eq_of_lt hr.1 hr.2]
theorem lin_bounds {pn : Nat} (hv : vld (pn : Int) = true) {B P0 P1 S : Nat} {pub : Int} {R : List Rw} {ls : List (List Int)} {ps : List Int} (hB : 1 ≤ B) (hg : Good (pn : Int) B (P0 + P1 + P1 + P1) ls) (hS : S ≤ P0 * B) (hm : R.length ≤ P1 * B) (hps : (ps.length : Int) = pub)
    (hvar : ∀ r ∈ R, ∀ k, k < 3 → ∀ t ∈ (side k r).l, 0 ≤ t.1 ∧ t.1 < 1 + pub + S) :
    (linC (pn : Int) (wsC ls B P0 P1 S ps) R (eleV ls B P0 P1 P1) R.length = true → linN (pn : Int) ls (cofM (pn : Int) pub R B P0 P1 S) (fun rho => tgV (pn : Int) rho (1 :: ps) R R.length) pn = pn) ∧
    (linC (pn : Int) (wsC ls B P0 P1 S ps) R (eleV ls B P0 P1 P1) R.length = false → linN (pn : Int) ls (cofM (pn : Int) pub R B P0 P1 S) (fun rho => tgV (pn : Int) rho (1 :: ps) R R.length) pn ≤ 3 * R.length - 1) := by
  have hp := vld_pos hv
  have hiff : ∀ rho, _ := fun rho => lin_iff hv (rho := rho) hB hg.row hg.len hS hm hps hvar
  have her : ∀ v i, 0 ≤ eleV ls B P0 P1 P1 v i ∧ eleV ls B P0 P1 P1 v i < (pn : Int) := fun v i => by
    unfold eleV
    simp only [List.getD]
    cases h1 : ls[ahead P0 P1 P1 v + i / B]? with
    | none => simp; omega
    | some l =>
      simp only [Option.getD_some]
      cases h2 : l[i % B]? with
      | none => simp; omega
      | some x => exact hg.lt l (List.mem_of_getElem? h1) x (List.mem_of_getElem? h2)
  generalize wsC ls B P0 P1 S ps = ws at *
  generalize eleV ls B P0 P1 P1 = ev at *
  have hlc : linC (pn : Int) ws R ev R.length = true ↔ ∀ i, i < R.length → ∀ k, k < 3 → ev (k + 1) i = valL (pn : Int) ws (side k (R.getD i rw0)).l := by
    unfold linC linR
    simp only [List.all_eq_true, List.mem_range, beq_iff_eq]
  constructor
  · intro h
    have h' := hlc.1 h
    have hz : ∀ c ∈ farL ws R ev R.length, c % (pn : Int) = 0 := fun c hc => by
      obtain ⟨e, he, rfl⟩ := List.mem_map.1 hc
      have he := List.mem_range.1 he
      have hm0 : 0 < R.length := by omega
      exact (far_zero hv (her _ _)).2 (h' _ (Nat.mod_lt _ hm0) _ (Nat.div_lt_of_lt_mul (by rw [Nat.mul_comm]; exact he)))
    unfold linN
    rw [List.filter_eq_self.2 (fun rho _ => by rw [beq_iff_eq]; exact (hiff (rho : Int)).2 (peval_zero _ hz)), List.length_range]
  · intro h
    have hex : ∃ i, i < R.length ∧ ∃ k, k < 3 ∧ ev (k + 1) i ≠ valL (pn : Int) ws (side k (R.getD i rw0)).l := by
      refine Classical.byContradiction fun hn => ?_
      have : linC (pn : Int) ws R ev R.length = true := hlc.2 fun i hi k hk => Classical.byContradiction fun hne => hn ⟨i, hi, k, hk, hne⟩
      rw [this] at h; cases h
    obtain ⟨i, hi, k, hk, hne⟩ := hex
    have hlt : k * R.length + i < 3 * R.length := by
      have : (k + 1) * R.length ≤ 3 * R.length := Nat.mul_le_mul_right _ (by omega)
      rw [Nat.add_mul, Nat.one_mul] at this; omega
    have hd : (k * R.length + i) / R.length = k := by rw [Nat.mul_comm, Nat.mul_add_div (by omega), Nat.div_eq_of_lt hi, Nat.add_zero]
    have hmm : (k * R.length + i) % R.length = i := by rw [Nat.mul_comm, Nat.mul_add_mod, Nat.mod_eq_of_lt hi]
    have := count_le hv (f := fun rho : Nat => msum (pn : Int) (cofM (pn : Int) pub R B P0 P1 S (rho : Int)) ls == tgV (pn : Int) (rho : Int) (1 :: ps) R R.length) (cs := farL ws R ev R.length)
      ⟨farD ws R ev k i, List.mem_map.2 ⟨k * R.length + i, List.mem_range.2 hlt, by rw [hd, hmm]⟩, fun e => hne ((far_zero hv (her _ _)).1 e)⟩ (fun rho _ hq => (hiff (rho : Int)).1 (beq_iff_eq.1 hq))
    rw [show (farL ws R ev R.length).length = 3 * R.length from by simp [farL]] at this
    exact this
end Go.Proofs.Ytpkjlnelkacbgaa
