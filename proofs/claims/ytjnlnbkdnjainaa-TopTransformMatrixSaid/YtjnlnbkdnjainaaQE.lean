/- Lemmas of several texts in one file: ElS, Krp. -/
import Derived.Test.YtjnlnbkdnjainaaQA
import Derived.Test.YtjnlnbkdnjainaaQB
/- Elimination in plain words: the step at one column, for a matrix given as a function. -/
namespace Go.Proofs.Ytjnlnbkdnjainaa

/-- The first row from s on, of k rows, whose element in column c is not 0; else s + k. -/
def fnd (f : Nat → Nat → Int) (c : Nat) : Nat → Nat → Nat
  | 0, s => s
  | k + 1, s => if f s c = 0 then fnd f c k (s + 1) else s
theorem fnd_le (f : Nat → Nat → Int) (c : Nat) : ∀ k s, s ≤ fnd f c k s ∧ fnd f c k s ≤ s + k
  | 0, s => by simp [fnd]
  | k + 1, s => by
    unfold fnd
    have := fnd_le f c k (s + 1)
    split <;> omega
theorem fnd_zero (f : Nat → Nat → Int) (c : Nat) : ∀ k s i, s ≤ i → i < fnd f c k s → f i c = 0
  | 0, s, i, h1, h2 => by simp [fnd] at h2; omega
  | k + 1, s, i, h1, h2 => by
    unfold fnd at h2
    split at h2
    · rename_i h
      by_cases e : i = s
      · subst e; exact h
      · exact fnd_zero f c k (s + 1) i (by omega) h2
    · omega
theorem fnd_ne (f : Nat → Nat → Int) (c : Nat) : ∀ k s, fnd f c k s < s + k → f (fnd f c k s) c ≠ 0
  | 0, s, h => by simp [fnd] at h
  | k + 1, s, h => by
    unfold fnd at h ⊢
    split
    · rename_i e
      rw [if_pos e] at h
      exact fnd_ne f c k (s + 1) (by omega)
    · assumption
structure Es where
  f : Nat → Nat → Int
  piv : List Nat
  fac : Int
def swp (f : Nat → Nat → Int) (a b : Nat) : Nat → Nat → Int := fun i => if i = b then f a else if i = a then f b else f i
/-- The row of the pivot divided by the pivot, and the column cleared in all others. -/
def clr (p : Int) (f : Nat → Nat → Int) (top c : Nat) : Nat → Nat → Int := fun i j =>
  if i = top then fmul p (f top j) (finv p (f top c)) else fsub p (f i j) (fmul p (f i c) (fmul p (f top j) (finv p (f top c))))
def elS (p : Int) (n c : Nat) (s : Es) : Es :=
  let top := s.piv.length
  let at' := fnd s.f c (n - top) top
  if n ≤ at' then s else
    let f1 := swp s.f top at'
    ⟨clr p f1 top c, s.piv ++ [c], fmul p (if at' = top then s.fac else fneg p s.fac) (f1 top c)⟩
def elR (p : Int) (n wd : Nat) (f : Nat → Nat → Int) : Es := (List.range wd).foldl (fun s c => elS p n c s) ⟨f, [], 1⟩
theorem elR_next (p : Int) (n wd : Nat) (f : Nat → Nat → Int) : elR p n (wd + 1) f = elS p n wd (elR p n wd f) := by
  unfold elR; rw [List.range_succ, List.foldl_append]; rfl
theorem fmul_lt {p a b : Int} (hv : vld p = true) : 0 ≤ fmul p a b ∧ fmul p a b < p := by
  have := vld_pos hv
  unfold fmul; rw [if_pos hv]; exact ⟨Int.emod_nonneg _ (by omega), Int.emod_lt_of_pos _ (by omega)⟩
theorem fsub_lt {p a b : Int} (hv : vld p = true) : 0 ≤ fsub p a b ∧ fsub p a b < p := by
  have := vld_pos hv
  unfold fsub; rw [if_pos hv]; exact ⟨Int.emod_nonneg _ (by omega), Int.emod_lt_of_pos _ (by omega)⟩
theorem fneg_lt {p a : Int} (hv : vld p = true) : 0 ≤ fneg p a ∧ fneg p a < p := by
  have := vld_pos hv
  unfold fneg; rw [if_pos hv]; exact ⟨Int.emod_nonneg _ (by omega), Int.emod_lt_of_pos _ (by omega)⟩
theorem fsub_zero {p x y : Int} (hv : vld p = true) (hx : 0 ≤ x ∧ x < p) : fsub p x (fmul p 0 y) = x := by
  have := vld_pos hv
  unfold fsub fmul; rw [if_pos hv, if_pos hv, Int.zero_mul, Int.zero_emod, Int.sub_zero, Int.emod_eq_of_lt hx.1 hx.2]
/-- What holds of every state. -/
structure EsOk (p : Int) (n m c : Nat) (s : Es) : Prop where
  el : ∀ i j, i < n → j < m → 0 ≤ s.f i j ∧ s.f i j < p
  len : s.piv.length ≤ n
  lc : s.piv.length ≤ c
  fac : 0 ≤ s.fac ∧ s.fac < p
theorem swp_ok {p : Int} {n m a b : Nat} {f : Nat → Nat → Int} (h : ∀ i j, i < n → j < m → 0 ≤ f i j ∧ f i j < p) (ha : a < n) (hb : b < n) : ∀ i j, i < n → j < m → 0 ≤ swp f a b i j ∧ swp f a b i j < p := by
  intro i j hi hj
  unfold swp
  split
  · exact h a j ha hj
  · split
    · exact h b j hb hj
    · exact h i j hi hj
theorem elS_ok {p : Int} {n m c : Nat} {s : Es} (hv : vld p = true) (h : EsOk p n m c s) : EsOk p n m (c + 1) (elS p n c s) := by
  unfold elS
  simp only []
  split
  · exact ⟨h.el, h.len, by have := h.lc; omega, h.fac⟩
  · rename_i hn
    have h1 := fnd_le s.f c (n - s.piv.length) s.piv.length
    refine ⟨fun i j hi hj => ?_, by simp only [List.length_append, List.length_singleton]; omega, by simp only [List.length_append, List.length_singleton]; have := h.lc; omega, fmul_lt hv⟩
    simp only [clr]
    split
    · exact fmul_lt hv
    · exact fsub_lt hv
theorem elR_ok {p : Int} {n m : Nat} {f : Nat → Nat → Int} (hv : vld p = true) (h : ∀ i j, i < n → j < m → 0 ≤ f i j ∧ f i j < p) : ∀ wd, EsOk p n m wd (elR p n wd f)
  | 0 => ⟨h, Nat.zero_le _, Nat.le_refl _, by have := vld_pos hv; exact ⟨by show (0 : Int) ≤ 1; omega, by show (1 : Int) < p; omega⟩⟩
  | wd + 1 => by rw [elR_next]; exact elS_ok hv (elR_ok hv h wd)
end Go.Proofs.Ytjnlnbkdnjainaa

/- The kernel in plain words: the columns without pivot, and their vectors. -/
namespace Go.Proofs.Ytjnlnbkdnjainaa

/-- The vector of column c after k pivots. -/
def kvf (p : Int) (f : Nat → Nat → Int) (piv : List Nat) (c : Nat) : Nat → Nat → Int
  | 0, j => if j = c then 1 else 0
  | k + 1, j => if j = piv.getD k 0 then fneg p (f k c) else kvf p f piv c k j
def frees (piv : List Nat) (c : Nat) : List Nat := (List.range c).filter fun j => decide (j ∉ piv)
def kerR (p : Int) (m : Nat) (f : Nat → Nat → Int) (piv : List Nat) (c : Nat) : List Int := (List.range m).map (kvf p f piv c piv.length)
def kerL (p : Int) (m : Nat) (f : Nat → Nat → Int) (piv : List Nat) : List (List Int) := (frees piv m).map (kerR p m f piv)
theorem frees_next (piv : List Nat) (c : Nat) : frees piv (c + 1) = if c ∈ piv then frees piv c else frees piv c ++ [c] := by
  unfold frees
  rw [List.range_succ, List.filter_append]
  by_cases h : c ∈ piv <;> simp [h]
theorem frees_len (piv : List Nat) : ∀ c, (frees piv c).length ≤ c
  | 0 => by simp [frees]
  | c + 1 => by
    rw [frees_next]
    have := frees_len piv c
    split
    · omega
    · simp; omega
theorem frees_pre (piv : List Nat) (c : Nat) : ∀ d, c ≤ d → ∃ r, frees piv d = frees piv c ++ r := by
  intro d hd
  induction d with
  | zero => exact ⟨[], by rw [show c = 0 by omega]; simp⟩
  | succ d ih =>
    by_cases e : c = d + 1
    · exact ⟨[], by rw [e]; simp⟩
    · obtain ⟨r, hr⟩ := ih (by omega)
      rw [frees_next, hr]
      split
      · exact ⟨r, rfl⟩
      · exact ⟨r ++ [d], by rw [List.append_assoc]⟩
theorem kerL_at (p : Int) (m : Nat) (f : Nat → Nat → Int) (piv : List Nat) (c : Nat) (hc : c < m) (h : c ∉ piv) : (kerL p m f piv).getD (frees piv c).length [] = kerR p m f piv c := by
  obtain ⟨r, hr⟩ := frees_pre piv (c + 1) m (by omega)
  rw [frees_next, if_neg h] at hr
  unfold kerL
  rw [hr, List.getD, List.getElem?_map, List.append_assoc, List.getElem?_append_right (Nat.le_refl _), Nat.sub_self]
  rfl
theorem kerR_len (p : Int) (m : Nat) (f : Nat → Nat → Int) (piv : List Nat) (c : Nat) : (kerR p m f piv c).length = m := by simp [kerR]
theorem kvf_U (p : Int) (f : Nat → Nat → Int) (piv : List Nat) (c : Nat) : ∀ k j, U (kvf p f piv c k j)
  | 0, j => by unfold kvf; split <;> exact ⟨by omega, by omega⟩
  | k + 1, j => by
    unfold kvf
    split
    · exact fneg_U
    · exact kvf_U p f piv c k j
/-- Pivots are increasing. -/
structure Inc (piv : List Nat) (m : Nat) : Prop where
  inc : ∀ i j, i < j → j < piv.length → piv.getD i 0 < piv.getD j 0
  lt : ∀ i, i < piv.length → piv.getD i 0 < m
theorem Inc.push {piv : List Nat} {c m : Nat} (h : Inc piv c) (hm : c < m) : Inc (piv ++ [c]) m := by
  have e1 : ∀ i, i < piv.length → (piv ++ [c]).getD i 0 = piv.getD i 0 := fun i hi => by rw [List.getD, List.getD, List.getElem?_append_left hi]
  have e2 : (piv ++ [c]).getD piv.length 0 = c := by rw [List.getD, List.getElem?_append_right (Nat.le_refl _), Nat.sub_self]; rfl
  refine ⟨fun i j hij hj => ?_, fun i hi => ?_⟩
  · simp at hj
    rw [e1 i (by omega)]
    by_cases e : j = piv.length
    · rw [e, e2]; exact h.lt i (by omega)
    · rw [e1 j (by omega)]; exact h.inc i j hij (by omega)
  · simp at hi
    by_cases e : i = piv.length
    · rw [e, e2]; exact hm
    · rw [e1 i (by omega)]; have := h.lt i (by omega); omega
theorem Inc.mono {piv : List Nat} {c m : Nat} (h : Inc piv c) (hm : c ≤ m) : Inc piv m := ⟨h.inc, fun i hi => by have := h.lt i hi; omega⟩
theorem elS_inc {p : Int} {n c : Nat} {s : Es} (h : Inc s.piv c) : Inc (elS p n c s).piv (c + 1) := by
  unfold elS
  simp only []
  split
  · exact h.mono (by omega)
  · exact h.push (by omega)
theorem elR_inc (p : Int) (n : Nat) (f : Nat → Nat → Int) : ∀ wd, Inc (elR p n wd f).piv wd
  | 0 => ⟨fun i j _ hj => by simp [elR] at hj, fun i hi => by simp [elR] at hi⟩
  | wd + 1 => by rw [elR_next]; exact elS_inc (elR_inc p n f wd)
/-- How many pivots lie ahead of a column. -/
structure Nxt (piv : List Nat) (c x : Nat) : Prop where
  le : x ≤ piv.length
  iff : ∀ i, i < piv.length → (i < x ↔ piv.getD i 0 < c)
theorem Nxt.zero (piv : List Nat) : Nxt piv 0 0 := ⟨Nat.zero_le _, fun i _ => by omega⟩
theorem Nxt.mem {piv : List Nat} {m c x : Nat} (hi : Inc piv m) (h : Nxt piv c x) : c ∈ piv ↔ (x < piv.length ∧ piv.getD x 0 = c) := by
  constructor
  · intro hm
    obtain ⟨i, hil, e⟩ := List.getElem_of_mem hm
    have e2 : piv.getD i 0 = c := by rw [List.getD, List.getElem?_eq_getElem hil, e]; rfl
    have h1 := not_congr (h.iff i hil)
    rw [e2] at h1
    have h2 : x ≤ i := by have := h1.2 (by omega); omega
    have h3 := (not_congr (h.iff x (by omega))).1 (by omega)
    by_cases e3 : x = i
    · rw [e3]; exact ⟨hil, e2⟩
    · have := hi.inc x i (by omega) hil
      omega
  · rintro ⟨hx, e⟩
    rw [List.getD, List.getElem?_eq_getElem hx] at e
    rw [← e]
    exact List.getElem_mem hx
theorem Nxt.yes {piv : List Nat} {m c x : Nat} (hi : Inc piv m) (h : Nxt piv c x) (hm : c ∈ piv) : Nxt piv (c + 1) (x + 1) := by
  obtain ⟨hx, e⟩ := (h.mem hi).1 hm
  refine ⟨hx, fun i hil => ?_⟩
  have := h.iff i hil
  by_cases e1 : i = x
  · subst e1; omega
  · by_cases e2 : i < x
    · have := this.1 e2; omega
    · have := hi.inc x i (by omega) hil; omega
theorem Nxt.no {piv : List Nat} {c x : Nat} (h : Nxt piv c x) (hm : c ∉ piv) : Nxt piv (c + 1) x := by
  refine ⟨h.le, fun i hil => ?_⟩
  have h1 := h.iff i hil
  have h2 : piv.getD i 0 ≠ c := fun e => hm (by rw [List.getD, List.getElem?_eq_getElem hil] at e; rw [← e]; exact List.getElem_mem hil)
  omega
end Go.Proofs.Ytjnlnbkdnjainaa
