/- Determinants by the expansion along the first column, in plain words: what row operations do to them. -/
import Derived.Test.YtjnlnbkdnjainaaHPl2
namespace Go.Proofs.Ytjnlnbkdnjainaa

def sg : Nat → Int
  | 0 => 1
  | i + 1 => - sg i
/-- The matrix without row i and the first column. -/
def mnr (f : Nat → Nat → Int) (i : Nat) : Nat → Nat → Int := fun r c => f (if r < i then r else r + 1) (c + 1)
def dt : Nat → (Nat → Nat → Int) → Int
  | 0, _ => 1
  | k + 1, f => sm (fun i => sg i * f i 0 * dt k (mnr f i)) (k + 1)
/-- Row r replaced. -/
def st (f : Nat → Nat → Int) (r : Nat) (u : Nat → Int) : Nat → Nat → Int := fun i c => if i = r then u c else f i c
theorem dt_cg (p : Int) : ∀ k f g, (∀ i c, i < k → c < k → cg p (f i c) (g i c)) → cg p (dt k f) (dt k g)
  | 0, _, _, _ => cg.refl _ _
  | k + 1, f, g, h => by
    unfold dt
    refine sm_cg (k + 1) fun i hi => ?_
    exact ((cg.refl p _).mul (h i 0 hi (by omega))).mul (dt_cg p k _ _ fun r c hr hc => h _ _ (by split <;> omega) (by omega))
theorem cg_eq0 {a b : Int} (h : cg 0 a b) : a = b := by obtain ⟨k, hk⟩ := h; omega
theorem dt_ext {k : Nat} {f g : Nat → Nat → Int} (h : ∀ i c, i < k → c < k → f i c = g i c) : dt k f = dt k g := cg_eq0 (dt_cg 0 k f g fun i c hi hc => cg.of_eq (h i c hi hc))
theorem mnr_same (f : Nat → Nat → Int) (r : Nat) (u : Nat → Int) : mnr (st f r u) r = mnr f r := by
  funext x c
  unfold mnr st
  rw [if_neg (by split <;> omega)]
theorem mnr_other {f : Nat → Nat → Int} {r i : Nat} (h : i ≠ r) (u : Nat → Int) : mnr (st f r u) i = st (mnr f i) (if r < i then r else r - 1) (fun c => u (c + 1)) := by
  funext x c
  unfold mnr st
  by_cases e : (if x < i then x else x + 1) = r
  · have e2 : x = if r < i then r else r - 1 := by split at e <;> split <;> omega
    simp only [if_pos e, if_pos e2]
  · have e2 : ¬ x = if r < i then r else r - 1 := by split at e <;> split <;> omega
    simp only [if_neg e, if_neg e2]
theorem dt_lin : ∀ k f r u v a, r < k → dt k (st f r (fun c => u c + a * v c)) = dt k (st f r u) + a * dt k (st f r v)
  | 0, _, _, _, _, _, h => absurd h (by omega)
  | k + 1, f, r, u, v, a, h => by
    unfold dt
    rw [← sm_mul, ← sm_add]
    refine sm_congr (k + 1) fun i hi => ?_
    by_cases e : i = r
    · subst e
      rw [mnr_same, mnr_same, mnr_same]
      simp only [st, if_true]
      grind
    · rw [mnr_other e, mnr_other e, mnr_other e, dt_lin k _ _ (fun c => u (c + 1)) (fun c => v (c + 1)) a (by split <;> omega)]
      have e0 : ∀ w : Nat → Int, st f r w i 0 = f i 0 := fun w => by unfold st; rw [if_neg e]
      rw [e0, e0, e0]
      grind
theorem sm_two {f : Nat → Int} {a n : Nat} (h : ∀ i, i < n → i ≠ a → i ≠ a + 1 → f i = 0) (ha : a + 1 < n) : sm f n = f a + f (a + 1) := by
  rw [sm_set (g := fun i => if i = a then 0 else f i) (k := a) (by omega) (fun i _ hne => by rw [if_neg hne]), sm_one (k := a + 1) n (fun i hi hne => by
    by_cases e : i = a
    · rw [if_pos e]
    · rw [if_neg e]; exact h i hi e hne), if_pos ha]
  simp
  omega
theorem dt_adj : ∀ k f r, r + 1 < k → (∀ c, f r c = f (r + 1) c) → dt k f = 0
  | 0, _, _, h, _ => absurd h (by omega)
  | k + 1, f, r, h, he => by
    unfold dt
    rw [sm_two (a := r) (fun i hi h1 h2 => ?_) h]
    · have e : mnr f (r + 1) = mnr f r := by
        funext x c
        unfold mnr
        by_cases e1 : x = r
        · subst e1; simp [he]
        · by_cases e2 : x < r
          · simp [e2, show x < r + 1 by omega]
          · simp [e2, show ¬ x < r + 1 by omega]
      rw [e, ← he 0, sg]
      grind
    · rw [dt_adj k (mnr f i) (if i < r then r - 1 else r) (by split <;> omega) (fun c => ?_)]
      · simp
      · unfold mnr
        by_cases e : i < r
        · simp only [if_pos e]
          rw [if_neg (by omega), if_neg (by omega), show r - 1 + 1 = r by omega]; exact he _
        · simp only [if_neg e]
          rw [if_pos (by omega), if_pos (by omega)]; exact he _
theorem st_comm {f : Nat → Nat → Int} {r t : Nat} (h : r ≠ t) (u v : Nat → Int) : st (st f r u) t v = st (st f t v) r u := by
  funext i c
  unfold st
  by_cases e1 : i = t
  · subst e1; simp [Ne.symm h]
  · simp [e1]
theorem dt_swap_of {k : Nat} {f : Nat → Nat → Int} {r t : Nat} (h : r ≠ t) (hr : r < k) (ht : t < k) (hz : ∀ u, dt k (st (st f r u) t u) = 0) (u v : Nat → Int) :
    dt k (st (st f r u) t v) = - dt k (st (st f r v) t u) := by
  have h1 := hz u
  have h2 := hz v
  have h3 := hz (fun c => u c + 1 * v c)
  rw [dt_lin k _ t u v 1 ht, st_comm h, st_comm h (fun c => u c + 1 * v c) v, dt_lin k _ r u v 1 hr, dt_lin k _ r u v 1 hr, ← st_comm h, ← st_comm h, ← st_comm h, ← st_comm h, h1, h2] at h3
  omega
theorem dt_swap_adj {k : Nat} {f : Nat → Nat → Int} {r : Nat} (h : r + 1 < k) (u v : Nat → Int) : dt k (st (st f r u) (r + 1) v) = - dt k (st (st f r v) (r + 1) u) :=
  dt_swap_of (by omega) (by omega) h (fun u => dt_adj k _ r h (fun c => by unfold st; simp)) u v
theorem st_self (f : Nat → Nat → Int) (r : Nat) : st f r (f r) = f := by
  funext i c; unfold st; by_cases e : i = r
  · subst e; simp
  · simp [e]
theorem dt_rows {k : Nat} : ∀ d r f, r + d + 1 < k → (∀ c, f r c = f (r + d + 1) c) → dt k f = 0
  | 0, r, f, h, he => dt_adj k f r h he
  | d + 1, r, f, h, he => by
    have e : f = st (st f (r + d + 1) (f (r + d + 1))) (r + d + 1 + 1) (f (r + d + 1 + 1)) := by rw [st_self, st_self]
    rw [e, dt_swap_adj (by omega), dt_rows d r _ (by omega) (fun c => ?_)]
    · rfl
    · unfold st
      rw [if_neg (by omega), if_neg (by omega), if_neg (by omega), if_pos rfl]
      exact he c
theorem dt_same {k : Nat} {f : Nat → Nat → Int} {r t : Nat} (h : r ≠ t) (hr : r < k) (ht : t < k) (he : ∀ c, f r c = f t c) : dt k f = 0 := by
  by_cases e : r < t
  · exact dt_rows (t - r - 1) r f (by omega) (fun c => by rw [show r + (t - r - 1) + 1 = t by omega]; exact he c)
  · exact dt_rows (r - t - 1) t f (by omega) (fun c => by rw [show t + (r - t - 1) + 1 = r by omega]; exact (he c).symm)
theorem dt_swp {k : Nat} {f : Nat → Nat → Int} {a b : Nat} (h : a ≠ b) (ha : a < k) (hb : b < k) : dt k (swp f a b) = - dt k f := by
  have e1 : swp f a b = st (st f a (f b)) b (f a) := by
    funext i c; unfold swp st
    by_cases e : i = b
    · simp [e]
    · by_cases e2 : i = a
      · subst e2; simp [e]
      · simp [e, e2]
  have e2 : dt k f = dt k (st (st f a (f a)) b (f b)) := by rw [st_self, st_self]
  rw [e1, e2]
  refine dt_swap_of h ha hb (fun u => dt_same h ha hb (fun c => ?_)) _ _
  unfold st; simp
theorem dt_add {k : Nat} {f : Nat → Nat → Int} {r t : Nat} (h : r ≠ t) (hr : r < k) (ht : t < k) (a : Int) : dt k (st f r (fun c => f r c + a * f t c)) = dt k f := by
  rw [dt_lin k f r _ _ a hr, st_self, dt_same h hr ht (f := st f r (f t)) (fun c => by unfold st; rw [if_pos rfl, if_neg (fun e => h e.symm)])]
  omega
theorem dt_st0 {k : Nat} {f : Nat → Nat → Int} {r : Nat} (hr : r < k) : dt k (st f r (fun _ => 0)) = 0 := by
  have := dt_lin k f r (fun _ => 0) (fun _ => 0) 1 hr
  have e : (fun c : Nat => (fun _ => (0 : Int)) c + 1 * (fun _ => (0 : Int)) c) = fun _ => 0 := by funext c; rfl
  rw [e] at this
  omega
theorem dt_scale {k : Nat} {f : Nat → Nat → Int} {r : Nat} (hr : r < k) (a : Int) : dt k (st f r (fun c => a * f r c)) = a * dt k f := by
  have := dt_lin k f r (fun _ => 0) (f r) a hr
  have e : (fun c : Nat => (fun _ => (0 : Int)) c + a * f r c) = fun c => a * f r c := by funext c; simp
  rw [e, dt_st0 hr, st_self] at this
  omega
theorem dt_zero {k : Nat} {f : Nat → Nat → Int} {r : Nat} (hr : r < k) (h : ∀ c, c < k → f r c = 0) : dt k f = 0 := by
  rw [← dt_st0 (f := f) hr]
  refine dt_ext fun i c _ hc => ?_
  unfold st
  by_cases e : i = r
  · subst e; rw [if_pos rfl, h c hc]
  · rw [if_neg e]
theorem dt_id : ∀ k, dt k (fun i c => if i = c then 1 else 0) = 1
  | 0 => rfl
  | k + 1 => by
    unfold dt
    rw [sm_one (k := 0) (k + 1) (fun i _ hne => by simp [hne]), if_pos (by omega)]
    have : mnr (fun i c => if i = c then (1 : Int) else 0) 0 = fun i c => if i = c then 1 else 0 := by
      funext r c; unfold mnr; simp
    rw [this, dt_id k]; simp [sg]
/-! ### products and elimination -/
def mm (f B : Nat → Nat → Int) (n : Nat) : Nat → Nat → Int := fun i j => sm (fun k => f i k * B k j) n
theorem mm_row (f B : Nat → Nat → Int) (n i j : Nat) : mm f B n i j = rowS f (fun k => B k j) n i := rfl
theorem mm_swp (f B : Nat → Nat → Int) (n a b : Nat) : mm (swp f a b) B n = swp (mm f B n) a b := by
  funext i j
  unfold mm swp
  by_cases e : i = b
  · simp [e]
  · by_cases e2 : i = a
    · subst e2; simp [e]
    · simp [e, e2]
theorem swp_same (f : Nat → Nat → Int) (a : Nat) : swp f a a = f := by
  funext i j; unfold swp; by_cases e : i = a <;> simp [e]
/-- The rows above k are cleared by row top, which is multiplied by v. -/
def clH (G : Nat → Nat → Int) (g : Nat → Int) (top : Nat) (v : Int) (k : Nat) : Nat → Nat → Int := fun i j => if i = top then v * G top j else if i < k then G i j - g i * (v * G top j) else G i j
theorem clH_dt {n : Nat} {G : Nat → Nat → Int} {g : Nat → Int} {top : Nat} {v : Int} (ht : top < n) : ∀ k, k ≤ n → dt n (clH G g top v k) = v * dt n G
  | 0, _ => by
    rw [← dt_scale ht]
    refine dt_ext fun i c _ _ => ?_
    unfold clH st
    by_cases e : i = top <;> simp [e]
  | k + 1, hk => by
    rw [← clH_dt (g := g) ht k (by omega)]
    by_cases e : k = top
    · refine dt_ext fun i c _ _ => ?_
      unfold clH
      by_cases e1 : i = top
      · simp [e1]
      · by_cases e2 : i < k
        · simp [e1, e2, show i < k + 1 by omega]
        · simp [e1, e2, show ¬ i < k + 1 by omega]
    · rw [← dt_add (f := clH G g top v k) (r := k) (t := top) e (by omega) ht (- g k)]
      refine dt_ext fun i c _ _ => ?_
      unfold clH st
      by_cases e1 : i = k
      · subst e1; simp [e]; grind
      · by_cases e3 : i = top
        · simp [e3, show ¬ top = k from fun h => e h.symm]
        · by_cases e2 : i < k
          · simp [e1, e2, e3, show i < k + 1 by omega]
          · simp [e1, e2, e3, show ¬ i < k + 1 by omega]
theorem elS_det {p : Int} {n c : Nat} {s : Es} (hv : vld p = true) (B : Nat → Nat → Int) (hx : ∀ i, i < n → s.f i c ≠ 0 → ¬ cg p (s.f i c) 0) :
    cg p ((elS p n c s).fac * dt n (mm (elS p n c s).f B n)) (s.fac * dt n (mm s.f B n)) := by
  by_cases hf : n ≤ fnd s.f c (n - s.piv.length) s.piv.length
  · rw [elS_none hf]; exact cg.refl _ _
  · rw [elS_found hf]
    have hle := fnd_le s.f c (n - s.piv.length) s.piv.length
    have hne := fnd_ne s.f c (n - s.piv.length) s.piv.length (by omega)
    generalize fnd s.f c (n - s.piv.length) s.piv.length = a at *
    generalize s.piv.length = top at *
    have hinv : ¬ cg p (swp s.f top a top c) 0 := by rw [swp_top]; exact hx a (by omega) hne
    simp only
    have ht : top < n := by omega
    have e1 : dt n (mm (swp s.f top a) B n) = (if a = top then 1 else -1) * dt n (mm s.f B n) := by
      rw [mm_swp]
      by_cases e : a = top
      · subst e; rw [swp_same, if_pos rfl]; omega
      · rw [dt_swp (fun h => e h.symm) ht (by omega), if_neg e]; omega
    generalize hg : swp s.f top a = g at *
    have e2 : cg p (dt n (mm (clr p g top c) B n)) (finv p (g top c) * dt n (mm g B n)) := by
      rw [← clH_dt (g := fun i => g i c) ht n (Nat.le_refl _)]
      refine dt_cg p n _ _ fun i j hi hj => ?_
      unfold clH
      have et := row_top hv g (fun k => B k j) n top c
      by_cases e : i = top
      · rw [if_pos e, e]; exact et
      · rw [if_neg e, if_pos hi]
        exact (row_other hv g (fun k => B k j) n top c e).trans ((cg.refl p _).sub ((cg.refl p _).mul et))
    have e3 : cg p (fmul p (if a = top then s.fac else fneg p s.fac) (g top c)) ((if a = top then 1 else -1) * s.fac * g top c) := by
      refine (cg_mul hv _ _).trans (cg.mul ?_ (cg.refl p _))
      by_cases e : a = top
      · rw [if_pos e, if_pos e]; exact cg.of_eq (by omega)
      · rw [if_neg e, if_neg e]; exact (cg_neg hv _).trans (cg.of_eq (by omega))
    refine (e3.mul e2).trans ?_
    rw [e1]
    refine (cg.of_eq (b := (if a = top then (1 : Int) else -1) * (if a = top then (1 : Int) else -1) * (g top c * finv p (g top c)) * (s.fac * dt n (mm s.f B n))) (by grind)).trans ?_
    have e4 : (if a = top then (1 : Int) else -1) * (if a = top then (1 : Int) else -1) = 1 := by split <;> rfl
    rw [e4]
    exact ((((cg.refl p 1).mul (cg_inv hv hinv)).mul (cg.refl p _))).trans (cg.of_eq (by grind))
theorem elR_det {p : Int} {n m : Nat} {f : Nat → Nat → Int} (hv : vld p = true) (hf : ∀ i j, i < n → j < m → 0 ≤ f i j ∧ f i j < p) (B : Nat → Nat → Int) : ∀ c, c ≤ m →
    cg p ((elR p n c f).fac * dt n (mm (elR p n c f).f B n)) (dt n (mm f B n))
  | 0, _ => cg.of_eq (by show 1 * dt n (mm f B n) = _; omega)
  | c + 1, hc => by
    rw [elR_next]
    exact (elS_det hv B (fun i hi hne => cg_ne ((elR_ok hv hf c).el i c hi (by omega)) hne)).trans (elR_det hv hf B c (by omega))
theorem Inc.far {piv : List Nat} {m : Nat} (h : Inc piv m) : ∀ d k, k + d < piv.length → piv.getD k 0 + d ≤ piv.getD (k + d) 0
  | 0, k, _ => Nat.le_refl _
  | d + 1, k, hk => by
    have h1 := Inc.far h d k (by omega)
    have h2 := h.inc (k + d) (k + (d + 1)) (by omega) hk
    omega
theorem Inc.all {piv : List Nat} {n : Nat} (h : Inc piv n) (hl : piv.length = n) {k : Nat} (hk : k < n) : piv.getD k 0 = k := by
  have h1 := h.far k 0 (by omega)
  have h2 := h.far (n - 1 - k) k (by omega)
  have h3 := h.lt (k + (n - 1 - k)) (by omega)
  rw [Nat.zero_add] at h1
  omega
/-- The determinant by elimination of a product's first factor. -/
theorem det_mm {p : Int} {n : Nat} {f : Nat → Nat → Int} (hv : vld p = true) (hf : ∀ i j, i < n → j < n → 0 ≤ f i j ∧ f i j < p) (B : Nat → Nat → Int) :
    cg p (dt n (mm f B n)) ((if (elR p n n f).piv.length = n then (elR p n n f).fac else 0) * dt n B) := by
  have h1 := elR_det (m := n) hv hf B n (Nat.le_refl _)
  have h2 := elR_rf hv hf n (Nat.le_refl _)
  have h3 := elR_inc p n f n
  have h4 := elR_ok (m := n) hv hf n
  generalize elR p n n f = es at *
  refine h1.symm.trans (cg.of_eq ?_)
  by_cases e : es.piv.length = n
  · rw [if_pos e]
    congr 1
    refine dt_ext fun i j hi hj => ?_
    unfold mm
    have e1 : ∀ k, k < n → es.f i k = if i = k then 1 else 0 := fun k hk => by
      have := h2.one i k hi (by omega)
      rwa [h3.all e hk] at this
    rw [sm_one (k := i) n (fun k hk hne => by rw [e1 k hk, if_neg (fun h => hne h.symm)]; simp), if_pos hi, e1 i hi, if_pos rfl]
    omega
  · rw [if_neg e, dt_zero (r := n - 1) (by have := h4.len; omega) (fun c _ => ?_)]
    · simp
    · unfold mm
      rw [sm_congr (g := fun _ => 0) n (fun k hk => by rw [h2.zero (n - 1) k (by have := h4.len; omega) (by have := h4.len; omega) hk]; simp), sm_zero]
theorem mm_id {f : Nat → Nat → Int} {n i j : Nat} (hj : j < n) : mm f (fun i c => if i = c then 1 else 0) n i j = f i j := by
  unfold mm
  rw [sm_one (k := j) n (fun k _ hne => by simp [hne]), if_pos hj]
  simp
theorem det_el {p : Int} {n : Nat} {f : Nat → Nat → Int} (hv : vld p = true) (hf : ∀ i j, i < n → j < n → 0 ≤ f i j ∧ f i j < p) :
    cg p (dt n f) (if (elR p n n f).piv.length = n then (elR p n n f).fac else 0) := by
  have := det_mm hv hf (fun i c => if i = c then 1 else 0)
  rw [dt_id, Int.mul_one, dt_ext (fun i j _ hj => mm_id hj)] at this
  exact this
end Go.Proofs.Ytjnlnbkdnjainaa
