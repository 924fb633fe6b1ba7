/- A region that draws its order, whose operations write: an invariant over the operations that have run. -/
import Derived.Test.YteljpelagpghcaaPre
namespace Go.Proofs.Yteljpelagpghcaa
open Go.RowKit Go.Sort

section
variable {P : Program} {ops : Array Oper} {Q : Exit → Act → World → Prop}

/-- No other exit than the normal one. -/
def only (K : Act → World → Prop) : Exit → Act → World → Prop
  | .normal, a, w => K a w
  | _, _, _ => False
theorem only_letsOut {K : Act → World → Prop} : ¬ LetsOut (only K) := fun ⟨_, _, h⟩ => h
theorem wp_of_only {o : Oper} {a : Act} {w : World} {K : Act → World → Prop} (h : o.wp P a w K (only K)) : o.wp P a w K Q := by
  unfold Oper.wp at *
  generalize (execOp a.eval o).run P w = r at *
  cases r with
  | ok n w' =>
    cases n <;> simp only [Oper.upon] at h ⊢
    case value => exact h
    case skip => exact h
    case defer => exact h
    case row => exact h
    case enter =>
      refine Calls.mono h fun e w'' he => ?_
      cases e with
      | returned v => exact he
      | panicked c => exact he.elim
      | outgrown => exact (only_letsOut he).elim
  | halt x w' => cases x <;> simp only [Oper.upon] at h ⊢; exact h.elim

theorem wpOp_of_list {i : Nat} {o : Oper} (ho : ops[i]? = some o) {a : Act} {w : World} {K : Act → World → Prop} (h : wpList P ops (only K) [o] a w) : wpOp P ops Q i K a w := by
  unfold wpOp
  simp only [ho]
  unfold wpList at h
  by_cases hw : Region.wanted o (yielded ops a.tmps) = true
  · rw [if_pos hw] at h ⊢
    rcases h with h | ⟨_, h⟩
    · exact .inl (wp_of_only h)
    · exact (only_letsOut h).elim
  · rw [if_neg hw] at h ⊢
    exact h

/-- How many have not run. -/
def left (listed : Array Bool) : Nat := listed.toList.count false
theorem left_set {listed : Array Bool} {i : Nat} (h : listed.getD i true = false) : left (listed.setIfInBounds i true) + 1 = left listed := by
  have hi : i < listed.size := by
    rcases Nat.lt_or_ge i listed.size with h' | h'
    · exact h'
    · simp [Array.getElem?_eq_none h'] at h
  have hv : listed.toList[i]'(by simpa using hi) = false := by
    simp [Array.getElem?_eq_getElem hi] at h
    simpa using h
  unfold left
  rw [Array.toList_setIfInBounds, List.count_set (h := by simpa using hi), hv]
  have : 0 < List.count false listed.toList := List.count_pos_iff.2 (by rw [← hv]; exact List.getElem_mem _)
  simp only [show ((false : Bool) == false) = true from rfl, show ((true : Bool) == false) = false from rfl, if_true, Bool.false_eq_true, if_false]
  omega

theorem ready_ne {l : List Oper} (hearly : ∀ (i : Nat) (o : Oper), l[i]? = some o → ∀ e ∈ o.after, Region.binds .any e = true → e.on < i) {listed : Array Bool} (hs : listed.size = l.length) (i : Nat) (hi : listed.getD i true = false) :
    ∃ j, j ∈ Region.ready .any l.toArray listed := by
  induction i using Nat.strongRecOn with
  | _ i ih =>
    have hil : i < listed.size := by
      rcases Nat.lt_or_ge i listed.size with h' | h'
      · exact h'
      · simp [Array.getElem?_eq_none h'] at hi
    by_cases h : ∃ j, j < i ∧ listed.getD j true = false
    · obtain ⟨j, hj, hjl⟩ := h
      exact ih j hj hjl
    · refine ⟨i, ?_⟩
      rw [mem_ready]
      have ho : l[i]? = some l[i] := List.getElem?_eq_getElem (by omega)
      refine ⟨hi, l[i], by simp, fun e he hb => ?_⟩
      have hlt := hearly i _ ho e he hb
      have : ¬ listed.getD e.on true = false := fun hh => h ⟨e.on, hlt, hh⟩
      have hel : e.on < listed.size := by omega
      simp [Array.getElem?_eq_getElem hel] at this ⊢
      exact this

theorem wpAny_inv {l : List Oper} (hearly : ∀ (i : Nat) (o : Oper), l[i]? = some o → ∀ e ∈ o.after, Region.binds .any e = true → e.on < i) (I : (Nat → Prop) → Act → World → Prop)
    (step : ∀ (i : Nat) (o : Oper) (L : Nat → Prop) (a : Act) (w : World), l[i]? = some o → ¬ L i → (∀ e ∈ o.after, Region.binds .any e = true → L e.on) → I L a w →
      wpList P l.toArray (only (I fun j => j = i ∨ L j)) [o] a w)
    (done : ∀ (L : Nat → Prop) (a : Act) (w : World), (∀ i, i < l.length → L i) → I L a w → Q .normal a w) :
    ∀ (fuel : Nat) (listed : Array Bool) (a : Act) (w : World), listed.size = l.length → left listed = fuel → I (fun j => listed.getD j false = true) a w → wpAny P .any l.toArray Q fuel listed a w := by
  have fin : ∀ (listed : Array Bool) (a : Act) (w : World), listed.size = l.length → Region.ready .any l.toArray listed = [] → I (fun j => listed.getD j false = true) a w → Q .normal a w := by
    intro listed a w hs hr hI
    refine done _ a w (fun i hi => ?_) hI
    by_cases h : listed.getD i true = false
    · obtain ⟨j, hj⟩ := ready_ne hearly hs i h
      rw [hr] at hj; cases hj
    · have hel : i < listed.size := by omega
      simp [Array.getElem?_eq_getElem hel] at h ⊢
      exact h
  intro fuel
  induction fuel with
  | zero =>
    intro listed a w hs hl hI
    have hr : Region.ready .any l.toArray listed = [] := by
      rw [List.eq_nil_iff_forall_not_mem]
      intro j hj
      have := (mem_ready.1 hj).1
      have := left_set this
      omega
    exact ⟨hr, fin listed a w hs hr hI⟩
  | succ fuel ih =>
    intro listed a w hs hl hI
    refine ⟨fun hr => fin listed a w hs hr hI, fun i hi => ?_⟩
    obtain ⟨h0, o, ho, hall⟩ := mem_ready.1 hi
    have hil : i < listed.size := by
      rcases Nat.lt_or_ge i listed.size with h' | h'
      · exact h'
      · simp [Array.getElem?_eq_none h'] at h0
    have hst := step i o (fun j => listed.getD j false = true) a w (by simpa using ho) (by simp [Array.getElem?_eq_getElem hil] at h0 ⊢; exact h0) hall hI
    refine wpOp_of_list ho ?_
    have key : ∀ a' w', I (fun j => j = i ∨ listed.getD j false = true) a' w' → wpAny P .any l.toArray Q fuel (listed.setIfInBounds i true) a' w' := by
      intro a' w' hI'
      refine ih _ a' w' (by simp [hs]) (by have := left_set h0; omega) ?_
      have e : (fun j => (listed.setIfInBounds i true).getD j false = true) = (fun j => j = i ∨ listed.getD j false = true) := by
        funext j
        by_cases hji : j = i
        · subst hji; simp [hil]
        · rw [getD_set_ne false (Ne.symm hji)]; simp [hji]
      rw [e]; exact hI'
    have only_mono : ∀ (K K' : Act → World → Prop), (∀ a w, K a w → K' a w) → ∀ a w, wpList P l.toArray (only K) [o] a w → wpList P l.toArray (only K') [o] a w := by
      intro K K' hk a w h
      unfold wpList at h ⊢
      by_cases hw : Region.wanted o (yielded l.toArray a.tmps) = true
      · rw [if_pos hw] at h ⊢
        rcases h with h | ⟨_, h⟩
        · left
          have h1 : o.wp P a w K (only K) := h
          exact Oper.wp_mono (Q := only K') (fun a w h => hk a w h) (wp_of_only (Q := only K') h1)
        · exact (only_letsOut h).elim
      · rw [if_neg hw] at h ⊢
        exact hk _ _ h
    exact only_mono _ _ key a w hst
end

/-- Each operation waits for earlier ones alone. -/
def earlyB (l : List Oper) : Bool := (List.range l.length).all fun i => match l[i]? with | some o => o.after.all fun e => !Region.binds .any e || Nat.blt e.on i | none => true
theorem early_of {l : List Oper} (h : earlyB l = true) : ∀ (i : Nat) (o : Oper), l[i]? = some o → ∀ e ∈ o.after, Region.binds .any e = true → e.on < i := by
  intro i o ho e he hb
  unfold earlyB at h
  rw [List.all_eq_true] at h
  have hi : i < l.length := (List.getElem?_eq_some_iff.1 ho).1
  have := h i (List.mem_range.2 hi)
  rw [ho] at this
  have := (Array.all_eq_true'.1 this) e he
  simpa [hb] using this

theorem region_inv {id : Nat} {Q : Exit → Act → World → Prop} {a : Act} {w : World} {l : List Oper} (hB : earlyB l = true) (I : (Nat → Prop) → Act → World → Prop)
    (start : I (fun _ => False) a { w with drawn := w.drawn + 1 })
    (step : ∀ (i : Nat) (o : Oper) (L : Nat → Prop) (a : Act) (w : World), l[i]? = some o → ¬ L i → (∀ e ∈ o.after, Region.binds .any e = true → L e.on) → I L a w →
      wpList Try.prog l.toArray (only (I fun j => j = i ∨ L j)) [o] a w)
    (done : ∀ (L : Nat → Prop) (a : Act) (w : World), (∀ i, i < l.length → L i) → I L a w → Q .normal a w) : (Code.region id l.toArray true).wp Try.prog Q a w := by
  refine wp_region_any (by kernel_rfl) ?_
  refine wpAny_inv (early_of hB) I step done _ _ _ _ (by simp) (by simp [left]) ?_
  have e : (fun j => (Array.replicate l.toArray.size false).getD j false = true) = (fun _ => False) := by
    funext j
    simp [Array.getD_eq_getD_getElem?, Array.getElem?_replicate]
    split <;> simp
  rw [e]; exact start
/-- The same; the invariant speaks of the frame and the world at the start. -/
theorem region_inv_at {id : Nat} {Q : Exit → Act → World → Prop} {a : Act} {w : World} {l : List Oper} (hB : earlyB l = true) (I : Act → World → (Nat → Prop) → Act → World → Prop)
    (start : I a w (fun _ => False) a { w with drawn := w.drawn + 1 })
    (step : ∀ (i : Nat) (o : Oper) (L : Nat → Prop) (b : Act) (v : World), l[i]? = some o → ¬ L i → (∀ e ∈ o.after, Region.binds .any e = true → L e.on) → I a w L b v →
      wpList Try.prog l.toArray (only (I a w fun j => j = i ∨ L j)) [o] b v)
    (done : ∀ (L : Nat → Prop) (b : Act) (v : World), (∀ i, i < l.length → L i) → I a w L b v → Q .normal b v) : (Code.region id l.toArray true).wp Try.prog Q a w :=
  region_inv hB (I a w) start step done

theorem after_self (w : World) : after w ⟨w.drawn, #[]⟩ = w := by simp [after_eq, Go.Sort.grow_empty]; rfl
/-- A box of two numbers that this region has made: it is there when its alloc has run, and filled when its store has run. -/
def BoxIn (W w : World) (has filled : Prop) (x : Value) (c d : Int) : Prop :=
  has → ∃ b e f, x = .pointer (some ⟨b, 0, none⟩) ∧ W.heap.size ≤ b ∧ Cell2 w b e f ∧ (filled → e = c ∧ f = d)
/-- Two boxes are apart. -/
def Apart (has1 has2 : Prop) (x y : Value) : Prop := has1 → has2 → x ≠ y
theorem BoxIn.later {W w : World} {h f h' f' : Prop} {x : Value} {c d : Int} (k : BoxIn W w h f x c d) (hh : h' → h) (hf : f' → f) (p : Regrown) : BoxIn W (after w p) h' f' x c d := fun hx => by
  obtain ⟨b, e, g, h1, h2, h3, h4⟩ := k (hh hx)
  exact ⟨b, e, g, h1, h2, h3.later p, fun y => h4 (hf y)⟩
theorem BoxIn.same {W w : World} {h f h' f' : Prop} {x : Value} {c d : Int} (k : BoxIn W w h f x c d) (hh : h' → h) (hf : f' → f) : BoxIn W w h' f' x c d := fun hx => by
  obtain ⟨b, e, g, h1, h2, h3, h4⟩ := k (hh hx)
  exact ⟨b, e, g, h1, h2, h3, fun y => h4 (hf y)⟩
theorem BoxIn.boxed {W w : World} {h f h' f' : Prop} {x : Value} {c d : Int} (k : BoxIn W w h f x c d) (hh : h' → h) (hf : f' → f) (o : Obj) : BoxIn W (w.alloc o) h' f' x c d := fun hx => by
  obtain ⟨b, e, g, h1, h2, h3, h4⟩ := k (hh hx)
  exact ⟨b, e, g, h1, h2, h3.boxed o, fun y => h4 (hf y)⟩
theorem BoxIn.made {W w : World} {h f : Prop} {c d : Int} (hW : W.heap.size ≤ w.heap.size) (t : TypeId) (hf : ¬ f) : BoxIn W (w.alloc (.cells #[.int .u64 0, .int .u64 0] t)) h f (.pointer (some ⟨w.heap.size, 0, none⟩)) c d :=
  fun _ => ⟨w.heap.size, 0, 0, rfl, hW, Cell2.new w 0 0 t, fun y => absurd y hf⟩
theorem Apart.new {W w : World} {h1 h2 f : Prop} {x : Value} {c d : Int} (k : BoxIn W w h2 f x c d) (h2' : Prop) (hh : h2' → h2) : Apart h1 h2' (.pointer (some ⟨w.heap.size, 0, none⟩)) x := fun _ hx e => by
  obtain ⟨b, _, _, e1, _, e3, _⟩ := k (hh hx)
  rw [e1] at e
  injection e with e; injection e with e; injection e with e _ _
  have := e3.lt
  omega
end Go.Proofs.Yteljpelagpghcaa
