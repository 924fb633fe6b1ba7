/- A region that draws its order, whose operations but the last are quiet in a class of worlds and whose last waits for all others (a store of what they made): one walk. -/
import Derived.Deep.QuietTactic
namespace Go.Proofs.Ytkpkgjniicnkcaa

section
variable {P : Program} {C : World → Prop}

/-- The last operation waits for all others; each operation waits for earlier ones only; guards lie among the others. -/
def tailB (pre : List Oper) (last : Oper) : Bool :=
  ((List.range pre.length).all fun j => last.after.any fun e => e.on == j && Region.binds .any e) &&
  (last.after.all fun e => decide (e.on < pre.length)) &&
  ((List.range pre.length).all fun i => ((pre[i]?).map fun o => (o.after.all fun e => decide (e.on < i)) && (match o.guard with | some (j, _) => decide (j < pre.length) | none => true)).getD true)

structure TailOk (pre : List Oper) (last : Oper) : Prop where
  waits : ∀ j, j < pre.length → ∃ e ∈ last.after, e.on = j ∧ Region.binds .any e = true
  back : ∀ e ∈ last.after, e.on < pre.length
  early : ∀ (i : Nat) (o : Oper), pre[i]? = some o → ∀ e ∈ o.after, e.on < i
  guards : ∀ (i : Nat) (o : Oper) (j : Nat) (b : Bool), pre[i]? = some o → o.guard = some (j, b) → j < pre.length

theorem tailB_ok {pre : List Oper} {last : Oper} (h : tailB pre last = true) : TailOk pre last := by
  simp only [tailB, Bool.and_eq_true, List.all_eq_true, List.mem_range] at h
  obtain ⟨⟨h1, h2⟩, h3⟩ := h
  refine ⟨fun j hj => ?_, fun e he => ?_, fun i o ho e he => ?_, fun i o j b ho hg => ?_⟩
  · have := h1 j hj
    obtain ⟨e, he, hb⟩ := (Array.any_eq_true'.1 this)
    simp only [Bool.and_eq_true, beq_iff_eq] at hb
    exact ⟨e, he, hb.1, hb.2⟩
  · have := (Array.all_eq_true'.1 h2) e he
    simpa using this
  · have hi : i < pre.length := (List.getElem?_eq_some_iff.1 ho).1
    have := h3 i hi
    rw [ho] at this
    simp only [Option.map_some, Option.getD_some, Bool.and_eq_true] at this
    simpa using (Array.all_eq_true'.1 this.1) e he
  · have hi : i < pre.length := (List.getElem?_eq_some_iff.1 ho).1
    have := h3 i hi
    rw [ho] at this
    simp only [Option.map_some, Option.getD_some, Bool.and_eq_true, hg] at this
    simpa using this.2

theorem getD_push_lt {l : Array Bool} {j : Nat} (h : j < l.size) (d b : Bool) : (l.push b).getD j d = l.getD j d := by
  simp only [Array.getD_eq_getD_getElem?, Array.getElem?_push]
  rw [if_neg (by omega)]

theorem ready_all {pre : List Oper} {last : Oper} (ok : TailOk pre last) {listed : Array Bool} (hs : listed.size = pre.length) (hall : ∀ j, j < pre.length → listed.getD j false = true) :
    ∀ i, i ∈ Region.ready .any (pre ++ [last]).toArray (listed.push false) ↔ i = pre.length := by
  intro i
  rw [mem_ready]
  constructor
  · rintro ⟨h1, o, ho, _⟩
    have hi : i < (pre ++ [last]).length := by
      have := (Array.getElem?_eq_some_iff.1 ho).1
      simpa using this
    simp at hi
    rcases Nat.lt_or_ge i pre.length with h | h
    · rw [getD_push_lt (by omega)] at h1
      have h2 := hall i h
      simp only [Array.getD_eq_getD_getElem?] at h1 h2
      rw [Array.getElem?_eq_getElem (by omega)] at h1 h2
      simp at h1 h2
      rw [h1] at h2; cases h2
    · omega
  · rintro rfl
    refine ⟨?_, last, by simp, fun e he _ => ?_⟩
    · simp only [Array.getD_eq_getD_getElem?, Array.getElem?_push, hs, if_true, Option.getD_some]
    · rw [getD_push_lt (by rw [hs]; exact ok.back e he)]
      exact hall _ (ok.back e he)

theorem ready_some {pre : List Oper} {last : Oper} (ok : TailOk pre last) {listed : Array Bool} (hs : listed.size = pre.length) (hnot : ∃ j, j < pre.length ∧ listed.getD j false = false) :
    (∀ i, i ∈ Region.ready .any (pre ++ [last]).toArray (listed.push false) ↔ i ∈ Region.ready .any pre.toArray listed) ∧ Region.ready .any pre.toArray listed ≠ [] := by
  constructor
  · intro i
    rw [mem_ready, mem_ready]
    constructor
    · rintro ⟨h1, o, ho, h2⟩
      have hi : i < (pre ++ [last]).length := by
        have := (Array.getElem?_eq_some_iff.1 ho).1
        simpa using this
      simp at hi
      rcases Nat.lt_or_ge i pre.length with h | h
      · have ho' : pre[i]? = some o := by simpa [List.getElem?_append_left h] using ho
        refine ⟨by rw [getD_push_lt (by omega)] at h1; exact h1, o, by simpa using ho', fun e he hb => ?_⟩
        have := h2 e he hb
        rw [getD_push_lt (by have := ok.early i o ho' e he; omega)] at this
        exact this
      · exfalso
        have hin : i = pre.length := by omega
        subst hin
        have ho' : last = o := by simpa using ho
        subst ho'
        obtain ⟨j, hj, hf⟩ := hnot
        obtain ⟨e, he, hej, hb⟩ := ok.waits j hj
        have := h2 e he hb
        rw [hej, getD_push_lt (by omega), hf] at this
        cases this
    · rintro ⟨h1, o, ho, h2⟩
      have hi : i < pre.length := by
        have := (Array.getElem?_eq_some_iff.1 ho).1
        simpa using this
      have ho' : pre[i]? = some o := by simpa using ho
      refine ⟨by rw [getD_push_lt (by omega)]; exact h1, o, by simpa [List.getElem?_append_left hi] using ho', fun e he hb => ?_⟩
      rw [getD_push_lt (by have := ok.early i o ho' e he; omega)]
      exact h2 e he hb
  · -- the first that is not listed is ready
    obtain ⟨j, hj, hf⟩ := hnot
    have least : ∀ n, (∃ j, j < n ∧ j < pre.length ∧ listed.getD j false = false) → ∃ j, j < pre.length ∧ listed.getD j false = false ∧ ∀ k, k < j → listed.getD k false = true := by
      intro n
      induction n with
      | zero => rintro ⟨j, h, _⟩; omega
      | succ n ih =>
        rintro ⟨j, h1, h2, h3⟩
        by_cases h : ∃ j, j < n ∧ j < pre.length ∧ listed.getD j false = false
        · exact ih h
        · refine ⟨j, h2, h3, fun k hk => ?_⟩
          cases hk' : listed.getD k false with
          | true => rfl
          | false => exact absurd ⟨k, by omega, by omega, hk'⟩ h
    obtain ⟨i, hi, hif, hmin⟩ := least (j + 1) ⟨j, by omega, hj, hf⟩
    intro h0
    have : i ∈ Region.ready .any pre.toArray listed := by
      rw [mem_ready]
      refine ⟨?_, pre[i], by simp [hi], fun e he _ => hmin _ (ok.early i pre[i] (by simp [hi]) e he)⟩
      simp only [Array.getD_eq_getD_getElem?] at hif ⊢
      rw [Array.getElem?_eq_getElem (by omega)] at hif ⊢
      exact hif
    rw [h0] at this
    cases this

theorem yielded_append {pre : List Oper} {last : Oper} (tmps : Array Value) {j : Nat} (h : j < pre.length) : yielded (pre ++ [last]).toArray tmps j = yielded pre.toArray tmps j := by
  simp [yielded, List.getElem?_append_left h]

theorem wpOp_append {pre : List Oper} {last : Oper} (ok : TailOk pre last) {Q : Exit → Act → World → Prop} {K : Act → World → Prop} {i : Nat} (hi : i < pre.length) {a : Act} {w : World}
    (h : wpOp P pre.toArray Q i K a w) : wpOp P (pre ++ [last]).toArray Q i K a w := by
  unfold wpOp at *
  have e1 : (pre ++ [last]).toArray[i]? = pre.toArray[i]? := by simp [List.getElem?_append_left hi]
  rw [e1]
  have e2 : pre.toArray[i]? = some pre[i] := by simp [hi]
  rw [e2] at h ⊢
  have e3 : Region.wanted pre[i] (yielded (pre ++ [last]).toArray a.tmps) = Region.wanted pre[i] (yielded pre.toArray a.tmps) := by
    unfold Region.wanted
    cases hg : pre[i].guard with
    | none => rfl
    | some g =>
      obtain ⟨j, b⟩ := g
      simp only []
      rw [yielded_append _ (ok.guards i pre[i] j b (by simp [hi]) hg)]
  dsimp only at h ⊢
  rw [e3]
  exact h

theorem set_push {l : Array Bool} {i : Nat} (h : i < l.size) (b c : Bool) : (l.push b).setIfInBounds i c = (l.setIfInBounds i c).push b := by
  apply Array.ext_getElem?
  intro k
  rw [Array.getElem?_setIfInBounds]
  simp only [Array.getElem?_push, Array.size_setIfInBounds, Array.size_push]
  by_cases hk : i = k
  · subst hk
    rw [if_pos rfl, if_pos (by omega), if_neg (by omega)]
    simp [h]
  · rw [if_neg hk]
    by_cases hk2 : k = l.size
    · simp [hk2]
    · rw [if_neg hk2, if_neg hk2, Array.getElem?_setIfInBounds, if_neg hk]

/-- The tail: nothing is left but the last operation. -/
theorem wpAny_last {pre : List Oper} {last : Oper} (ok : TailOk pre last) {Q : Exit → Act → World → Prop} {listed : Array Bool} (hs : listed.size = pre.length) (hall : ∀ j, j < pre.length → listed.getD j false = true)
    {a : Act} {w : World} (h : wpOp P (pre ++ [last]).toArray Q pre.length (fun a w => Q .normal a w) a w) : ∀ fuel, wpAny P .any (pre ++ [last]).toArray Q (fuel + 1) (listed.push false) a w := by
  intro fuel
  have hr := ready_all ok hs hall
  have hdone : Region.ready .any (pre ++ [last]).toArray ((listed.push false).setIfInBounds pre.length true) = [] := by
    rw [List.eq_nil_iff_forall_not_mem]
    intro i hi
    rw [mem_ready] at hi
    obtain ⟨h1, o, ho, _⟩ := hi
    have hil : i < (pre ++ [last]).length := by
      have := (Array.getElem?_eq_some_iff.1 ho).1
      simpa using this
    simp at hil
    simp only [Array.getD_eq_getD_getElem?, Array.getElem?_setIfInBounds, Array.size_push] at h1
    by_cases hk : pre.length = i
    · rw [if_pos hk, if_pos (by omega)] at h1
      simp at h1
    · rw [if_neg hk, Array.getElem?_push, if_neg (by omega)] at h1
      have h2 := hall i (by omega)
      simp only [Array.getD_eq_getD_getElem?] at h2
      rw [Array.getElem?_eq_getElem (by omega)] at h1 h2
      simp at h1 h2
      rw [h1] at h2; cases h2
  refine ⟨fun h0 => ?_, fun i hi => ?_⟩
  · have : pre.length ∈ Region.ready .any (pre ++ [last]).toArray (listed.push false) := (hr _).2 rfl
    rw [h0] at this; cases this
  · rw [(hr i).1 hi]
    refine wpOp_mono (fun a' w' hq => ?_) h
    cases fuel with
    | zero => exact ⟨hdone, hq⟩
    | succ f => exact ⟨fun _ => hq, by rw [hdone]; simp⟩

theorem wpAny_tail {pre : List Oper} {last : Oper} (ok : TailOk pre last) {Q : Exit → Act → World → Prop} :
    ∀ (fuel : Nat) (listed : Array Bool) (a : Act) (w : World), listed.size = pre.length → C w →
      wpAnyQ P .any pre.toArray C (fun a' => ∀ w', C w' → wpOp P (pre ++ [last]).toArray Q pre.length (fun a w => Q .normal a w) a' w') fuel listed a → wpAny P .any (pre ++ [last]).toArray Q (fuel + 1) (listed.push false) a w := by
  intro fuel
  induction fuel with
  | zero =>
    intro listed a w hs hC h
    refine wpAny_last ok hs (fun j hj => ?_) (h.2 w hC) 0
    cases hf : listed.getD j false with
    | true => rfl
    | false => exact absurd h.1 (ready_some ok hs ⟨j, hj, hf⟩).2
  | succ fuel ih =>
    intro listed a w hs hC h
    by_cases hnot : ∃ j, j < pre.length ∧ listed.getD j false = false
    · obtain ⟨hr, hne⟩ := ready_some ok hs hnot
      refine ⟨fun h0 => ?_, fun i hi => ?_⟩
      · exfalso
        cases hx : Region.ready .any pre.toArray listed with
        | nil => exact hne hx
        | cons x xs =>
          have : x ∈ Region.ready .any (pre ++ [last]).toArray (listed.push false) := (hr x).2 (by rw [hx]; simp)
          rw [h0] at this; cases this
      · have hi' := (hr i).1 hi
        have hil : i < pre.length := by
          obtain ⟨_, o, ho, _⟩ := mem_ready.1 hi'
          have := (Array.getElem?_eq_some_iff.1 ho).1
          simpa using this
        have hq := h.2 i hi'
        rw [set_push (by omega)]
        exact wpOp_append ok hil (wpOp_of_qOp hC (fun a' w' hw' hk => ih _ a' w' (by simp [hs]) hw' hk) hq)
    · have hall : ∀ j, j < pre.length → listed.getD j false = true := fun j hj => by
        cases hf : listed.getD j false with
        | true => rfl
        | false => exact absurd ⟨j, hj, hf⟩ hnot
      have hnil : Region.ready .any pre.toArray listed = [] := by
        rw [List.eq_nil_iff_forall_not_mem]
        intro i hi
        obtain ⟨h1, o, ho, _⟩ := mem_ready.1 hi
        have hil : i < pre.length := by
          have := (Array.getElem?_eq_some_iff.1 ho).1
          simpa using this
        have h2 := hall i hil
        simp only [Array.getD_eq_getD_getElem?] at h1 h2
        rw [Array.getElem?_eq_getElem (by omega)] at h1 h2
        simp at h1 h2
        rw [h1] at h2; cases h2
      exact wpAny_last ok hs hall (h.1 hnil w hC) (fuel + 1)

/-- **One walk**: the operations but the last in the text's order, quiet in the class; then the last. -/
theorem wp_region_tail {id : Nat} {Q : Exit → Act → World → Prop} {a : Act} {w : World} {l : List Oper} (pre : List Oper) (last : Oper) (hl : l = pre ++ [last]) (hm : P.follows .mixedOrders = true)
    (hB : Region.lexB .any pre.toArray = true) (hT : tailB pre last = true) (hC : C { w with drawn := w.drawn + 1 })
    (h : wpQuiet P pre.toArray C (fun a' => ∀ w', C w' → wpList P l.toArray Q [last] a' w') pre a) : (Code.region id l.toArray true).wp P Q a w := by
  subst hl
  have ok := tailB_ok hT
  have hB' := hB
  simp only [Region.lexB, Bool.and_eq_true] at hB'
  refine wp_region_any hm ?_
  have key := wpAnyQ_lex (P := P) (C := C) (md := .any) (ops := pre.toArray) (Q := fun a' => ∀ w', C w' → wpOp P (pre ++ [last]).toArray Q pre.length (fun a w => Q .normal a w) a' w') hB'.1 pre 0 (Array.replicate pre.length false) a (by simp) (by simpa using hB'.2) (by
    have hm2 : ∀ (l : List Oper) (a : Act), wpQuiet P pre.toArray C (fun a' => ∀ w', C w' → wpList P (pre ++ [last]).toArray Q [last] a' w') l a → wpQuiet P pre.toArray C (fun a' => ∀ w', C w' → wpOp P (pre ++ [last]).toArray Q pre.length (fun a w => Q .normal a w) a' w') l a := by
      intro l
      induction l with
      | nil =>
        intro a h w' hw'
        have := h w' hw'
        unfold wpOp
        simp only [List.getElem?_toArray, List.getElem?_append_right (Nat.le_refl _), Nat.sub_self, List.getElem?_cons_zero]
        exact this
      | cons o l ih =>
        intro a h
        unfold wpQuiet at h ⊢
        split
        · rename_i hw; rw [if_pos hw] at h; exact Oper.quiet_mono (ih) h
        · rename_i hw; rw [if_neg hw] at h; exact ih _ h
    exact hm2 pre a h)
  have := wpAny_tail (P := P) (C := C) ok (Q := Q) pre.length (Array.replicate pre.length false) a { w with drawn := w.drawn + 1 } (by simp) hC (by simpa using key)
  have e : (Array.replicate pre.length false).push false = Array.replicate (pre ++ [last]).length false := by simp [Array.replicate_succ]
  rw [e] at this
  simpa using this
end
end Go.Proofs.Ytkpkgjniicnkcaa
