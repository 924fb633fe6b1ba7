/- A region that draws its order, whose last operation waits for all others: first the others, under a condition that they keep; then the last. -/
import Derived.Test.YtjnlnbkdnjainaaQA
import Derived.Deep.RegionHeld3
namespace Go.Proofs.Ytjnlnbkdnjainaa

section
variable {P : Program}
theorem upon_monoQ {o : Oper} {a : Act} {w : World} {K : Act → World → Prop} {Q Q' : Exit → Act → World → Prop} (hq : ∀ e a w, e ≠ .normal → Q e a w → Q' e a w) (h : o.wp P a w K Q) : o.wp P a w K Q' := by
  have hl : LetsOut Q → LetsOut Q' := fun ⟨a, w, h⟩ => ⟨a, w, hq _ _ _ (by simp) h⟩
  unfold Oper.wp at *
  generalize (execOp a.eval o).run P w = r at *
  cases r with
  | ok n w' =>
    cases n <;> simp only [Oper.upon] at h ⊢ <;>
      first
        | exact h
        | exact Calls.mono h (fun e w'' he => by cases e <;> first | exact he | exact hl he | exact hq _ _ _ (by simp) he)
        | exact Rows.mono h (fun _ _ he => he)
  | halt x w' => cases x <;> simp only [Oper.upon] at h ⊢ <;> first | exact h | exact hl h | exact hq _ _ _ (by simp) h

/-- The post of the others: at their end the last operation comes up. -/
def stripQ (P : Program) (pre : List Oper) (last : Oper) (Q : Exit → Act → World → Prop) : Exit → Act → World → Prop := fun e a w =>
  match e with
  | .normal => wpList P (pre ++ [last]).toArray Q [last] a w
  | e => Q e a w
theorem stripQ_other {pre : List Oper} {last : Oper} {Q : Exit → Act → World → Prop} : ∀ e a w, e ≠ .normal → stripQ P pre last Q e a w → Q e a w := fun e a w hne h => by
  cases e <;> first | exact absurd rfl hne | exact h
theorem stripQ_last {pre : List Oper} {last : Oper} {Q : Exit → Act → World → Prop} {a : Act} {w : World} (h : stripQ P pre last Q .normal a w) : wpOp P (pre ++ [last]).toArray Q pre.length (fun a w => Q .normal a w) a w := by
  have h' : wpList P (pre ++ [last]).toArray Q [last] a w := h
  unfold wpOp
  simp only [List.getElem?_toArray, List.getElem?_append_right (Nat.le_refl _), Nat.sub_self, List.getElem?_cons_zero]
  exact h'
theorem wpOp_monoQ {ops : Array Oper} {Q Q' : Exit → Act → World → Prop} {i : Nat} {K : Act → World → Prop} {a : Act} {w : World} (hq : ∀ e a w, e ≠ .normal → Q e a w → Q' e a w) (h : wpOp P ops Q i K a w) : wpOp P ops Q' i K a w := by
  have hl : LetsOut Q → LetsOut Q' := fun ⟨a, w, h⟩ => ⟨a, w, hq _ _ _ (by simp) h⟩
  unfold wpOp at *
  cases ho : ops[i]? with
  | none => rw [ho] at h; exact h
  | some o =>
    rw [ho] at h
    simp only [] at h ⊢
    split
    · rename_i hw; rw [if_pos hw] at h; exact h.imp (upon_monoQ hq) (fun h => ⟨h.1, hl h.2⟩)
    · rename_i hw; rw [if_neg hw] at h; exact h

theorem wpAny_strip {pre : List Oper} {last : Oper} (ok : TailOk pre last) {Q : Exit → Act → World → Prop} :
    ∀ (fuel : Nat) (listed : Array Bool) (a : Act) (w : World), listed.size = pre.length →
      wpAny P .any pre.toArray (stripQ P pre last Q) fuel listed a w → wpAny P .any (pre ++ [last]).toArray Q (fuel + 1) (listed.push false) a w := by
  intro fuel
  induction fuel with
  | zero =>
    intro listed a w hs h
    refine wpAny_last ok hs (fun j hj => ?_) (stripQ_last h.2) 0
    cases hf : listed.getD j false with
    | true => rfl
    | false => exact absurd h.1 (ready_some ok hs ⟨j, hj, hf⟩).2
  | succ fuel ih =>
    intro listed a w hs h
    by_cases hnot : ∃ j, j < pre.length ∧ listed.getD j false = false
    · obtain ⟨hr, hne⟩ := ready_some ok hs hnot
      refine ⟨fun h0 => ?_, fun i hi => ?_⟩
      · exfalso
        cases hx : Region.ready .any pre.toArray listed with
        | nil => exact hne hx
        | cons x xs =>
          have : x ∈ Region.ready .any (pre ++ [last]).toArray (listed.push false) := (hr x).2 (by rw [hx]; simp)
          rw [h0] at this; cases this
      · have hi' := (hr i).1 hi
        have hil : i < pre.length := by
          obtain ⟨_, o, ho, _⟩ := mem_ready.1 hi'
          have := (Array.getElem?_eq_some_iff.1 ho).1
          simpa using this
        have hq := h.2 i hi'
        rw [set_push (by omega)]
        exact wpOp_append ok hil (wpOp_monoQ stripQ_other (wpOp_mono (fun a' w' hk => ih _ a' w' (by simp [hs]) hk) hq))
    · have hall : ∀ j, j < pre.length → listed.getD j false = true := fun j hj => by
        cases hf : listed.getD j false with
        | true => rfl
        | false => exact absurd ⟨j, hj, hf⟩ hnot
      have hnil : Region.ready .any pre.toArray listed = [] := by
        rw [List.eq_nil_iff_forall_not_mem]
        intro i hi
        obtain ⟨h1, o, ho, _⟩ := mem_ready.1 hi
        have hil : i < pre.length := by
          have := (Array.getElem?_eq_some_iff.1 ho).1
          simpa using this
        have h2 := hall i hil
        simp only [Array.getD_eq_getD_getElem?] at h1 h2
        rw [Array.getElem?_eq_getElem (by omega)] at h1 h2
        simp at h1 h2
        rw [h1] at h2; cases h2
      exact wpAny_last ok hs hall (stripQ_last (h.1 hnil)) (fuel + 1)

/-- The beginning: the others are walked under S ('wpAnyH'), the last stands behind them. -/
theorem wp_region_strip {S : World → Prop} {id : Nat} {Q : Exit → Act → World → Prop} {a : Act} {w : World} {l : List Oper} (pre : List Oper) (last : Oper) (hl : l = pre ++ [last]) (hm : P.follows .mixedOrders = true) (hT : tailB pre last = true)
    (hS : S w.drew) (h : S w.drew → wpAnyH P .any pre.toArray (stripQ P pre last Q) S pre.length (Array.replicate pre.length false) a w.drew) : (Code.region id l.toArray true).wp P Q a w := by
  subst hl
  have ok := tailB_ok hT
  refine wp_region_any hm ?_
  have := wpAny_strip (P := P) ok (Q := Q) pre.length (Array.replicate pre.length false) a w.drew (by simp) (wpAny_of_held _ _ _ _ (h hS))
  have e : (Array.replicate pre.length false).push false = Array.replicate (pre ++ [last]).length false := by simp [Array.replicate_succ]
  rw [e] at this
  simpa using this
end
theorem region_strip {S : World → Prop} {id : Nat} {Q : Exit → Act → World → Prop} {a : Act} {w : World} {l : List Oper} (hl : l.isEmpty = false) (hT : tailB (initOf l) (lastOf l) = true) (hS : S w.drew)
    (h : S w.drew → wpAnyH Try.prog .any (initOf l).toArray (stripQ Try.prog (initOf l) (lastOf l) Q) S (initOf l).length (Array.replicate (initOf l).length false) a w.drew) : (Code.region id l.toArray true).wp Try.prog Q a w :=
  wp_region_strip (initOf l) (lastOf l) (init_last l (by intro h; simp [h] at hl)) (by kernel_rfl) hT hS h
end Go.Proofs.Ytjnlnbkdnjainaa
