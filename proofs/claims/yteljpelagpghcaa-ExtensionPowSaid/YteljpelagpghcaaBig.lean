/- Big regions that draw: a check of 'the order of the text serves every order' that the kernel reckons fast. -/
import Derived.Test.YteljpelagpghcaaPre
namespace Go.Proofs.Yteljpelagpghcaa
open Go.RowKit Go.Sort

/-! Blocks that were there stay below, however much has come since. -/
@[simp, go_sem] theorem lt_n1 (a k m : Nat) : a < a + 1 + k + 1 + m := by omega
@[simp, go_sem] theorem lt_n2 (a k m : Nat) : a < a + 1 + k + 1 + m + 1 := by omega
@[simp, go_sem] theorem lt_n3 (a k m n : Nat) : a < a + 1 + k + 1 + m + 1 + n := by omega
@[simp, go_sem] theorem lt_n4 (a k m n : Nat) : a < a + 1 + k + 1 + m + 1 + n + 1 := by omega
@[simp, go_sem] theorem lt_n5 (a k m n o : Nat) : a < a + 1 + k + 1 + m + 1 + n + 1 + o := by omega
@[simp, go_sem] theorem lt_n6 (a k m n o : Nat) : a < a + 1 + k + 1 + m + 1 + n + 1 + o + 1 := by omega

def pairsOk (md : Region.Mode) (ops : Array Oper) (x : Oper) (k : Nat) : List Oper → Bool
  | [] => true
  | y :: r => (x.apart ops y || y.after.any (fun e => Region.binds md e && Nat.beq e.on k)) && pairsOk md ops x k r
def fastFrom (md : Region.Mode) (ops : Array Oper) : Nat → List Oper → Bool
  | _, [] => true
  | k, x :: r => x.after.all (fun e => !Region.binds md e || Nat.blt e.on k) && pairsOk md ops x k r && fastFrom md ops (k + 1) r
def fastB (md : Region.Mode) (l : List Oper) : Bool := Region.noSelect l.toArray && fastFrom md l.toArray 0 l

theorem pairsOk_spec {md : Region.Mode} {ops : Array Oper} {x : Oper} {k : Nat} : ∀ (r : List Oper), pairsOk md ops x k r = true → ∀ y ∈ r, (x.apart ops y || y.after.any (fun e => Region.binds md e && Nat.beq e.on k)) = true
  | [], _, _, hy => by cases hy
  | z :: r, h, y, hy => by
    simp only [pairsOk, Bool.and_eq_true] at h
    rcases List.mem_cons.1 hy with e | hy
    · subst e; exact h.1
    · exact pairsOk_spec r h.2 y hy

theorem lexFrom_of_fast {md : Region.Mode} {ops : Array Oper} : ∀ (l : List Oper) (k : Nat) (listed : Array Bool), k + l.length = ops.size → (∀ j, l[j]? = ops[k + j]?) → (∀ j, j < ops.size → listed[j]? = some (decide (j < k))) → listed.size = ops.size →
    fastFrom md ops k l = true → Region.lexFrom md ops l.length k listed = true
  | [], k, listed, hk, hl, hlist, hsz, _ => by
    have : ops.size = k := by simpa using hk.symm
    show (Region.ready md ops listed).isEmpty = true
    rw [List.isEmpty_iff]
    unfold Region.ready
    rw [List.filter_eq_nil_iff]
    intro i hi
    have hi' := List.mem_range.1 hi
    have h1 := hlist i hi'
    simp [Array.getD_eq_getD_getElem?, h1]
    intro h; omega
  | x :: r, k, listed, hk, hl, hlist, hsz, h => by
    simp only [fastFrom, Bool.and_eq_true] at h
    obtain ⟨⟨h1, h2⟩, h3⟩ := h
    have hk0 : k < ops.size := by simp only [List.length_cons] at hk; omega
    have h0 : ops[k]? = some x := by simpa using (hl 0).symm
    have hrest : ∀ j, r[j]? = ops[(k + 1) + j]? := fun j => by have := hl (j + 1); simpa [Nat.add_assoc, Nat.add_comm 1 j] using this
    show ((Region.ready md ops listed).contains k && Region.free md ops listed k && Region.lexFrom md ops r.length (k + 1) (listed.setIfInBounds k true)) = true
    rw [Bool.and_eq_true, Bool.and_eq_true]
    refine ⟨⟨?_, ?_⟩, ?_⟩
    · have hm : k ∈ Region.ready md ops listed := by
        unfold Region.ready
        rw [List.mem_filter]
        refine ⟨List.mem_range.2 hk0, ?_⟩
        have hlk := hlist k hk0
        simp only [Array.getD_eq_getD_getElem?, hlk, h0]
        simp only [Nat.lt_irrefl, decide_false, Option.getD_some, Bool.not_false, Bool.true_and, Option.map_some]
        rw [Array.all_eq_true'] at h1 ⊢
        intro e he
        have := h1 e he
        rw [Bool.or_eq_true] at this ⊢
        rcases this with h | h
        · exact .inl h
        · have hek : e.on < k := by simpa using h
          right
          rw [hlist e.on (by omega)]
          simp [hek]
      simpa using hm
    · simp only [Region.free, h0, List.all_eq_true, List.mem_range]
      intro j hj
      rcases Nat.lt_trichotomy j k with hjk | hjk | hjk
      · have hlj := hlist j hj
        simp [Array.getD_eq_getD_getElem?, hlj, hjk]
      · simp [hjk]
      · obtain ⟨y, hy⟩ : ∃ y, ops[j]? = some y := ⟨ops[j], Array.getElem?_eq_getElem hj⟩
        have hyr : r[j - (k + 1)]? = some y := by rw [hrest, show k + 1 + (j - (k + 1)) = j from by omega, hy]
        have := pairsOk_spec r h2 y (List.mem_of_getElem? hyr)
        rw [hy]
        simp only [Bool.or_eq_true] at this ⊢
        right
        rcases this with h | h
        · exact .inr h
        · refine .inl ?_
          have hb : (fun e : Edge => Region.binds md e && e.on == k) = (fun e : Edge => Region.binds md e && Nat.beq e.on k) := by
            funext e; congr 1; rw [Bool.eq_iff_iff]; simp
          rw [hb]; exact h
    · refine lexFrom_of_fast r (k + 1) _ (by simp only [List.length_cons] at hk; omega) hrest ?_ (by simp [hsz]) h3
      intro j hj
      rw [Array.getElem?_setIfInBounds]
      by_cases e : k = j
      · subst e
        rw [if_pos rfl, if_pos (by omega)]
        simp
      · rw [if_neg e, hlist j hj]
        congr 1
        rw [Bool.eq_iff_iff]; simp; omega

theorem lexB_of_fast {md : Region.Mode} {l : List Oper} (h : fastB md l = true) : Region.lexB md l.toArray = true := by
  unfold fastB at h
  rw [Bool.and_eq_true] at h
  unfold Region.lexB
  rw [Bool.and_eq_true]
  refine ⟨h.1, ?_⟩
  have := lexFrom_of_fast (md := md) (ops := l.toArray) l 0 (Array.replicate l.toArray.size false) (by simp) (by simp) (fun j hj => by simp at hj; simp [hj]) (by simp) h.2
  simpa using this

theorem region_big {id : Nat} {Q : Exit → Act → World → Prop} {a : Act} {w : World} {l : List Oper} (hB : fastB .any l = true)
    (h : wpQuiet Try.prog l.toArray (fun w' => ∃ p : Regrown, w' = after w p) (fun a' => ∀ p : Regrown, Q .normal a' (after w p)) l a) : (Code.region id l.toArray true).wp Try.prog Q a w :=
  region_quiet (lexB_of_fast hB) h
theorem region_big1 {id : Nat} {Q : Exit → Act → World → Prop} {a : Act} {w : World} {p : Regrown} {l : List Oper} (hB : fastB .any l = true)
    (h : wpQuiet Try.prog l.toArray (fun w' => ∃ p : Regrown, w' = after w p) (fun a' => ∀ p : Regrown, Q .normal a' (after w p)) l a) : (Code.region id l.toArray true).wp Try.prog Q a (after w p) :=
  region_quiet1 (lexB_of_fast hB) h
end Go.Proofs.Yteljpelagpghcaa
