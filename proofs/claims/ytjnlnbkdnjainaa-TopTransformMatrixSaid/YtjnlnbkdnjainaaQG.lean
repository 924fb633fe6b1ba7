/- Lemmas of several texts in one file: Rbl, Elb. -/
import Derived.Test.YtjnlnbkdnjainaaHMtr
import Derived.Test.YtjnlnbkdnjainaaQC
import Derived.Test.YtjnlnbkdnjainaaHEl
/- A matrix built row by row by append, each row by append of its numbers. -/
namespace Go.Proofs.Ytjnlnbkdnjainaa
open Go.RowKit Go.Sort

set_option maxRecDepth 100000
def rowsV (bf cf : Nat → Nat) (i m : Nat) : List Value := (List.range i).map fun k => .slice (some ⟨bf k, 0, none⟩) m (cf k)
structure Rbl (W w : World) (v : Value) (i m : Nat) (bf cf : Nat → Nat) (f : Nat → Nat → Int) : Prop where
  below : Below W.heap.size W w
  own : w.ownsRow W.heap.size 32 1 v i (rowsV bf cf i m)
  row : ∀ k, k < i → Pfx w (bf k) 22 m (fun j => .int .u64 (f k j))
  ge : ∀ k, k < i → W.heap.size ≤ bf k ∧ v.ownBlock ≠ some (bf k)
  inj : ∀ a b, a < i → b < i → bf a = bf b → a = b
  some' : ∃ b, v.ownBlock = some b
  cap : ∀ k, k < i → m ≤ cf k
namespace Rbl
variable {W w w' : World} {v : Value} {i m : Nat} {bf cf : Nat → Nat} {f f' : Nat → Nat → Int}
theorem keep (h : Rbl W w v i m bf cf f) (hb : Below w.heap.size w w') : Rbl W w' v i m bf cf f := by
  refine ⟨Below.next h.below hb, ⟨h.own.1, ?_⟩, fun k hk => (h.row k hk).of_block (hb.block _ (h.row k hk).lt), h.ge, h.inj, h.some', h.cap⟩
  rcases h.own.2 with e | ⟨g, cap, cur, e, hg, hc, rest⟩
  · exact .inl e
  · exact .inr ⟨g, cap, cur, e, hg, by rw [hb.block g (Array.getElem?_eq_some_iff.1 hc).1]; exact hc, rest⟩
theorem congr (h : Rbl W w v i m bf cf f) (e : ∀ a j, a < i → j < m → f a j = f' a j) : Rbl W w v i m bf cf f' :=
  ⟨h.below, h.own, fun k hk => (h.row k hk).congr fun j hj => by rw [e k j hk hj], h.ge, h.inj, h.some', h.cap⟩
theorem empty (W : World) (m : Nat) (bf cf : Nat → Nat) (f : Nat → Nat → Int) : Rbl W (W.alloc (.cells #[] 32)) (.slice (some ⟨W.heap.size, 0, none⟩) 0 0) 0 m bf cf f :=
  ⟨(Grown.empty 32 W).below, (Grown.empty 32 W).own, fun k hk => absurd hk (by omega), fun k hk => absurd hk (by omega), fun a b ha => absurd ha (by omega), ⟨_, rfl⟩, fun k hk => absurd hk (by omega)⟩
theorem done (h : Rbl W w v i m bf cf f) : ∃ B C, v = .slice (some ⟨B, 0, none⟩) i C ∧ Mx W w B i m bf cf f := by
  rcases h.own.2 with ⟨e, _⟩ | ⟨g, cap, cur, e, hg, hc, hcap, hm, hsz, htk⟩
  · obtain ⟨b, hb⟩ := h.some'
    rw [e] at hb; cases hb
  · refine ⟨g, cap, e, h.below, hg, ⟨cap, fun k => (cur[k]?).getD undef, ⟨cur, hc, by omega, fun k hk => ?_⟩, hcap, fun k hk => ?_⟩, h.row, fun k hk => ⟨(h.ge k hk).1, fun e2 => (h.ge k hk).2 (by rw [e, e2]; rfl)⟩, h.inj, h.cap⟩
    · dsimp only; rw [Array.getElem?_eq_getElem (by omega)]; rfl
    · have h1 : (cur.toList.take (i * 1))[k]? = (rowsV bf cf i m)[k]? := by rw [htk]
      rw [List.getElem?_take, if_pos (by omega), Array.getElem?_toList] at h1
      dsimp only
      rw [h1, rowsV, List.getElem?_map, List.getElem?_range hk]; rfl
end Rbl
theorem wpList_pushR {W w : World} {i m : Nat} {bf cf : Nat → Nat} {f : Nat → Nat → Int} {ops : Array Oper} {rest : List Oper} {o : Oper} {a : Act} {Q : Exit → Act → World → Prop} (hgd : o.guard = none) (s x : Operand)
    (ho : o.op = .call { callee := .builtin .append, args := #[s, x], argTypes := #[28, 28] }) (v : Value) (h0 : Rbl W w v i m bf cf f) (hs : a.eval s = v)
    (b : Nat) (hx : a.eval x = .slice (some ⟨b, 0, none⟩) 1 1) (rb cap : Nat) (hc : w.cell? ⟨b, 0, none⟩ = some (.slice (some ⟨rb, 0, none⟩) m cap)) (g : Nat → Int) (hrow : Pfx w rb 22 m (fun j => .int .u64 (g j))) (hcap : m ≤ cap) (hrW : W.heap.size ≤ rb) (hap : v.ownBlock ≠ some rb) (hne : ∀ k, k < i → bf k ≠ rb) (hsmall : i ≤ 1048576)
    (h : ∀ v' w', Rbl W w' v' (i + 1) m (fun k => if k = i then rb else bf k) (fun k => if k = i then cap else cf k) (fun k j => if k = i then g j else f k j) → wpList Try.prog ops Q rest (a.put o.dst v') w') : wpList Try.prog ops Q (o :: rest) a w := by
  obtain ⟨i0, hi, hii⟩ := Option.map_eq_some_iff.1 (show (Try.prog.info? 32).map (fun i => (i.zero, i.size, i.bytes)) = some (some (.slice none 0 0), 1, 24) from by kernel_rfl)
  simp only [Prod.mk.injEq] at hii
  obtain ⟨hz, hsz, hby⟩ := hii
  refine wpList_append_own_at w hgd s x 28 ho W.heap.size 32 i0 (.slice none 0 0) 1 24 Try.underlying28 hi hz hsz hby rfl (by decide) v i _ hs h0.own ⟨b, 0, none⟩ 1 1 [.slice (some ⟨rb, 0, none⟩) m cap] hx rfl ?_ ?_ (by simp only [maxLen]; omega) (by omega) h0.below.size ?_
  · intro j u hj
    match j, hj with
    | 0, hj => simp at hj; subst hj; rw [Addr.add_lit]; exact hc
    | j + 1, hj => simp at hj
  · intro u hu; rw [List.mem_singleton] at hu; subst hu; rfl
  · intro v' w' hown' hgr _ hat
    have hkeep : ∀ k, k < w.heap.size → v.ownBlock ≠ some k → w'.heap[k]? = w.heap[k]? := fun k hk hne => hgr.block k hk (fun e => hne e.symm)
    have hne' : ∀ k, k < w.heap.size → v.ownBlock ≠ some k → v'.ownBlock ≠ some k := fun k hk hne e => by
      rcases hat with e2 | e2
      · rw [e2] at e; exact hne e
      · rw [e2] at e; injection e with e; omega
    have er : rowsV (fun k => if k = i then rb else bf k) (fun k => if k = i then cap else cf k) (i + 1) m = rowsV bf cf i m ++ [.slice (some ⟨rb, 0, none⟩) m cap] := by
      unfold rowsV
      rw [List.range_succ, List.map_append]
      congr 1
      · refine List.map_congr_left fun k hk => ?_
        have := List.mem_range.1 hk
        dsimp only
        rw [if_neg (by omega), if_neg (by omega)]
      · simp
    refine h v' w' ⟨Below.grown h0.below hgr h0.below.size (fun k hk => (h0.own.lt k hk).1), by rw [er]; exact hown', fun k hk => ?_, fun k hk => ?_, fun k1 k2 hk1 hk2 e => ?_, ?_, fun k hk => by split; exact hcap; exact h0.cap k (by omega)⟩
    · by_cases e : k = i
      · simp only [e, if_true]; exact hrow.of_block (hkeep rb hrow.lt hap)
      · simp only [if_neg e]
        have h2 := h0.row k (by omega)
        exact h2.of_block (hkeep _ h2.lt (h0.ge k (by omega)).2)
    · by_cases e : k = i
      · simp only [e, if_true]; exact ⟨hrW, hne' rb hrow.lt hap⟩
      · simp only [if_neg e]
        exact ⟨(h0.ge k (by omega)).1, hne' _ (h0.row k (by omega)).lt (h0.ge k (by omega)).2⟩
    · by_cases e1 : k1 = i <;> by_cases e2 : k2 = i
      · omega
      · simp only [if_pos e1, if_neg e2] at e; exact absurd e.symm (hne k2 (by omega))
      · simp only [if_neg e1, if_pos e2] at e; exact absurd e (hne k1 (by omega))
      · simp only [if_neg e1, if_neg e2] at e; exact h0.inj k1 k2 (by omega) (by omega) e
    · rcases hat with e2 | e2
      · obtain ⟨b', hb'⟩ := h0.some'; exact ⟨b', by rw [e2, hb']⟩
      · exact ⟨_, e2⟩
end Go.Proofs.Ytjnlnbkdnjainaa

/- Where the reference's elimination stands. -/
namespace Go.Proofs.Ytjnlnbkdnjainaa
open Go.RowKit Go.Sort

set_option maxRecDepth 100000
/-- Where the elimination stands: the matrix, the pivots' list (in a block of its own, from X on). -/
structure Elb (W w : World) (X B n m : Nat) (p : Int) (bf cf : Nat → Nat) (f : Nat → Nat → Int) (v : Value) (piv : List Nat) : Prop where
  mx : Mx W w B n m bf cf f
  ltB : B < X
  ltR : ∀ i, i < n → bf i < X
  own : w.ownsRow (X) 3 1 v piv.length (intsV piv)
  ge : X ≤ w.heap.size
namespace Elb
variable {W w w' : World} {X B n m : Nat} {p : Int} {bf cf : Nat → Nat} {f f' : Nat → Nat → Int} {v : Value} {piv : List Nat}
theorem keep (h : Elb W w X B n m p bf cf f v piv) (hb : Below w.heap.size w w') : Elb W w' X B n m p bf cf f v piv := by
  refine ⟨h.mx.keep hb, h.ltB, h.ltR, ⟨h.own.1, ?_⟩, Nat.le_trans h.ge hb.size⟩
  · rcases h.own.2 with e | ⟨g, cap, cur, e, hg, hc, rest⟩
    · exact .inl e
    · exact .inr ⟨g, cap, cur, e, hg, by rw [hb.block g (Array.getElem?_eq_some_iff.1 hc).1]; exact hc, rest⟩
theorem congr (h : Elb W w X B n m p bf cf f v piv) (e : ∀ i j, i < n → j < m → f i j = f' i j) : Elb W w X B n m p bf cf f' v piv := ⟨h.mx.congr e, h.ltB, h.ltR, h.own, h.ge⟩
theorem ownNe (h : Elb W w X B n m p bf cf f v piv) {b : Nat} (hb : b < X) : v.ownBlock ≠ some b := fun e => by have := (h.own.lt b e).1; omega
theorem put (h : Elb W w X B n m p bf cf f v piv) {i : Nat} (hi : i < n) (j : Nat) (x : Int) : Elb W (w.setCell ⟨bf i, j, none⟩ (.int .u64 x)) X B n m p bf cf (fun a b => if a = i ∧ b = j then x else f a b) v piv := by
  have hlt := h.ltR i hi
  exact ⟨h.mx.put hi j x, h.ltB, h.ltR, ownsRow_setCell_other h.own (h.ownNe (by show bf i < X; omega)) _, by rw [World.size_setCell]; exact h.ge⟩
theorem swap (h : Elb W w X B n m p bf cf f v piv) {a b : Nat} (ha : a < n) (hb : b < n) :
    Elb W ((w.setCell ⟨B, a, none⟩ (.slice (some ⟨bf b, 0, none⟩) m (cf b))).setCell ⟨B, b, none⟩ (.slice (some ⟨bf a, 0, none⟩) m (cf a))) X B n m p (fun i => if i = b then bf a else if i = a then bf b else bf i) (fun i => if i = b then cf a else if i = a then cf b else cf i) (swp f a b) v piv := by
  have hlt := h.ltB
  refine ⟨h.mx.swap ha hb, h.ltB, fun i hi => ?_, ownsRow_setCell_other (ownsRow_setCell_other h.own (h.ownNe (by show B < X; omega)) _) (h.ownNe (by show B < X; omega)) _, by rw [World.size_setCell, World.size_setCell]; exact h.ge⟩
  · show (if i = b then bf a else if i = a then bf b else bf i) < X
    split
    · exact h.ltR a ha
    · split
      · exact h.ltR b hb
      · exact h.ltR i hi
theorem cells (h : Elb W w X B n m p bf cf f v piv) : ∀ i, i < n → w.cell? ⟨B, i, none⟩ = some (.slice (some ⟨bf i, 0, none⟩) m (cf i)) ∧ w.frozen? ⟨B, i, none⟩ = false ∧ bf i < w.heap.size := fun i hi => ⟨(h.mx.cells hi).1, (h.mx.cells hi).2.1, (h.mx.cells hi).2.2.2⟩
theorem grown (h : Elb W w X B n m p bf cf f v piv) (hg : w.grownBy w' v.ownBlock) {v' : Value} {piv' : List Nat} (hown : w'.ownsRow (X) 3 1 v' piv'.length (intsV piv')) : Elb W w' X B n m p bf cf f v' piv' := by
  have hb : ∀ b, b < X → w'.heap[b]? = w.heap[b]? := fun b hb => hg.block b (by have := h.ge; omega) (fun e => by have := (h.own.lt b e.symm).1; omega)
  have hB := h.ltB
  refine ⟨⟨Below.grown h.mx.below hg h.mx.below.size (fun k hk => ?_), h.mx.geB, h.mx.arr.of_block (hb B (by omega)), fun i hi => (h.mx.row i hi).of_block (hb _ (by have := h.ltR i hi; omega)), h.mx.geR, h.mx.inj, h.mx.cap⟩, h.ltB, h.ltR, hown, Nat.le_trans h.ge hg.size⟩
  · have := (h.own.lt k hk).1
    have := h.mx.geB
    omega
end Elb
theorem wpList_pushF {W w : World} {X B n m : Nat} {p : Int} {bf cf : Nat → Nat} {f : Nat → Nat → Int} {ops : Array Oper} {rest : List Oper} {o : Oper} {a : Act} {Q : Exit → Act → World → Prop} (hgd : o.guard = none) (s x : Operand)
    (ho : o.op = .call { callee := .builtin .append, args := #[s, x], argTypes := #[62, 62] }) (v : Value) (piv : List Nat) (hE : Elb W w X B n m p bf cf f v piv) (hs : a.eval s = v)
    (c b : Nat) (hx : a.eval x = .slice (some ⟨b, 0, none⟩) 1 1) (hc : w.cell? ⟨b, 0, none⟩ = some (.int .i64 (c : Int))) (hsmall : piv.length ≤ 1048576)
    (h : ∀ v' w', Elb W w' X B n m p bf cf f v' (piv ++ [c]) → wpList Try.prog ops Q rest (a.put o.dst v') w') : wpList Try.prog ops Q (o :: rest) a w := by
  obtain ⟨i, hi, hii⟩ := Option.map_eq_some_iff.1 (show (Try.prog.info? 3).map (fun i => (i.zero, i.size, i.bytes)) = some (some (.int .i64 0), 1, 8) from by kernel_rfl)
  simp only [Prod.mk.injEq] at hii
  obtain ⟨hz, hsz, hby⟩ := hii
  refine wpList_append_own w hgd s x 62 ho (X) 3 i (.int .i64 0) 1 8 Try.underlying62 hi hz hsz hby rfl (by decide) v piv.length _ hs hE.own ⟨b, 0, none⟩ 1 1 [.int .i64 (c : Int)] hx rfl ?_ ?_ (by simp only [maxLen]; omega) (by omega) hE.ge ?_
  · intro j u hj
    match j, hj with
    | 0, hj => simp at hj; subst hj; rw [Addr.add_lit]; exact hc
    | j + 1, hj => simp at hj
  · intro u hu; rw [List.mem_singleton] at hu; subst hu; rfl
  · intro v' w' hown' hgr _
    refine h v' w' (hE.grown hgr ?_)
    have e : intsV (piv ++ [c]) = intsV piv ++ [.int .i64 (c : Int)] := by simp [intsV]
    rw [e, List.length_append]
    exact hown'
theorem grown_pfx {e : TypeId} {W w : World} {v : Value} {n : Nat} {F : Nat → Value} (h : Grown e W w v n ((List.range n).map F)) (hso : ∃ b, v.ownBlock = some b) : ∃ g cap, v = .slice (some ⟨g, 0, none⟩) n cap ∧ W.heap.size ≤ g ∧ Pfx w g e n F ∧ n ≤ cap := by
  rcases h.own.2 with ⟨e1, _⟩ | ⟨g, cap, cur, e1, hg, hc, hcap, hm, hsz, htk⟩
  · obtain ⟨b, hb⟩ := hso
    rw [e1] at hb; cases hb
  · refine ⟨g, cap, e1, hg, ⟨cap, fun k => (cur[k]?).getD undef, ⟨cur, hc, by omega, fun k hk => ?_⟩, hcap, fun k hk => ?_⟩, hcap⟩
    · dsimp only; rw [Array.getElem?_eq_getElem (by omega)]; rfl
    · have h1 : (cur.toList.take (n * 1))[k]? = ((List.range n).map F)[k]? := by rw [htk]
      rw [List.getElem?_take, if_pos (by omega), Array.getElem?_toList] at h1
      dsimp only
      rw [h1, List.getElem?_map, List.getElem?_range hk]; rfl
end Go.Proofs.Ytjnlnbkdnjainaa
