/- linear.eliminate. -/
import Derived.Test.YtjnlnbkdnjainaaHMtr
import Derived.Deep.RegionHeld
import Derived.Test.YtjnlnbkdnjainaaQE
import Derived.Test.YtjnlnbkdnjainaaHStrip
import Derived.Test.YtjnlnbkdnjainaaQC
import Derived.Test.YtjnlnbkdnjainaaQB
namespace Go.Proofs.Ytjnlnbkdnjainaa
open Go.RowKit Go.Sort

set_option maxRecDepth 100000
def intsV (l : List Nat) : List Value := l.map fun (z : Nat) => Value.int .i64 (z : Int)
theorem wp_genE {P : Program} {cd : Code} {Q : Exit → Act → World → Prop} {a : Act} {W : World} (F : World → Prop) (hF : F W) (h : ∀ W', F W' → cd.wp P Q a W') : cd.wp P Q a W := h W hF
/-- Where the elimination stands: the matrix, the pivots' list (in a block of its own, from X on), the field's box. -/
structure Ela (W w : World) (X B n m : Nat) (p : Int) (bf cf : Nat → Nat) (f : Nat → Nat → Int) (v : Value) (piv : List Nat) : Prop where
  mx : Mx W w B n m bf cf f
  ltB : B < X
  ltR : ∀ i, i < n → bf i < X
  box : w.cell? ⟨X, 0, none⟩ = some (.int .u64 p)
  own : w.ownsRow (X + 1) 3 1 v piv.length (intsV piv)
  ge : X + 1 ≤ w.heap.size
namespace Ela
variable {W w w' : World} {X B n m : Nat} {p : Int} {bf cf : Nat → Nat} {f f' : Nat → Nat → Int} {v : Value} {piv : List Nat}
theorem keep (h : Ela W w X B n m p bf cf f v piv) (hb : Below w.heap.size w w') : Ela W w' X B n m p bf cf f v piv := by
  refine ⟨h.mx.keep hb, h.ltB, h.ltR, ?_, ⟨h.own.1, ?_⟩, Nat.le_trans h.ge hb.size⟩
  · rw [hb.cell (p := ⟨X, 0, none⟩) (by have := h.ge; show X < _; omega)]; exact h.box
  · rcases h.own.2 with e | ⟨g, cap, cur, e, hg, hc, rest⟩
    · exact .inl e
    · exact .inr ⟨g, cap, cur, e, hg, by rw [hb.block g (Array.getElem?_eq_some_iff.1 hc).1]; exact hc, rest⟩
theorem congr (h : Ela W w X B n m p bf cf f v piv) (e : ∀ i j, i < n → j < m → f i j = f' i j) : Ela W w X B n m p bf cf f' v piv := ⟨h.mx.congr e, h.ltB, h.ltR, h.box, h.own, h.ge⟩
theorem ownNe (h : Ela W w X B n m p bf cf f v piv) {b : Nat} (hb : b < X + 1) : v.ownBlock ≠ some b := fun e => by have := (h.own.lt b e).1; omega
theorem put (h : Ela W w X B n m p bf cf f v piv) {i : Nat} (hi : i < n) (j : Nat) (x : Int) : Ela W (w.setCell ⟨bf i, j, none⟩ (.int .u64 x)) X B n m p bf cf (fun a b => if a = i ∧ b = j then x else f a b) v piv := by
  have hlt := h.ltR i hi
  refine ⟨h.mx.put hi j x, h.ltB, h.ltR, ?_, ownsRow_setCell_other h.own (h.ownNe (by show bf i < X + 1; omega)) _, by rw [World.size_setCell]; exact h.ge⟩
  rw [World.cell?_setCell_far _ _ _ _ (by show bf i ≠ X; omega)]; exact h.box
theorem swap (h : Ela W w X B n m p bf cf f v piv) {a b : Nat} (ha : a < n) (hb : b < n) :
    Ela W ((w.setCell ⟨B, a, none⟩ (.slice (some ⟨bf b, 0, none⟩) m (cf b))).setCell ⟨B, b, none⟩ (.slice (some ⟨bf a, 0, none⟩) m (cf a))) X B n m p (fun i => if i = b then bf a else if i = a then bf b else bf i) (fun i => if i = b then cf a else if i = a then cf b else cf i) (swp f a b) v piv := by
  have hlt := h.ltB
  refine ⟨h.mx.swap ha hb, h.ltB, fun i hi => ?_, ?_, ownsRow_setCell_other (ownsRow_setCell_other h.own (h.ownNe (by show B < X + 1; omega)) _) (h.ownNe (by show B < X + 1; omega)) _, by rw [World.size_setCell, World.size_setCell]; exact h.ge⟩
  · show (if i = b then bf a else if i = a then bf b else bf i) < X
    split
    · exact h.ltR a ha
    · split
      · exact h.ltR b hb
      · exact h.ltR i hi
  · rw [World.cell?_setCell_far _ _ _ _ (by show B ≠ X; omega), World.cell?_setCell_far _ _ _ _ (by show B ≠ X; omega)]; exact h.box
theorem cells (h : Ela W w X B n m p bf cf f v piv) : ∀ i, i < n → w.cell? ⟨B, i, none⟩ = some (.slice (some ⟨bf i, 0, none⟩) m (cf i)) ∧ w.frozen? ⟨B, i, none⟩ = false ∧ bf i < w.heap.size := fun i hi => ⟨(h.mx.cells hi).1, (h.mx.cells hi).2.1, (h.mx.cells hi).2.2.2⟩
theorem grown (h : Ela W w X B n m p bf cf f v piv) (hg : w.grownBy w' v.ownBlock) {v' : Value} {piv' : List Nat} (hown : w'.ownsRow (X + 1) 3 1 v' piv'.length (intsV piv')) : Ela W w' X B n m p bf cf f v' piv' := by
  have hb : ∀ b, b < X + 1 → w'.heap[b]? = w.heap[b]? := fun b hb => hg.block b (by have := h.ge; omega) (fun e => by have := (h.own.lt b e.symm).1; omega)
  have hB := h.ltB
  refine ⟨⟨Below.grown h.mx.below hg h.mx.below.size (fun k hk => ?_), h.mx.geB, h.mx.arr.of_block (hb B (by omega)), fun i hi => (h.mx.row i hi).of_block (hb _ (by have := h.ltR i hi; omega)), h.mx.geR, h.mx.inj, h.mx.cap⟩, h.ltB, h.ltR, ?_, hown, Nat.le_trans h.ge hg.size⟩
  · have := (h.own.lt k hk).1
    have := h.mx.geB
    omega
  · rw [World.cell?_of_block (w := w) (a := ⟨X, 0, none⟩) (hb X (by omega))]; exact h.box
end Ela
theorem wpList_pushE {W w : World} {X B n m : Nat} {p : Int} {bf cf : Nat → Nat} {f : Nat → Nat → Int} {ops : Array Oper} {rest : List Oper} {o : Oper} {a : Act} {Q : Exit → Act → World → Prop} (hgd : o.guard = none) (s x : Operand)
    (ho : o.op = .call { callee := .builtin .append, args := #[s, x], argTypes := #[62, 62] }) (v : Value) (piv : List Nat) (hE : Ela W w X B n m p bf cf f v piv) (hs : a.eval s = v)
    (c b : Nat) (hx : a.eval x = .slice (some ⟨b, 0, none⟩) 1 1) (hc : w.cell? ⟨b, 0, none⟩ = some (.int .i64 (c : Int))) (hsmall : piv.length ≤ 1048576)
    (h : ∀ v' w', Ela W w' X B n m p bf cf f v' (piv ++ [c]) → wpList Try.prog ops Q rest (a.put o.dst v') w') : wpList Try.prog ops Q (o :: rest) a w := by
  obtain ⟨i, hi, hii⟩ := Option.map_eq_some_iff.1 (show (Try.prog.info? 3).map (fun i => (i.zero, i.size, i.bytes)) = some (some (.int .i64 0), 1, 8) from by kernel_rfl)
  simp only [Prod.mk.injEq] at hii
  obtain ⟨hz, hsz, hby⟩ := hii
  refine wpList_append_own w hgd s x 62 ho (X + 1) 3 i (.int .i64 0) 1 8 Try.underlying62 hi hz hsz hby rfl (by decide) v piv.length _ hs hE.own ⟨b, 0, none⟩ 1 1 [.int .i64 (c : Int)] hx rfl ?_ ?_ (by simp only [maxLen]; omega) (by omega) hE.ge ?_
  · intro j u hj
    match j, hj with
    | 0, hj => simp at hj; subst hj; rw [Addr.add_lit]; exact hc
    | j + 1, hj => simp at hj
  · intro u hu; rw [List.mem_singleton] at hu; subst hu; rfl
  · intro v' w' hown' hgr _
    refine h v' w' (hE.grown hgr ?_)
    have e : intsV (piv ++ [c]) = intsV piv ++ [.int .i64 (c : Int)] := by simp [intsV]
    rw [e, List.length_append]
    exact hown'
def GivesE (W : World) (B n m : Nat) (s : Es) (w : World) (e : Ending) (w' : World) : Prop := ∃ bf cf v, e = .returned (.tuple #[v, .int .u64 s.fac]) ∧ Mx W w' B n m bf cf s.f ∧ w'.ownsRow w.heap.size 3 1 v s.piv.length (intsV s.piv)

set_option maxHeartbeats 16000000 in
theorem elim_c (p : Int) (n m wd : Nat) (W w : World) (B C : Nat) (bf cf : Nat → Nat) (f0 : Nat → Nat → Int) (hv : vld p = true) (hn : n ≤ 64) (hm : m ≤ 200) (hwd : wd ≤ m) (hM : Mx W w B n m bf cf f0) (hf : ∀ i j, i < n → j < m → 0 ≤ f0 i j ∧ f0 i j < p) :
    Calls Try.prog 58 #[.agg #[.int .u64 p], .slice (some ⟨B, 0, none⟩) n C, .int .i64 (wd : Int)] w (GivesE W B n m (elR p n wd f0) w) := by
  have hp := vld_pos hv
  have hUp : U p := ⟨by omega, by omega⟩
  have kok : Kept (∀ c, EsOk p n m c (elR p n c f0)) := ⟨elR_ok hv hf⟩
  have hE0 : Kept (Ela W (w.alloc (.cells #[.int .u64 p] 27)) w.heap.size B n m p bf cf f0 (.slice none 0 0) []) := ⟨⟨hM.keep ((Below.refl _ w).alloc (Nat.le_refl _) _), (hM.arr).lt, fun i hi => (hM.row i hi).lt, by simp [go_sem], World.ownsRow_nil _ _ _ _, by simp⟩⟩
  clear hM hf
  go_enter Try.func58, Try.ntmps58
  go_wp2
  obtain ⟨X, hX⟩ : ∃ X, w.heap.size = X := ⟨_, rfl⟩
  have kX := (⟨hX⟩ : Kept _)
  rw [hX] at hE0 ⊢
  clear hX
  generalize w.alloc (.cells #[.int .u64 p] 27) = w0 at hE0 ⊢
  go_loopw [8, 9, 22] (fun vp vf vc wr => ∃ (c : Nat) (bf cf : Nat → Nat), vc = .int .i64 (c : Int) ∧ c ≤ wd ∧ vf = .int .u64 (elR p n c f0).fac ∧ Kept (Ela W wr X B n m p bf cf (elR p n c f0).f vp (elR p n c f0).piv)) (fun _ _ vc _ => ((wd : Int) - intOf vc).toNat)
  case atStart => exact ⟨0, bf, cf, rfl, by omega, rfl, hE0⟩
  case round =>
    clear hE0
    obtain ⟨c, bf, cf, rfl, hc, rfl, hE⟩ := hrel
    obtain ⟨w1, rfl⟩ : ∃ x, x = wr := ⟨wr, rfl⟩
    have hok := (⟨kok.out c⟩ : Kept _)
    have hnext := (⟨elR_next p n c f0⟩ : Kept _)
    obtain ⟨es, hes⟩ : ∃ es, elR p n c f0 = es := ⟨_, rfl⟩
    have kes := (⟨hes⟩ : Kept _)
    rw [hes] at hE hok hnext ⊢
    clear hes
    obtain ⟨f, piv, fac⟩ := es
    obtain ⟨top, htop⟩ : ∃ top, piv.length = top := ⟨_, rfl⟩
    have htn : top ≤ n := by rw [← htop]; exact hok.out.len
    have hfac := hok.out.fac
    simp only at hE hfac
    obtain ⟨vu, vc', rfl, _⟩ : ∃ u c', u8 = .slice u top c' ∧ True := by
      rcases hE.out.own.2 with ⟨e, h0⟩ | ⟨g, cap, cur, e, _⟩
      · exact ⟨none, 0, by rw [e, ← htop, h0], trivial⟩
      · exact ⟨_, cap, by rw [e, htop], trivial⟩
    by_cases h : c < wd
    · have hcm : c < m := by omega
      go_wp2
      go_loopw [12] (fun v wr => ∃ (k : Nat), v = .int .i64 (k : Int) ∧ wr = w1 ∧ top ≤ k ∧ k ≤ n ∧ Kept (fnd f c (n - top) top = fnd f c (n - k) k)) (fun v _ => ((n : Int) - intOf v).toNat)
      case atStart => exact ⟨top, rfl, by first | rfl | trivial, Nat.le_refl _, htn, ⟨rfl⟩⟩
      case round =>
        obtain ⟨k, rfl, rfl, hk1, hk2, hfd⟩ := hrel
        obtain ⟨w1, rfl⟩ : ∃ x, x = wr := ⟨wr, rfl⟩
        by_cases hkn : k < n
        · obtain ⟨hcB, hfB, hlB⟩ := hE.out.cells k hkn
          obtain ⟨hcE, hfE⟩ := hE.out.mx.elem hkn hcm
          have hBlt := hE.out.mx.arr.lt
          by_cases hz : f k c = 0
          · have hfd2 : Kept (fnd f c (n - top) top = fnd f c (n - (k + 1)) (k + 1)) := ⟨by
              rw [hfd.out, show n - k = (n - (k + 1)) + 1 by omega, fnd, if_pos hz]⟩
            rw [hz] at hcE
            clear hfd hE hok hnext hz
            go_wp2
            go_roundw
            case rel => exact ⟨k + 1, by go_num, by first | rfl | trivial, by omega, by omega, hfd2⟩
            case measure => first | (simp [intOf]; omega) | (simp [intOf]; done)
          · have hfk : Kept (fnd f c (n - top) top = k) := ⟨by
              rw [hfd.out, show n - k = (n - (k + 1)) + 1 by omega, fnd, if_neg hz]⟩
            have hzb : (f k c == 0) = false := by simp [hz]
            have hkn' : ((k : Int) == (n : Int)) = false := by simp; omega
            have hfk0 : Kept (f k c ≠ 0) := ⟨hz⟩
            have hfp : Kept (∀ i j, i < n → j < m → 0 ≤ f i j ∧ f i j < p) := ⟨hok.out.el⟩
            clear hfd hz
            have kS : Kept (elR p n (c + 1) f0 = ⟨clr p (swp f top k) top c, piv ++ [c], fmul p (if k = top then fac else fneg p fac) (swp f top k top c)⟩) := ⟨by
              rw [hnext.out]; unfold elS; simp only [htop, hfk.out]; rw [if_neg (by omega)]⟩
            have hf1p : Kept (∀ i j, i < n → j < m → 0 ≤ swp f top k i j ∧ swp f top k i j < p) := ⟨swp_ok hfp.out (by omega) hkn⟩
            have ktop : Kept (piv.length = top) := ⟨htop⟩
            clear htop
            by_cases hkt : k = top
            case' neg =>
              have hktb : ((k : Int) != (top : Int)) = true := by simp; omega
              have htn' : top < n := by omega
              obtain ⟨hcT, hfT, hlT⟩ := hE.out.cells top htn'
              obtain ⟨bf2, cf2, hEs'⟩ : ∃ bf2 cf2, Ela W ((w1.setCell ⟨B, k, none⟩ (.slice (some ⟨bf top, 0, none⟩) m (cf top))).setCell ⟨B, top, none⟩ (.slice (some ⟨bf k, 0, none⟩) m (cf k))) X B n m p bf2 cf2 (swp f top k) (.slice vu top vc') piv := ⟨_, _, (hE.out.swap hkn htn').congr fun i j _ _ => by
                try dsimp only
                unfold swp
                by_cases e1 : i = top
                · subst e1; rw [if_pos rfl, if_neg (fun e => hkt e.symm), if_pos rfl]
                · rw [if_neg e1, if_neg e1]⟩
              have hEs := (⟨hEs'⟩ : Kept _)
              have cng : Kept (∀ w, Calls Try.prog 68 #[.agg #[.int .u64 p], .int .u64 fac] w (Gives (.int .u64 (fneg p fac)) w)) := ⟨fun w => neg_c p fac w ⟨hfac.1, by omega⟩⟩
              obtain ⟨fa, hfa⟩ : ∃ fa, fneg p fac = fa := ⟨_, rfl⟩
              have hfa2 : 0 ≤ fa ∧ fa < p := by rw [← hfa]; exact fneg_lt hv
              rw [if_neg hkt, hfa] at kS
              rw [hfa] at cng
              clear hE hok hnext hfk hfp hEs' hfa
              go_wp2
              refine wp_region_noPanic ?_
              refine wp_region_held_drew (S := fun _ => True) (by kernel_rfl) trivial (fun hHeld => ?_)
              refine wpAnyH_take (i := 0) (oi := ?o0q1) (v := ?v0q1) ?hi0q1 (by kernel_rfl) (by kernel_rfl) (by kernel_rfl) (fun _ _ _ h => h) (Or.inl ⟨?hg0q1, ?hy0q1⟩) (by assumption) ?rest0q1
              case hi0q1 => rfl
              case hg0q1 => rfl
              case' hy0q1 =>
                dsimp only [List.getElem?_toArray, List.getElem?_cons_succ, List.getElem?_cons_zero, List.getElem_cons_succ, List.getElem_cons_zero, List.getElem_toArray]
                intro w hSw
                try dsimp only at hSw
                go_simp
                try with_reducible rfl
              case' rest0q1 =>
                dsimp only [List.getElem?_toArray, List.getElem?_cons_succ, List.getElem?_cons_zero, List.getElem_cons_succ, List.getElem_cons_zero, List.getElem_toArray]
                try simp only [Act.put, List.setIfInBounds_toArray, List.set_cons_zero, List.set_cons_succ]
              refine wpAnyH_take (i := 1) (oi := ?o1q2) (v := ?v1q2) ?hi1q2 (by kernel_rfl) (by kernel_rfl) (by kernel_rfl) (fun _ _ _ h => h) (Or.inl ⟨?hg1q2, ?hy1q2⟩) (by assumption) ?rest1q2
              case hi1q2 => rfl
              case hg1q2 => rfl
              case' hy1q2 =>
                dsimp only [List.getElem?_toArray, List.getElem?_cons_succ, List.getElem?_cons_zero, List.getElem_cons_succ, List.getElem_cons_zero, List.getElem_toArray]
                intro w hSw
                try dsimp only at hSw
                go_simp
                try with_reducible rfl
              case' rest1q2 =>
                dsimp only [List.getElem?_toArray, List.getElem?_cons_succ, List.getElem?_cons_zero, List.getElem_cons_succ, List.getElem_cons_zero, List.getElem_toArray]
                try simp only [Act.put, List.setIfInBounds_toArray, List.set_cons_zero, List.set_cons_succ]
              refine wpAnyH_take (i := 2) (oi := ?o2q3) (v := ?v2q3) ?hi2q3 (by kernel_rfl) (by kernel_rfl) (by kernel_rfl) (fun _ _ _ h => h) (Or.inl ⟨?hg2q3, ?hy2q3⟩) (by assumption) ?rest2q3
              case hi2q3 => rfl
              case hg2q3 => rfl
              case' hy2q3 =>
                dsimp only [List.getElem?_toArray, List.getElem?_cons_succ, List.getElem?_cons_zero, List.getElem_cons_succ, List.getElem_cons_zero, List.getElem_toArray]
                intro w hSw
                try dsimp only at hSw
                go_simp
                try with_reducible rfl
              case' rest2q3 =>
                dsimp only [List.getElem?_toArray, List.getElem?_cons_succ, List.getElem?_cons_zero, List.getElem_cons_succ, List.getElem_cons_zero, List.getElem_toArray]
                try simp only [Act.put, List.setIfInBounds_toArray, List.set_cons_zero, List.set_cons_succ]
              refine wpAnyH_take (i := 3) (oi := ?o3q4) (v := ?v3q4) ?hi3q4 (by kernel_rfl) (by kernel_rfl) (by kernel_rfl) (fun _ _ _ h => h) (Or.inl ⟨?hg3q4, ?hy3q4⟩) (by assumption) ?rest3q4
              case hi3q4 => rfl
              case hg3q4 => rfl
              case' hy3q4 =>
                dsimp only [List.getElem?_toArray, List.getElem?_cons_succ, List.getElem?_cons_zero, List.getElem_cons_succ, List.getElem_cons_zero, List.getElem_toArray]
                intro w hSw
                try dsimp only at hSw
                go_simp
                try with_reducible rfl
              case' rest3q4 =>
                dsimp only [List.getElem?_toArray, List.getElem?_cons_succ, List.getElem?_cons_zero, List.getElem_cons_succ, List.getElem_cons_zero, List.getElem_toArray]
                try simp only [Act.put, List.setIfInBounds_toArray, List.set_cons_zero, List.set_cons_succ]
              refine wpAnyH_take (i := 4) (oi := ?o4q5) (v := ?v4q5) ?hi4q5 (by kernel_rfl) (by kernel_rfl) (by kernel_rfl) (fun _ _ _ h => h) (Or.inl ⟨?hg4q5, ?hy4q5⟩) (by assumption) ?rest4q5
              case hi4q5 => rfl
              case hg4q5 => rfl
              case' hy4q5 =>
                dsimp only [List.getElem?_toArray, List.getElem?_cons_succ, List.getElem?_cons_zero, List.getElem_cons_succ, List.getElem_cons_zero, List.getElem_toArray]
                intro w hSw
                try dsimp only at hSw
                go_simp
                try with_reducible rfl
              case' rest4q5 =>
                dsimp only [List.getElem?_toArray, List.getElem?_cons_succ, List.getElem?_cons_zero, List.getElem_cons_succ, List.getElem_cons_zero, List.getElem_toArray]
                try simp only [Act.put, List.setIfInBounds_toArray, List.set_cons_zero, List.set_cons_succ]
              refine wpAnyH_take (i := 5) (oi := ?o5q6) (v := ?v5q6) ?hi5q6 (by kernel_rfl) (by kernel_rfl) (by kernel_rfl) (fun _ _ _ h => h) (Or.inl ⟨?hg5q6, ?hy5q6⟩) (by assumption) ?rest5q6
              case hi5q6 => rfl
              case hg5q6 => rfl
              case' hy5q6 =>
                dsimp only [List.getElem?_toArray, List.getElem?_cons_succ, List.getElem?_cons_zero, List.getElem_cons_succ, List.getElem_cons_zero, List.getElem_toArray]
                intro w hSw
                try dsimp only at hSw
                go_simp
                try with_reducible rfl
              case' rest5q6 =>
                dsimp only [List.getElem?_toArray, List.getElem?_cons_succ, List.getElem?_cons_zero, List.getElem_cons_succ, List.getElem_cons_zero, List.getElem_toArray]
                try simp only [Act.put, List.setIfInBounds_toArray, List.set_cons_zero, List.set_cons_succ]
              refine wpAnyH_take (i := 6) (oi := ?o6q7) (v := ?v6q7) ?hi6q7 (by kernel_rfl) (by kernel_rfl) (by kernel_rfl) (fun _ _ _ h => h) (Or.inl ⟨?hg6q7, ?hy6q7⟩) (by assumption) ?rest6q7
              case hi6q7 => rfl
              case hg6q7 => rfl
              case' hy6q7 =>
                dsimp only [List.getElem?_toArray, List.getElem?_cons_succ, List.getElem?_cons_zero, List.getElem_cons_succ, List.getElem_cons_zero, List.getElem_toArray]
                intro w hSw
                try dsimp only at hSw
                go_simp
                try with_reducible rfl
              case' rest6q7 =>
                dsimp only [List.getElem?_toArray, List.getElem?_cons_succ, List.getElem?_cons_zero, List.getElem_cons_succ, List.getElem_cons_zero, List.getElem_toArray]
                try simp only [Act.put, List.setIfInBounds_toArray, List.set_cons_zero, List.set_cons_succ]
              refine wpAnyH_take (i := 8) (oi := ?o8q8) (v := ?v8q8) ?hi8q8 (by kernel_rfl) (by kernel_rfl) (by kernel_rfl) (fun _ _ _ h => h) (Or.inl ⟨?hg8q8, ?hy8q8⟩) (by assumption) ?rest8q8
              case hi8q8 => rfl
              case hg8q8 => rfl
              case' hy8q8 =>
                dsimp only [List.getElem?_toArray, List.getElem?_cons_succ, List.getElem?_cons_zero, List.getElem_cons_succ, List.getElem_cons_zero, List.getElem_toArray]
                intro w hSw
                try dsimp only at hSw
                go_simp
                try with_reducible rfl
              case' rest8q8 =>
                dsimp only [List.getElem?_toArray, List.getElem?_cons_succ, List.getElem?_cons_zero, List.getElem_cons_succ, List.getElem_cons_zero, List.getElem_toArray]
                try simp only [Act.put, List.setIfInBounds_toArray, List.set_cons_zero, List.set_cons_succ]
              refine wpAnyH_take (i := 9) (oi := ?o9q9) (v := ?v9q9) ?hi9q9 (by kernel_rfl) (by kernel_rfl) (by kernel_rfl) (fun _ _ _ h => h) (Or.inl ⟨?hg9q9, ?hy9q9⟩) (by assumption) ?rest9q9
              case hi9q9 => rfl
              case hg9q9 => rfl
              case' hy9q9 =>
                dsimp only [List.getElem?_toArray, List.getElem?_cons_succ, List.getElem?_cons_zero, List.getElem_cons_succ, List.getElem_cons_zero, List.getElem_toArray]
                intro w hSw
                try dsimp only at hSw
                go_simp
                try with_reducible rfl
              case' rest9q9 =>
                dsimp only [List.getElem?_toArray, List.getElem?_cons_succ, List.getElem?_cons_zero, List.getElem_cons_succ, List.getElem_cons_zero, List.getElem_toArray]
                try simp only [Act.put, List.setIfInBounds_toArray, List.set_cons_zero, List.set_cons_succ]
              refine wpAnyH_take (i := 10) (oi := ?o10q10) (v := ?v10q10) ?hi10q10 (by kernel_rfl) (by kernel_rfl) (by kernel_rfl) (fun _ _ _ h => h) (Or.inl ⟨?hg10q10, ?hy10q10⟩) (by assumption) ?rest10q10
              case hi10q10 => rfl
              case hg10q10 => rfl
              case' hy10q10 =>
                dsimp only [List.getElem?_toArray, List.getElem?_cons_succ, List.getElem?_cons_zero, List.getElem_cons_succ, List.getElem_cons_zero, List.getElem_toArray]
                intro w hSw
                try dsimp only at hSw
                go_simp
                try with_reducible rfl
              case' rest10q10 =>
                dsimp only [List.getElem?_toArray, List.getElem?_cons_succ, List.getElem?_cons_zero, List.getElem_cons_succ, List.getElem_cons_zero, List.getElem_toArray]
                try simp only [Act.put, List.setIfInBounds_toArray, List.set_cons_zero, List.set_cons_succ]
              refine wpAnyH_ready (rs := [7, 11]) (by kernel_rfl) (by simp) ?_
              refine AllReadyH.cons rfl (fun K hK => ?brA) (AllReadyH.cons rfl (fun K hK => ?brB) AllReadyH.nil)
              case' brA =>
                dsimp only [List.getElem?_toArray, List.getElem?_cons_succ, List.getElem?_cons_zero, List.getElem_cons_succ, List.getElem_cons_zero, List.getElem_toArray]
                go_simp
                refine hK.out _ _ ?_ (fun hHeld => ?_)
                · trivial
                clear hK K
                try simp only [Act.put, List.setIfInBounds_toArray, List.set_cons_zero, List.set_cons_succ]
                refine wpAnyH_ready (rs := [11]) (by kernel_rfl) (by simp) ?_
                refine AllReadyH.cons rfl (fun K hK => ?_) AllReadyH.nil
                dsimp only [List.getElem?_toArray, List.getElem?_cons_succ, List.getElem?_cons_zero, List.getElem_cons_succ, List.getElem_cons_zero, List.getElem_toArray]
                go_simp
                refine hK.out _ _ ?_ (fun hHeld => ?_)
                · trivial
                clear hK K
                try simp only [Act.put, List.setIfInBounds_toArray, List.set_cons_zero, List.set_cons_succ]
                refine wpAnyH_ready (rs := [12]) (by kernel_rfl) (by simp) ?_
                refine AllReadyH.cons rfl (fun K hK => ?_) AllReadyH.nil
                dsimp only [List.getElem?_toArray, List.getElem?_cons_succ, List.getElem?_cons_zero, List.getElem_cons_succ, List.getElem_cons_zero, List.getElem_toArray]
                go_simp
                refine hK.out _ _ ?_ (fun hHeld => ?_)
                · trivial
                clear hK K
                try simp only [Act.put, List.setIfInBounds_toArray, List.set_cons_zero, List.set_cons_succ]
                refine wpAnyH_ready (rs := [13]) (by kernel_rfl) (by simp) ?_
                refine AllReadyH.cons rfl (fun K hK => ?_) AllReadyH.nil
                dsimp only [List.getElem?_toArray, List.getElem?_cons_succ, List.getElem?_cons_zero, List.getElem_cons_succ, List.getElem_cons_zero, List.getElem_toArray]
                go_simp
                refine hK.out _ _ ?_ (fun hHeld => ?_)
                · trivial
                clear hK K
                try simp only [Act.put, List.setIfInBounds_toArray, List.set_cons_zero, List.set_cons_succ]
                refine wpAnyH_ready (rs := [14]) (by kernel_rfl) (by simp) ?_
                refine AllReadyH.cons rfl (fun K hK => ?_) AllReadyH.nil
                dsimp only [List.getElem?_toArray, List.getElem?_cons_succ, List.getElem?_cons_zero, List.getElem_cons_succ, List.getElem_cons_zero, List.getElem_toArray]
                go_simp
                refine hK.out _ _ ?_ (fun hHeld => ?_)
                · trivial
                clear hK K
                try simp only [Act.put, List.setIfInBounds_toArray, List.set_cons_zero, List.set_cons_succ]
                refine wpAnyH_ready (rs := [15]) (by kernel_rfl) (by simp) ?_
                refine AllReadyH.cons rfl (fun K hK => ?_) AllReadyH.nil
                dsimp only [List.getElem?_toArray, List.getElem?_cons_succ, List.getElem?_cons_zero, List.getElem_cons_succ, List.getElem_cons_zero, List.getElem_toArray]
                go_simp
                refine hK.out _ _ ?_ (fun hHeld => ?_)
                · trivial
                clear hK K
                try simp only [Act.put, List.setIfInBounds_toArray, List.set_cons_zero, List.set_cons_succ]
                refine wpAnyH_done (by kernel_rfl) ?_ _
                refine NoPanic.normal ?_
                obtain ⟨w2, hw2⟩ : ∃ w2, w2 = (w1.setCell ⟨B, k, none⟩ (.slice (some ⟨bf top, 0, none⟩) m (cf top))).setCell ⟨B, top, none⟩ (.slice (some ⟨bf k, 0, none⟩) m (cf k)) := ⟨_, rfl⟩
                rw [← hw2] at hEs
                first | rw [← hw2] | (trace_state; fail)
                have hbx := hEs.out.box
                have hXl : X < w2.heap.size := by have := hEs.out.ge; omega
                clear hw2
                go_wp2_with (first | (go_at_call 68; (first | with_reducible refine use1 (cng.out _) ?_ | with_reducible refine use (cng.out _) ?_); intro pw))
                refine wp_genE (fun w' => Ela W w' X B n m p bf2 cf2 (swp f top k) (.slice vu top vc') piv) (hEs.out.keep (by repeat (first | exact Below.refl _ _ | refine Below.later ?_ _ | refine Below.box ?_ _ | refine Below.drew ?_ | refine Below.put ?_ (by dsimp only; omega) _))) ?_
                rintro w3 hE3'
                have hE3 := (⟨hE3'⟩ : Kept _)
                clear hEs cng hE3' hcB hfB hlB hcE hfE hBlt hcT hfT hlT
              case' brB =>
                dsimp only [List.getElem?_toArray, List.getElem?_cons_succ, List.getElem?_cons_zero, List.getElem_cons_succ, List.getElem_cons_zero, List.getElem_toArray]
                go_simp
                refine hK.out _ _ ?_ (fun hHeld => ?_)
                · trivial
                clear hK K
                try simp only [Act.put, List.setIfInBounds_toArray, List.set_cons_zero, List.set_cons_succ]
                refine wpAnyH_ready (rs := [7]) (by kernel_rfl) (by simp) ?_
                refine AllReadyH.cons rfl (fun K hK => ?_) AllReadyH.nil
                dsimp only [List.getElem?_toArray, List.getElem?_cons_succ, List.getElem?_cons_zero, List.getElem_cons_succ, List.getElem_cons_zero, List.getElem_toArray]
                go_simp
                refine hK.out _ _ ?_ (fun hHeld => ?_)
                · trivial
                clear hK K
                try simp only [Act.put, List.setIfInBounds_toArray, List.set_cons_zero, List.set_cons_succ]
                refine wpAnyH_ready (rs := [12]) (by kernel_rfl) (by simp) ?_
                refine AllReadyH.cons rfl (fun K hK => ?_) AllReadyH.nil
                dsimp only [List.getElem?_toArray, List.getElem?_cons_succ, List.getElem?_cons_zero, List.getElem_cons_succ, List.getElem_cons_zero, List.getElem_toArray]
                go_simp
                refine hK.out _ _ ?_ (fun hHeld => ?_)
                · trivial
                clear hK K
                try simp only [Act.put, List.setIfInBounds_toArray, List.set_cons_zero, List.set_cons_succ]
                refine wpAnyH_ready (rs := [13]) (by kernel_rfl) (by simp) ?_
                refine AllReadyH.cons rfl (fun K hK => ?_) AllReadyH.nil
                dsimp only [List.getElem?_toArray, List.getElem?_cons_succ, List.getElem?_cons_zero, List.getElem_cons_succ, List.getElem_cons_zero, List.getElem_toArray]
                go_simp
                refine hK.out _ _ ?_ (fun hHeld => ?_)
                · trivial
                clear hK K
                try simp only [Act.put, List.setIfInBounds_toArray, List.set_cons_zero, List.set_cons_succ]
                refine wpAnyH_ready (rs := [14]) (by kernel_rfl) (by simp) ?_
                refine AllReadyH.cons rfl (fun K hK => ?_) AllReadyH.nil
                dsimp only [List.getElem?_toArray, List.getElem?_cons_succ, List.getElem?_cons_zero, List.getElem_cons_succ, List.getElem_cons_zero, List.getElem_toArray]
                go_simp
                refine hK.out _ _ ?_ (fun hHeld => ?_)
                · trivial
                clear hK K
                try simp only [Act.put, List.setIfInBounds_toArray, List.set_cons_zero, List.set_cons_succ]
                refine wpAnyH_ready (rs := [15]) (by kernel_rfl) (by simp) ?_
                refine AllReadyH.cons rfl (fun K hK => ?_) AllReadyH.nil
                dsimp only [List.getElem?_toArray, List.getElem?_cons_succ, List.getElem?_cons_zero, List.getElem_cons_succ, List.getElem_cons_zero, List.getElem_toArray]
                go_simp
                refine hK.out _ _ ?_ (fun hHeld => ?_)
                · trivial
                clear hK K
                try simp only [Act.put, List.setIfInBounds_toArray, List.set_cons_zero, List.set_cons_succ]
                refine wpAnyH_done (by kernel_rfl) ?_ _
                refine NoPanic.normal ?_
                obtain ⟨w2, hw2⟩ : ∃ w2, w2 = (w1.setCell ⟨B, k, none⟩ (.slice (some ⟨bf top, 0, none⟩) m (cf top))).setCell ⟨B, top, none⟩ (.slice (some ⟨bf k, 0, none⟩) m (cf k)) := ⟨_, rfl⟩
                rw [← hw2] at hEs
                first | rw [← hw2] | (trace_state; fail)
                have hbx := hEs.out.box
                have hXl : X < w2.heap.size := by have := hEs.out.ge; omega
                clear hw2
                go_wp2_with (first | (go_at_call 68; (first | with_reducible refine use1 (cng.out _) ?_ | with_reducible refine use (cng.out _) ?_); intro pw))
                refine wp_genE (fun w' => Ela W w' X B n m p bf2 cf2 (swp f top k) (.slice vu top vc') piv) (hEs.out.keep (by repeat (first | exact Below.refl _ _ | refine Below.later ?_ _ | refine Below.box ?_ _ | refine Below.drew ?_ | refine Below.put ?_ (by dsimp only; omega) _))) ?_
                rintro w3 hE3'
                have hE3 := (⟨hE3'⟩ : Kept _)
                clear hEs cng hE3' hcB hfB hlB hcE hfE hBlt hcT hfT hlT
            case' pos =>
              have hbx := hE.out.box
              have hXl : X < w1.heap.size := by have := hE.out.ge; omega
              obtain ⟨bf2, hbf2⟩ : ∃ bf2, bf2 = bf := ⟨_, rfl⟩
              obtain ⟨cf2, hcf2⟩ : ∃ cf2, cf2 = cf := ⟨_, rfl⟩
              have hEs : Kept (Ela W w1 X B n m p bf2 cf2 (swp f top k) (.slice vu top vc') piv) := ⟨by
                rw [hbf2, hcf2]
                exact hE.out.congr fun i j _ _ => by
                  try dsimp only
                  unfold swp
                  by_cases e1 : i = k
                  · rw [if_pos e1, e1, hkt]
                  · rw [if_neg e1, if_neg (by omega)]⟩
              have hktb : ((k : Int) != (top : Int)) = false := by simp; omega
              obtain ⟨fa, hfa⟩ : ∃ fa, fac = fa := ⟨_, rfl⟩
              have hfa2 : 0 ≤ fa ∧ fa < p := by rw [← hfa]; exact hfac
              have htn' : top < n := by omega
              rw [if_pos hkt] at kS
              rw [hfa] at kS ⊢
              clear hE hok hnext hfk hfp hfa hbf2 hcf2 hkt
              go_wp2
              refine wp_genE (fun w' => Ela W w' X B n m p bf2 cf2 (swp f top k) (.slice vu top vc') piv) (hEs.out.keep (by repeat (first | exact Below.refl _ _ | refine Below.later ?_ _ | refine Below.box ?_ _ | refine Below.drew ?_ | refine Below.put ?_ (by dsimp only; omega) _))) ?_
              rintro w3 hE3'
              have hE3 := (⟨hE3'⟩ : Kept _)
              clear hEs hE3' hcB hfB hlB hcE hfE hBlt
            all_goals (
              clear hbx hXl
              generalize swp f top k = f1 at *
              obtain ⟨hcT, hfT, hlT⟩ := hE3.out.cells top htn'
              obtain ⟨hcE, hfE⟩ := hE3.out.mx.elem htn' hcm
              have hBl := hE3.out.mx.arr.lt
              have hbx := hE3.out.box
              have hXl : X < w3.heap.size := by have := hE3.out.ge; omega
              have hpvp := hf1p.out top c htn' hcm
              obtain ⟨pv, hpv⟩ : ∃ pv, f1 top c = pv := ⟨_, rfl⟩
              rw [hpv] at hcE hpvp kS
              have cm1 : Kept (∀ w, Calls Try.prog 15 #[.agg #[.int .u64 p], .int .u64 fa, .int .u64 pv] w (Gives (.int .u64 (fmul p fa pv)) w)) := ⟨fun w => mul_c p fa pv w ⟨hfa2.1, by omega⟩ ⟨hpvp.1, by omega⟩⟩
              have ci : Kept (∀ w, Calls Try.prog 62 #[.agg #[.int .u64 p], .int .u64 pv] w (Gives (.int .u64 (finv p pv)) w)) := ⟨fun w => inv_c p pv w hUp ⟨hpvp.1, by omega⟩⟩
              have hvU : U (finv p pv) := finv_U
              obtain ⟨R, hR⟩ : ∃ R : Nat → Int, ∀ j, fmul p (f1 top j) (finv p pv) = R j := ⟨_, fun _ => rfl⟩
              have kR : Kept (∀ j, fmul p (f1 top j) (finv p pv) = R j ∧ 0 ≤ R j ∧ R j < p) := ⟨fun j => ⟨hR j, by rw [← hR]; exact fmul_lt hv⟩⟩
              have kclr : Kept (∀ i j, clr p f1 top c i j = if i = top then R j else fsub p (f1 i j) (fmul p (f1 i c) (R j))) := ⟨fun i j => by unfold clr; rw [hpv, hR]⟩
              clear hR hpv
              generalize finv p pv = v at *
              generalize fmul p fa pv = fac2 at *
              first | refine region_quiet1 (by kernel_rfl) ?_ | refine region_quiet (by kernel_rfl) ?_
              repeat (go_big_quiet_step (first | (go_at_call 15; with_reducible exact quiet (cm1.out _))))
              refine wpQuiet_nil ?_
              intro _
              go_wp2
              first | refine region_quiet1 (by kernel_rfl) ?_ | refine region_quiet (by kernel_rfl) ?_
              repeat (go_big_quiet_step (first | (go_at_call 62; with_reducible exact quiet (ci.out _))))
              refine wpQuiet_nil ?_
              intro _
              go_wp2
              go_loopw [92] (fun vj wr => ∃ (j0 : Nat), vj = .int .i64 (j0 : Int) ∧ j0 ≤ m ∧ Kept (Ela W wr X B n m p bf2 cf2 (fun i j => if i = top ∧ j < j0 then R j else f1 i j) (.slice vu top vc') piv)) (fun vj _ => ((m : Int) - intOf vj).toNat)
              case atStart => exact ⟨0, rfl, by omega, ⟨(hE3.out.keep (by repeat (first | exact Below.refl _ _ | refine Below.later ?_ _ | refine Below.box ?_ _ | refine Below.drew ?_ | refine Below.put ?_ (by dsimp only; omega) _))).congr fun i j _ _ => by rw [if_neg (by omega)]⟩⟩
              case round =>
                clear hE3 hcT hfT hlT hcE hfE hBl hbx hXl cm1 ci
                obtain ⟨j0, rfl, hj0, hE⟩ := hrel
                obtain ⟨w4, rfl⟩ : ∃ x, x = wr := ⟨wr, rfl⟩
                obtain ⟨hcT, hfT, hlT⟩ := hE.out.cells top htn'
                have hBl := hE.out.mx.arr.lt
                have hbx := hE.out.box
                have hXl : X < w4.heap.size := by have := hE.out.ge; omega
                by_cases h1 : j0 < m
                · have hcE : w4.cell? ⟨bf2 top, j0, none⟩ = some (.int .u64 (f1 top j0)) := by have := (hE.out.mx.elem htn' h1).1; simpa using this
                  have hfE := (hE.out.mx.elem htn' h1).2
                  have he0 := hf1p.out top j0 htn' h1
                  have hRj := (kR.out j0).1
                  obtain ⟨rj, hrj⟩ : ∃ rj, R j0 = rj := ⟨_, rfl⟩
                  have krj := (⟨hrj⟩ : Kept _)
                  rw [hrj] at hRj
                  have cmj : Kept (∀ w, Calls Try.prog 15 #[.agg #[.int .u64 p], .int .u64 (f1 top j0), .int .u64 v] w (Gives (.int .u64 rj) w)) := ⟨fun w => by rw [← hRj]; exact mul_c p _ v w ⟨he0.1, by omega⟩ hvU⟩
                  clear hrj hRj he0
                  generalize f1 top j0 = e0 at *
                  go_wp2
                  first | refine region_tail1 (by kernel_rfl) (by kernel_rfl) (by kernel_rfl) ?_ | refine region_tail (by kernel_rfl) (by kernel_rfl) (by kernel_rfl) ?_
                  simp only [initOf, lastOf]
                  repeat (go_big_quiet_step (first | (go_at_call 15; with_reducible exact quiet (cmj.out _))))
                  refine wpQuiet_nil ?_
                  intro _
                  go_wp2
                  go_roundw
                  case rel => exact ⟨j0 + 1, by go_num, by omega, ⟨((hE.out.keep (by repeat (first | exact Below.refl _ _ | refine Below.later ?_ _ | refine Below.box ?_ _ | refine Below.drew ?_ | refine Below.put ?_ (by dsimp only; omega) _))).put htn' j0 rj).congr fun i j _ _ => by
                    try dsimp only
                    by_cases e1 : i = top
                    · by_cases e2 : j = j0
                      · rw [if_pos ⟨e1, e2⟩, if_pos ⟨e1, by omega⟩, e2, krj.out]
                      · rw [if_neg (fun e => e2 e.2)]
                        by_cases e3 : j < j0
                        · rw [if_pos ⟨e1, e3⟩, if_pos ⟨e1, by omega⟩]
                        · rw [if_neg (fun e => e3 e.2), if_neg (fun e => e3 (by omega))]
                    · rw [if_neg (fun e => e1 e.1), if_neg (fun e => e1 e.1), if_neg (fun e => e1 e.1)]⟩⟩
                  case measure => first | (simp [intOf]; omega) | (simp [intOf]; done)
                · have hE5 : Kept (Ela W w4 X B n m p bf2 cf2 (fun i j => if i = top then R j else if i < 0 then fsub p (f1 i j) (fmul p (f1 i c) (R j)) else f1 i j) (.slice vu top vc') piv) := ⟨hE.out.congr fun i j _ hj => by
                    try dsimp only
                    by_cases e1 : i = top
                    · rw [if_pos ⟨e1, by omega⟩, if_pos e1]
                    · rw [if_neg (fun e => e1 e.1), if_neg e1, if_neg (by omega)]⟩
                  clear hE
                  go_wp2
                  go_loopw [110] (fun vr wr => ∃ (r : Nat), vr = .int .i64 (r : Int) ∧ r ≤ n ∧ Kept (Ela W wr X B n m p bf2 cf2 (fun i j => if i = top then R j else if i < r then fsub p (f1 i j) (fmul p (f1 i c) (R j)) else f1 i j) (.slice vu top vc') piv)) (fun vr _ => ((n : Int) - intOf vr).toNat)
                  case atStart => exact ⟨0, rfl, by omega, ⟨hE5.out.keep (by repeat (first | exact Below.refl _ _ | refine Below.later ?_ _ | refine Below.box ?_ _ | refine Below.drew ?_ | refine Below.put ?_ (by dsimp only; omega) _))⟩⟩
                  case round =>
                    clear hE5 hcT hfT hlT hBl hbx hXl
                    obtain ⟨r, rfl, hr, hE⟩ := hrel
                    obtain ⟨w5, rfl⟩ : ∃ x, x = wr := ⟨wr, rfl⟩
                    have hBl := hE.out.mx.arr.lt
                    have hbx := hE.out.box
                    have hXl : X < w5.heap.size := by have := hE.out.ge; omega
                    by_cases h2 : r < n
                    · obtain ⟨hcR, hfR, hlR⟩ := hE.out.cells r h2
                      obtain ⟨hcT, hfT, hlT⟩ := hE.out.cells top htn'
                      by_cases h3 : r = top
                      · have hrt : ((r : Int) == (top : Int)) = true := by simp [h3]
                        have hE6 : Kept (Ela W w5 X B n m p bf2 cf2 (fun i j => if i = top then R j else if i < r + 1 then fsub p (f1 i j) (fmul p (f1 i c) (R j)) else f1 i j) (.slice vu top vc') piv) := ⟨hE.out.congr fun i j _ _ => by
                          try dsimp only
                          by_cases e1 : i = top
                          · rw [if_pos e1, if_pos e1]
                          · rw [if_neg e1, if_neg e1]
                            by_cases e2 : i < r
                            · rw [if_pos e2, if_pos (by omega)]
                            · rw [if_neg e2, if_neg (by omega)]⟩
                        clear hE h3
                        go_wp2
                        go_roundw
                        case rel => exact ⟨r + 1, by go_num, by omega, ⟨hE6.out.keep (by repeat (first | exact Below.refl _ _ | refine Below.later ?_ _ | refine Below.box ?_ _ | refine Below.drew ?_ | refine Below.put ?_ (by dsimp only; omega) _))⟩⟩
                        case measure => first | (simp [intOf]; omega) | (simp [intOf]; done)
                      · have hrt : ((r : Int) == (top : Int)) = false := by simp; omega
                        have hcE : w5.cell? ⟨bf2 r, c, none⟩ = some (.int .u64 (f1 r c)) := by have := (hE.out.mx.elem h2 hcm).1; simpa [h3] using this
                        have hmp := hf1p.out r c h2 hcm
                        by_cases h4 : f1 r c = 0
                        · have hE6 : Kept (Ela W w5 X B n m p bf2 cf2 (fun i j => if i = top then R j else if i < r + 1 then fsub p (f1 i j) (fmul p (f1 i c) (R j)) else f1 i j) (.slice vu top vc') piv) := ⟨hE.out.congr fun i j hi hj => by
                            try dsimp only
                            by_cases e1 : i = top
                            · rw [if_pos e1, if_pos e1]
                            · rw [if_neg e1, if_neg e1]
                              by_cases e2 : i < r
                              · rw [if_pos e2, if_pos (by omega)]
                              · rw [if_neg e2]
                                by_cases e3 : i = r
                                · rw [if_pos (by omega), e3, h4, fsub_zero hv (hf1p.out r j h2 hj)]
                                · rw [if_neg (by omega)]⟩
                          rw [h4] at hcE
                          clear hE h4 h3 hmp
                          go_wp2
                          go_roundw
                          case rel => exact ⟨r + 1, by go_num, by omega, ⟨hE6.out.keep (by repeat (first | exact Below.refl _ _ | refine Below.later ?_ _ | refine Below.box ?_ _ | refine Below.drew ?_ | refine Below.put ?_ (by dsimp only; omega) _))⟩⟩
                          case measure => first | (simp [intOf]; omega) | (simp [intOf]; done)
                        · obtain ⟨tm, htm⟩ : ∃ tm, f1 r c = tm := ⟨_, rfl⟩
                          have ktm := (⟨htm⟩ : Kept _)
                          rw [htm] at hcE h4 hmp
                          have htb : (tm == 0) = false := by simp [h4]
                          have k3 := (⟨h3⟩ : Kept _)
                          clear htm h4 h3
                          go_wp2
                          go_loopw [134] (fun vj wr => ∃ (j0 : Nat), vj = .int .i64 (j0 : Int) ∧ j0 ≤ m ∧ Kept (Ela W wr X B n m p bf2 cf2 (fun i j => if i = r ∧ j < j0 then fsub p (f1 r j) (fmul p tm (R j)) else if i = top then R j else if i < r then fsub p (f1 i j) (fmul p (f1 i c) (R j)) else f1 i j) (.slice vu top vc') piv)) (fun vj _ => ((m : Int) - intOf vj).toNat)
                          case atStart => exact ⟨0, rfl, by omega, ⟨(hE.out.keep (by repeat (first | exact Below.refl _ _ | refine Below.later ?_ _ | refine Below.box ?_ _ | refine Below.drew ?_ | refine Below.put ?_ (by dsimp only; omega) _))).congr fun i j _ _ => by (try dsimp only); rw [if_neg (show ¬ (i = r ∧ j < 0) from fun e => absurd e.2 (by omega))]⟩⟩
                          case round =>
                            clear hE hcR hfR hlR hcT hfT hlT hcE hBl hbx hXl
                            obtain ⟨j0, rfl, hj0, hE⟩ := hrel
                            obtain ⟨w6, rfl⟩ : ∃ x, x = wr := ⟨wr, rfl⟩
                            have hBl := hE.out.mx.arr.lt
                            have hbx := hE.out.box
                            have hXl : X < w6.heap.size := by have := hE.out.ge; omega
                            obtain ⟨hcR, hfR, hlR⟩ := hE.out.cells r h2
                            obtain ⟨hcT, hfT, hlT⟩ := hE.out.cells top htn'
                            by_cases h5 : j0 < m
                            · have k3' : ¬ top = r := fun e => k3.out e.symm
                              have hcE : w6.cell? ⟨bf2 r, j0, none⟩ = some (.int .u64 (f1 r j0)) := by have := (hE.out.mx.elem h2 h5).1; simpa [k3.out] using this
                              have hfE := (hE.out.mx.elem h2 h5).2
                              have hcF : w6.cell? ⟨bf2 top, j0, none⟩ = some (.int .u64 (R j0)) := by have := (hE.out.mx.elem htn' h5).1; simpa [k3'] using this
                              have he0 := hf1p.out r j0 h2 h5
                              have hRp := (kR.out j0).2
                              obtain ⟨ss, hss⟩ : ∃ ss, fsub p (f1 r j0) (fmul p tm (R j0)) = ss := ⟨_, rfl⟩
                              have kss : Kept (∀ j, j = j0 → fsub p (f1 r j) (fmul p tm (R j)) = ss) := ⟨fun j e => by rw [e]; exact hss⟩
                              have cmj : Kept (∀ w, Calls Try.prog 15 #[.agg #[.int .u64 p], .int .u64 tm, .int .u64 (R j0)] w (Gives (.int .u64 (fmul p tm (R j0))) w)) := ⟨fun w => mul_c p _ _ w ⟨hmp.1, by omega⟩ ⟨hRp.1, by omega⟩⟩
                              have csj : Kept (∀ w, Calls Try.prog 59 #[.agg #[.int .u64 p], .int .u64 (f1 r j0), .int .u64 (fmul p tm (R j0))] w (Gives (.int .u64 ss) w)) := ⟨fun w => by rw [← hss]; exact sub_c p _ _ w ⟨he0.1, by omega⟩ fmul_U⟩
                              clear hss he0 hRp k3'
                              generalize fmul p tm (R j0) = mm at *
                              generalize f1 r j0 = e0 at *
                              generalize R j0 = rj at *
                              go_wp2
                              first | refine region_tail1 (by kernel_rfl) (by kernel_rfl) (by kernel_rfl) ?_ | refine region_tail (by kernel_rfl) (by kernel_rfl) (by kernel_rfl) ?_
                              simp only [initOf, lastOf]
                              repeat (go_big_quiet_step (first | (go_at_call 15; with_reducible exact quiet (cmj.out _)) | (go_at_call 59; with_reducible exact quiet (csj.out _))))
                              refine wpQuiet_nil ?_
                              intro _
                              go_wp2
                              go_roundw
                              case rel => exact ⟨j0 + 1, by go_num, by omega, ⟨((hE.out.keep (by repeat (first | exact Below.refl _ _ | refine Below.later ?_ _ | refine Below.box ?_ _ | refine Below.drew ?_ | refine Below.put ?_ (by dsimp only; omega) _))).put h2 j0 ss).congr fun i j _ _ => by
                                try dsimp only
                                by_cases e1 : i = r
                                · by_cases e2 : j = j0
                                  · rw [if_pos (show i = r ∧ j = j0 from ⟨e1, e2⟩), if_pos (show i = r ∧ j < j0 + 1 from ⟨e1, by omega⟩), kss.out j e2]
                                  · rw [if_neg (show ¬ (i = r ∧ j = j0) from fun e => e2 e.2)]
                                    by_cases e3 : j < j0
                                    · rw [if_pos (show i = r ∧ j < j0 from ⟨e1, e3⟩), if_pos (show i = r ∧ j < j0 + 1 from ⟨e1, by omega⟩)]
                                    · rw [if_neg (show ¬ (i = r ∧ j < j0) from fun e => e3 e.2), if_neg (show ¬ (i = r ∧ j < j0 + 1) from fun e => e3 (by omega))]
                                · rw [if_neg (show ¬ (i = r ∧ j = j0) from fun e => e1 e.1), if_neg (show ¬ (i = r ∧ j < j0) from fun e => e1 e.1), if_neg (show ¬ (i = r ∧ j < j0 + 1) from fun e => e1 e.1)]⟩⟩
                              case measure => first | (simp [intOf]; omega) | (simp [intOf]; done)
                            · have hE6 : Kept (Ela W w6 X B n m p bf2 cf2 (fun i j => if i = top then R j else if i < r + 1 then fsub p (f1 i j) (fmul p (f1 i c) (R j)) else f1 i j) (.slice vu top vc') piv) := ⟨hE.out.congr fun i j hi hj => by
                                try dsimp only
                                by_cases e1 : i = top
                                · rw [if_neg (show ¬ (i = r ∧ j < j0) from fun e => k3.out (by omega)), if_pos e1, if_pos e1]
                                · by_cases e3 : i = r
                                  · rw [if_pos (show i = r ∧ j < j0 from ⟨e3, by omega⟩), if_neg e1, if_pos (show i < r + 1 by omega), e3, ktm.out]
                                  · rw [if_neg (show ¬ (i = r ∧ j < j0) from fun e => e3 e.1), if_neg e1, if_neg e1]
                                    by_cases e2 : i < r
                                    · rw [if_pos e2, if_pos (by omega)]
                                    · rw [if_neg e2, if_neg (by omega)]⟩
                              clear hE
                              go_wp2
                              go_roundw
                              case rel => exact ⟨r + 1, by go_num, by omega, ⟨hE6.out.keep (by repeat (first | exact Below.refl _ _ | refine Below.later ?_ _ | refine Below.box ?_ _ | refine Below.drew ?_ | refine Below.put ?_ (by dsimp only; omega) _))⟩⟩
                              case measure => first | (simp [intOf]; omega) | (simp [intOf]; done)
                    · have hrn : r = n := by omega
                      have hE6 : Kept (Ela W w5 X B n m p bf2 cf2 (clr p f1 top c) (.slice vu top vc') piv) := ⟨hE.out.congr fun i j hi hj => by
                        try dsimp only
                        simp only [kclr.out]
                        by_cases e1 : i = top
                        · rw [if_pos e1, if_pos e1]
                        · rw [if_neg e1, if_neg e1, if_pos (by omega)]⟩
                      clear hE
                      go_wp2_with (first | (at_builtin; refine wpList_pushE rfl _ _ rfl _ piv (hE6.out.keep (by repeat (first | exact Below.refl _ _ | refine Below.later ?_ _ | refine Below.box ?_ _ | refine Below.drew ?_ | refine Below.put ?_ (by dsimp only; omega) _))) rfl c _ rfl (by first | simp | (rw [World.cell?_alloc_new]; rfl)) (by rw [ktop.out]; omega) ?_; intro v7 w7 hE7; refine Stop.out ?_))
                      refine ⟨?_⟩
                      have hE8 := (⟨hE7⟩ : Kept _)
                      clear hE7 hE6
                      go_wp2
                      go_roundw
                      case rel => exact ⟨c + 1, bf2, cf2, by go_num, by omega, by rw [kS.out], ⟨by rw [kS.out]; exact hE8.out.keep (by repeat (first | exact Below.refl _ _ | refine Below.later ?_ _ | refine Below.box ?_ _ | refine Below.drew ?_ | refine Below.put ?_ (by dsimp only; omega) _))⟩⟩
                      case measure => first | (simp [intOf]; omega) | (simp [intOf]; done))
        · have hkn' : k = n := by omega
          have hS : Kept (elR p n (c + 1) f0 = ⟨f, piv, fac⟩) := ⟨by
            rw [hnext.out]; unfold elS; simp only [htop]; rw [hfd.out, hkn', Nat.sub_self, fnd, if_pos (Nat.le_refl _)]⟩
          have hkb : ((k : Int) == (n : Int)) = true := by simp [hkn']
          clear hfd hok hnext hkn'
          go_wp2
          go_roundw
          case rel => exact ⟨c + 1, bf, cf, by go_num, by omega, by rw [hS.out], ⟨by rw [hS.out]; exact hE.out.keep (by repeat (first | exact Below.refl _ _ | refine Below.later ?_ _ | refine Below.box ?_ _ | refine Below.drew ?_ | refine Below.put ?_ (by dsimp only; omega) _))⟩⟩
          case measure => first | (simp [intOf]; omega) | (simp [intOf]; done)
    · have hcw : c = wd := by omega
      have hes : Kept (elR p n wd f0 = ⟨f, piv, fac⟩) := ⟨by rw [← hcw]; exact kes.out⟩
      have ho : Kept (w1.ownsRow w.heap.size 3 1 (.slice vu top vc') piv.length (intsV piv)) := ⟨by
        refine ⟨hE.out.own.1, ?_⟩
        rcases hE.out.own.2 with e | ⟨g, cap, cur, e, hg, rest⟩
        · exact .inl e
        · exact .inr ⟨g, cap, cur, e, by rw [kX.out]; omega, rest⟩⟩
      clear hok hnext kes hcw htop
      go_wp2
      exact bodyPost_ret (v := .tuple #[.slice vu top vc', .int .u64 fac]) (by simp [results, Try.results58, go_sem]) rfl ⟨bf, cf, .slice vu top vc', by rw [hes.out], by rw [hes.out]; exact hE.out.mx, by rw [hes.out]; exact ho.out⟩
end Go.Proofs.Ytjnlnbkdnjainaa
