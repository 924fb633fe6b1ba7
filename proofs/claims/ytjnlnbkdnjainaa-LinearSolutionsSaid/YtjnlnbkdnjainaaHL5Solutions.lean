/- LinearSolutions: for any prime of the list, any matrix and any vector of as many elements as it has columns the call returns true: Solve returns the solution that is left when the vector's free elements are taken away by means of the kernel (matrices of at most 12 rows and columns; for others there is nothing to show). No condition. -/
import Derived.Test.YtjnlnbkdnjainaaHPl6
import Derived.Test.YtjnlnbkdnjainaaHRke
import Derived.Test.YtjnlnbkdnjainaaHRoot
namespace Go.Proofs.Ytjnlnbkdnjainaa.linearSolutions
open Go.ChangeShapes Go.WideShapes Go.ChangeAt Go.RowKit Go.Sort

theorem wpList_append_pfx {W w : World} {ops : Array Oper} {rest : List Oper} {o : Oper} {a : Act} {Q : Exit → Act → World → Prop} (hgd : o.guard = none) (s x : Operand)
    (ho : o.op = .call { callee := .builtin .append, args := #[s, x], argTypes := #[32, 32] })
    (hW : Below W.heap.size W w) (g : Nat) (hg : W.heap.size ≤ g) (hs : a.eval s = .slice (some ⟨g, 0, none⟩) 0 0) (hrow : w.heap[g]? = some (.cells #[] 22 (0, 0)))
    (u : Option Addr) (l : List Int) (n c : Nat) (hn : l.length = n) (hx : a.eval x = .slice u n c) (hl : Ls w u l) (hc : u = none → c = 0) (hsmall : n ≤ 1048576)
    (h : ∀ b cap w', Below W.heap.size W w' → W.heap.size ≤ b → Pfx w' b 22 n (fun j => .int .u64 (l.getD j 0)) →
      wpList Try.prog ops Q rest (a.put o.dst (.slice (some ⟨b, 0, none⟩) n cap)) w') : wpList Try.prog ops Q (o :: rest) a w := by
  obtain ⟨i, hi, hii⟩ := Option.map_eq_some_iff.1 (show (Try.prog.info? 22).map (fun i => (i.zero, i.size, i.bytes)) = some (some (.int .u64 0), 1, 8) from by kernel_rfl)
  simp only [Prod.mk.injEq] at hii
  obtain ⟨hz, hsz, hby⟩ := hii
  have hgl : g < w.heap.size := (Array.getElem?_eq_some_iff.1 hrow).1
  have hown : w.ownsRow W.heap.size 22 1 (.slice (some ⟨g, 0, none⟩) 0 0) 0 [] :=
    ⟨by simp, .inr ⟨g, 0, #[], rfl, hg, hrow, Nat.le_refl _, Nat.zero_le _, by simp, by simp⟩⟩
  cases hu : u with
  | none =>
    have hl0 : l = [] := by
      rcases List.eq_nil_or_concat l with e | ⟨l', y, e⟩
      · exact e
      · obtain ⟨b, o, e2, _⟩ := hl.mem (by subst e; simp)
        rw [hu] at e2; cases e2
    subst hl0
    have hn0 : n = 0 := by simpa using hn.symm
    subst hn0
    rw [hu, hc hu] at hx
    refine wpList_append_own_none hgd s x 32 ho W.heap.size 22 i 1 Try.underlying32 hi _ 0 [] hs hown hx ?_
    exact h g 0 w hW hg ⟨0, fun _ => undef, ⟨#[], hrow, rfl, fun i hi => absurd hi (by omega)⟩, Nat.le_refl _, fun i hi => absurd hi (by omega)⟩
  | some ad =>
    rw [hu] at hx hl
    refine wpList_append_own w hgd s x 32 ho W.heap.size 22 i (.int .u64 0) 1 8 Try.underlying32 hi hz hsz hby rfl (by decide) _ 0 [] hs hown ad n c (l.map (fun z => Value.int .u64 z)) hx (by simp [hn]) ?_ ?_ (by simp only [maxLen]; omega) (by omega) hW.size ?_
    · intro j v hv
      rw [List.getElem?_map] at hv
      cases hlj : l[j]? with
      | none => rw [hlj] at hv; cases hv
      | some z =>
        rw [hlj] at hv; injection hv with hv; subst hv
        obtain ⟨b, o, e, _, hcell⟩ := hl.mem (by intro e; subst e; simp at hlj)
        injection e with e; subst e
        rw [Addr.add_lit]; exact hcell j z hlj
    · intro v hv
      obtain ⟨z, _, e⟩ := List.mem_map.1 hv
      subst e; rfl
    · intro v' w' hown' hgr hiff
      rw [Nat.zero_add, List.nil_append] at hown'
      have hB : Below W.heap.size W w' := Below.grown hW hgr hW.size (fun k hk => by simp [Value.ownBlock] at hk; omega)
      rcases hown'.2 with ⟨e, _⟩ | ⟨b, cap, cur, e, hb, hcur, hcap, hcm, hcs, htake⟩
      · exact absurd (hiff.1 e).1 (by simp)
      · subst e
        refine h b cap w' hB hb ⟨cap, fun j => (cur[j]?).getD undef, ⟨cur, hcur, by omega, fun j hj => by dsimp only; rw [Array.getElem?_eq_getElem (by omega)]; rfl⟩, hcap, fun j hj => ?_⟩
        have h2 : (cur.toList.take (n * 1))[j]? = (l.map fun z => Value.int .u64 z)[j]? := by rw [htake]
        rw [List.getElem?_take, if_pos (by omega), Array.getElem?_toList] at h2
        dsimp only
        rw [h2, List.getElem?_map, List.getElem?_eq_getElem (by omega), List.getD, List.getElem?_eq_getElem (by omega)]; rfl
set_option maxHeartbeats 16000000 in
set_option maxRecDepth 100000 in
theorem walk (w : World) (nn : Int) (hnn : 0 ≤ nn ∧ nn ≤ 255) (u1 : Option Addr) (ls : List (List Int)) (c1 : Nat) (h1 : Arg w u1 c1 ls) (u2 : Option Addr) (xs : List Int) (c2 : Nat) (h2 : Ls w u2 xs ∧ (u2 = none → c2 = 0)) :
    Calls Try.prog 7 #[.int .u8 nn, .slice u1 ls.length c1, .slice u2 xs.length c2] w (Gives (.bool true) w) := by
  have hs1 := h1.1.small
  have hs2 := h2.1.small
  obtain ⟨n, hn⟩ : ∃ n, ls.length = n := ⟨_, rfl⟩
  obtain ⟨mx, hmx⟩ : ∃ m, xs.length = m := ⟨_, rfl⟩
  obtain ⟨p, hp⟩ : ∃ p, primeOf nn = p := ⟨_, rfl⟩
  have hv : vld p = true := by rw [← hp]; exact prime_valid nn
  have hUp : U p := by rw [← hp]; exact prime_U nn
  have cpr : Kept (∀ w, Calls Try.prog 12 #[.int .u8 nn] w (Gives (.int .u64 p) w)) := ⟨fun w => by have := prime_c nn w hnn.1 hnn.2; rw [hp] at this; exact this⟩
  have cs1 : Kept (∀ w', Below w.heap.size w w' → Calls Try.prog 31 #[.slice u1 n c1] w' (Gives (.bool (smlM ls 12)) w')) := ⟨fun w' hw => by have := lsmall_c u1 c1 ls w' (h1.mt hw); rw [hn] at this; exact this⟩
  have crv : Kept (∀ w', Below w.heap.size w w' → Calls Try.prog 38 #[.slice u1 n c1] w' (Gives (.bool (vldM ls)) w')) := ⟨fun w' hw => by have := rvalidm_c u1 c1 ls w' (h1.mt hw); rw [hn] at this; exact this⟩
  have cco : Kept (∀ w', Below w.heap.size w w' → Calls Try.prog 39 #[.slice u1 n c1] w' (Gives (.int .i64 (colsN ls)) w')) := ⟨fun w' hw => by have := rcolumns_c u1 c1 ls w' (h1.mt hw); rw [hn] at this; exact this⟩
  rw [hn] at hs1
  rw [hmx] at hs2
  obtain ⟨m, hm⟩ : ∃ m, colsN ls = m := ⟨_, rfl⟩
  rw [hm] at cco
  cases a1 : smlM ls 12
  case false =>
    rw [a1] at cs1
    rw [hn, hmx]
    clear h1 h2 hn hm hmx hp hv hUp hnn a1
    go_enter Try.func7, Try.ntmps7
    go_wp2_with (first | (go_at_call 12; (first | with_reducible refine use1 (cpr.out _) ?_ | with_reducible refine use (cpr.out _) ?_); intro pw) | (go_at_call 30; (first | with_reducible refine use1 (awake05_c _) ?_ | with_reducible refine use (awake05_c _) ?_); intro pw) | (go_at_call 31; (first | with_reducible refine use1 (cs1.out _ (by repeat (first | exact Below.refl _ _ | refine Below.later ?_ _ | refine Below.box ?_ _ | refine Below.drew ?_ | refine Below.put ?_ (by dsimp only; omega) _))) ?_ | with_reducible refine use (cs1.out _ (by repeat (first | exact Below.refl _ _ | refine Below.later ?_ _ | refine Below.box ?_ _ | refine Below.drew ?_ | refine Below.put ?_ (by dsimp only; omega) _))) ?_); intro pw) | (go_at_call 38; (first | with_reducible refine use1 (crv.out _ (by repeat (first | exact Below.refl _ _ | refine Below.later ?_ _ | refine Below.box ?_ _ | refine Below.drew ?_ | refine Below.put ?_ (by dsimp only; omega) _))) ?_ | with_reducible refine use (crv.out _ (by repeat (first | exact Below.refl _ _ | refine Below.later ?_ _ | refine Below.box ?_ _ | refine Below.drew ?_ | refine Below.put ?_ (by dsimp only; omega) _))) ?_); intro pw) | (go_at_call 39; (first | with_reducible refine use1 (cco.out _ (by repeat (first | exact Below.refl _ _ | refine Below.later ?_ _ | refine Below.box ?_ _ | refine Below.drew ?_ | refine Below.put ?_ (by dsimp only; omega) _))) ?_ | with_reducible refine use (cco.out _ (by repeat (first | exact Below.refl _ _ | refine Below.later ?_ _ | refine Below.box ?_ _ | refine Below.drew ?_ | refine Below.put ?_ (by dsimp only; omega) _))) ?_); intro pw))
    go_ret
    exact ⟨rfl, (by repeat (first | exact Below.refl _ _ | refine Below.later ?_ _ | refine Below.box ?_ _ | refine Below.drew ?_ | refine Below.put ?_ (by dsimp only; omega) _))⟩
  rw [a1] at cs1
  cases a2 : vldM ls
  case false =>
    rw [a2] at crv
    rw [hn, hmx]
    clear h1 h2 hn hm hmx hp hv hUp hnn a2 a1
    go_enter Try.func7, Try.ntmps7
    go_wp2_with (first | (go_at_call 12; (first | with_reducible refine use1 (cpr.out _) ?_ | with_reducible refine use (cpr.out _) ?_); intro pw) | (go_at_call 30; (first | with_reducible refine use1 (awake05_c _) ?_ | with_reducible refine use (awake05_c _) ?_); intro pw) | (go_at_call 31; (first | with_reducible refine use1 (cs1.out _ (by repeat (first | exact Below.refl _ _ | refine Below.later ?_ _ | refine Below.box ?_ _ | refine Below.drew ?_ | refine Below.put ?_ (by dsimp only; omega) _))) ?_ | with_reducible refine use (cs1.out _ (by repeat (first | exact Below.refl _ _ | refine Below.later ?_ _ | refine Below.box ?_ _ | refine Below.drew ?_ | refine Below.put ?_ (by dsimp only; omega) _))) ?_); intro pw) | (go_at_call 38; (first | with_reducible refine use1 (crv.out _ (by repeat (first | exact Below.refl _ _ | refine Below.later ?_ _ | refine Below.box ?_ _ | refine Below.drew ?_ | refine Below.put ?_ (by dsimp only; omega) _))) ?_ | with_reducible refine use (crv.out _ (by repeat (first | exact Below.refl _ _ | refine Below.later ?_ _ | refine Below.box ?_ _ | refine Below.drew ?_ | refine Below.put ?_ (by dsimp only; omega) _))) ?_); intro pw) | (go_at_call 39; (first | with_reducible refine use1 (cco.out _ (by repeat (first | exact Below.refl _ _ | refine Below.later ?_ _ | refine Below.box ?_ _ | refine Below.drew ?_ | refine Below.put ?_ (by dsimp only; omega) _))) ?_ | with_reducible refine use (cco.out _ (by repeat (first | exact Below.refl _ _ | refine Below.later ?_ _ | refine Below.box ?_ _ | refine Below.drew ?_ | refine Below.put ?_ (by dsimp only; omega) _))) ?_); intro pw))
    go_ret
    exact ⟨rfl, (by repeat (first | exact Below.refl _ _ | refine Below.later ?_ _ | refine Below.box ?_ _ | refine Below.drew ?_ | refine Below.put ?_ (by dsimp only; omega) _))⟩
  rw [a2] at crv
  by_cases a5 : mx = m
  case neg =>
    have hb : (((mx : Nat) : Int) != (m : Int)) = true := by simp; omega
    rw [hn, hmx]
    clear h1 h2 hn hm hmx hp hv hUp hnn a1 a2 a5
    go_enter Try.func7, Try.ntmps7
    go_wp2_with (first | (go_at_call 12; (first | with_reducible refine use1 (cpr.out _) ?_ | with_reducible refine use (cpr.out _) ?_); intro pw) | (go_at_call 30; (first | with_reducible refine use1 (awake05_c _) ?_ | with_reducible refine use (awake05_c _) ?_); intro pw) | (go_at_call 31; (first | with_reducible refine use1 (cs1.out _ (by repeat (first | exact Below.refl _ _ | refine Below.later ?_ _ | refine Below.box ?_ _ | refine Below.drew ?_ | refine Below.put ?_ (by dsimp only; omega) _))) ?_ | with_reducible refine use (cs1.out _ (by repeat (first | exact Below.refl _ _ | refine Below.later ?_ _ | refine Below.box ?_ _ | refine Below.drew ?_ | refine Below.put ?_ (by dsimp only; omega) _))) ?_); intro pw) | (go_at_call 38; (first | with_reducible refine use1 (crv.out _ (by repeat (first | exact Below.refl _ _ | refine Below.later ?_ _ | refine Below.box ?_ _ | refine Below.drew ?_ | refine Below.put ?_ (by dsimp only; omega) _))) ?_ | with_reducible refine use (crv.out _ (by repeat (first | exact Below.refl _ _ | refine Below.later ?_ _ | refine Below.box ?_ _ | refine Below.drew ?_ | refine Below.put ?_ (by dsimp only; omega) _))) ?_); intro pw) | (go_at_call 39; (first | with_reducible refine use1 (cco.out _ (by repeat (first | exact Below.refl _ _ | refine Below.later ?_ _ | refine Below.box ?_ _ | refine Below.drew ?_ | refine Below.put ?_ (by dsimp only; omega) _))) ?_ | with_reducible refine use (cco.out _ (by repeat (first | exact Below.refl _ _ | refine Below.later ?_ _ | refine Below.box ?_ _ | refine Below.drew ?_ | refine Below.put ?_ (by dsimp only; omega) _))) ?_); intro pw))
    go_ret
    exact ⟨rfl, (by repeat (first | exact Below.refl _ _ | refine Below.later ?_ _ | refine Below.box ?_ _ | refine Below.drew ?_ | refine Below.put ?_ (by dsimp only; omega) _))⟩
  subst a5
  obtain ⟨hx1, hx2⟩ := h2
  have hn12 : n ≤ 12 := by have := (smlM_le a1).1; omega
  have hm64 : mx ≤ 64 := by have := (vldM_row a2).2.1; omega
  have hrow : ∀ l ∈ ls, l.length = mx := fun l hl => by rw [(vldM_row a2).2.2 l hl, hm]
  have hpp := vld_pos hv
  have ccp : Kept (∀ w', Below w.heap.size w w' → Calls Try.prog 33 #[.slice u1 n c1] w' (GivesC ls w')) := ⟨fun w' hw => by have := h1.cp a1 (by omega) hw; rw [hn] at this; exact this⟩
  have cap : Kept (∀ w', Below w.heap.size w w' → Calls Try.prog 35 #[.int .u64 p, .slice u1 n c1, .slice u2 mx c2] w' (GivesV (mulV p ls xs) w')) := ⟨fun w' hw => rapply_lc p n mx u1 u2 c1 c2 ls xs w' (h1.mt hw) (hx1.below (Nat.le_refl _) hw) hmx hv a2 hn hm⟩
  have hbl : (mulV p ls xs).length = n := by rw [mulV, List.length_map, hn]
  have hso := sol_ok (p := p) (n := n) (m := mx) (ls := ls) (x := xs) hv hn hrow hmx
  have hsz := sol_z (p := p) (n := n) (m := mx) (ls := ls) (x := xs) hv hn hrow hmx
  have csv : Kept (∀ w' u c v d, Mt w' u ls → Ls w' v (mulV p ls xs) → Calls Try.prog 40 #[.agg #[.int .u64 p], .slice u n c, .slice v n d] w' (GivesSv true (solL n mx (elR p n mx (sF p mx ls (mulV p ls xs)))) w')) := ⟨fun w' u c v d h h' => by
    have := solve_lc p n mx u v c d ls (mulV p ls xs) w' h h' hbl hv a2 hn hm
    rw [hso] at this; exact this⟩
  have hyl : (solL n mx (elR p n mx (sF p mx ls (mulV p ls xs)))).length = mx := by unfold solL; rw [if_pos hso]; simp
  have cke : Kept (∀ w' u c, Mt w' u ls → Calls Try.prog 32 #[.agg #[.int .u64 p], .slice u n c] w' (GivesC (kerL p mx (elR p n mx (elF p ls)).f (elR p n mx (elF p ls)).piv) w')) := ⟨fun w' u c h => kernel_lc p n mx u c ls w' h hv a2 hn hm⟩
  have crr : Kept (∀ w', Below w.heap.size w w' → Calls Try.prog 41 #[.int .u64 p, .slice u1 n c1] w' (GivesRf n mx (elR p n mx (elF p ls)) w')) := ⟨fun w' hw => rreduce_lc p n mx u1 c1 ls w' (h1.mt hw) hv a2 hn hm⟩
  have hinc := elR_inc p n (elF p ls) mx
  have hpl := (elR_ok (n := n) (m := mx) (f := elF p ls) hv (fun i j _ _ => elF_lt (by omega) i j) mx).len
  generalize solL n mx (elR p n mx (sF p mx ls (mulV p ls xs))) = ys at *
  generalize mulV p ls xs = bs at *
  generalize elR p n mx (elF p ls) = es at *
  obtain ⟨f, piv, fac⟩ := es
  simp only at hsz hinc hpl
  obtain ⟨np, hnp⟩ : ∃ np, piv.length = np := ⟨_, rfl⟩
  obtain ⟨x, hxf⟩ : ∃ x : Nat → Int, (fun j => xs.getD j 0) = x := ⟨_, rfl⟩
  rw [hxf] at hsz
  have hxU : ∀ i, U (x i) := fun i => by
    rw [← hxf]
    simp only [List.getD]
    cases e : xs[i]? with
    | none => exact ⟨by simp, by simp⟩
    | some z => exact hx1.all z (List.mem_of_getElem? e)
  have kzU : Kept (∀ c i, U (zF p f piv x c i)) := ⟨zF_U hv hxU⟩
  have kz : Kept (∀ i, i < mx → (zF p f piv x mx i) % p = ys.getD i 0) := ⟨hsz⟩
  have khv := (⟨hv⟩ : Kept _)
  have kinc := (⟨hinc⟩ : Kept _)
  have knp := (⟨hnp⟩ : Kept _)
  have kxf := (⟨hxf⟩ : Kept _)
  have kxU := (⟨hxU⟩ : Kept _)
  have kn := (⟨hn⟩ : Kept _)
  have kmx := (⟨hmx⟩ : Kept _)
  have kbl := (⟨hbl⟩ : Kept _)
  have kyl := (⟨hyl⟩ : Kept _)
  have kx1 := (⟨hx1⟩ : Kept _)
  have kx2 := (⟨hx2⟩ : Kept _)
  obtain ⟨KL, hKL⟩ : ∃ KL, kerL p mx f piv = KL := ⟨_, rfl⟩
  have kKL := (⟨hKL⟩ : Kept _)
  have hnk : KL.length = (frees piv mx).length := by rw [← hKL, kerL, List.length_map]
  obtain ⟨nk, hnk2⟩ : ∃ nk, KL.length = nk := ⟨_, rfl⟩
  have knk := (⟨hnk2⟩ : Kept _)
  have knk2 : Kept ((frees piv mx).length = nk) := ⟨by rw [← hnk2, hnk]⟩
  have hnk6 : nk ≤ 64 := by have := frees_len piv mx; omega
  simp only [hKL] at cke
  try simp only at crr
  rw [hn, hmx]
  have hnp6 : np ≤ 64 := by omega
  clear h1 hn hm hmx hp hv hUp hnn a1 a2 hrow hbl hso hsz hyl hinc hpl hnp hxf hxU hx1 hx2 hKL hnk hnk2
  go_enter Try.func7, Try.ntmps7
  go_wp2_with (first | (go_at_call 12; (first | with_reducible refine use1 (cpr.out _) ?_ | with_reducible refine use (cpr.out _) ?_); intro pw) | (go_at_call 30; (first | with_reducible refine use1 (awake05_c _) ?_ | with_reducible refine use (awake05_c _) ?_); intro pw) | (go_at_call 31; (first | with_reducible refine use1 (cs1.out _ (by repeat (first | exact Below.refl _ _ | refine Below.later ?_ _ | refine Below.box ?_ _ | refine Below.drew ?_ | refine Below.put ?_ (by dsimp only; omega) _))) ?_ | with_reducible refine use (cs1.out _ (by repeat (first | exact Below.refl _ _ | refine Below.later ?_ _ | refine Below.box ?_ _ | refine Below.drew ?_ | refine Below.put ?_ (by dsimp only; omega) _))) ?_); intro pw) | (go_at_call 38; (first | with_reducible refine use1 (crv.out _ (by repeat (first | exact Below.refl _ _ | refine Below.later ?_ _ | refine Below.box ?_ _ | refine Below.drew ?_ | refine Below.put ?_ (by dsimp only; omega) _))) ?_ | with_reducible refine use (crv.out _ (by repeat (first | exact Below.refl _ _ | refine Below.later ?_ _ | refine Below.box ?_ _ | refine Below.drew ?_ | refine Below.put ?_ (by dsimp only; omega) _))) ?_); intro pw) | (go_at_call 39; (first | with_reducible refine use1 (cco.out _ (by repeat (first | exact Below.refl _ _ | refine Below.later ?_ _ | refine Below.box ?_ _ | refine Below.drew ?_ | refine Below.put ?_ (by dsimp only; omega) _))) ?_ | with_reducible refine use (cco.out _ (by repeat (first | exact Below.refl _ _ | refine Below.later ?_ _ | refine Below.box ?_ _ | refine Below.drew ?_ | refine Below.put ?_ (by dsimp only; omega) _))) ?_); intro pw) | (go_at_call 35; refine Stop.out ?_))
  refine ⟨?_⟩
  obtain ⟨w0, hw0⟩ : ∃ w0, w0 = after w pw := ⟨_, rfl⟩
  have hXs : w.heap.size + pw.os.size = w0.heap.size := by rw [hw0]; simp
  rw [hXs, ← hw0]
  have kB0 : Kept (Below w.heap.size w w0) := ⟨by rw [hw0]; exact (by repeat (first | exact Below.refl _ _ | refine Below.later ?_ _ | refine Below.box ?_ _ | refine Below.drew ?_ | refine Below.put ?_ (by dsimp only; omega) _))⟩
  clear hw0 hXs cs1 crv cco cpr
  obtain ⟨X, hX⟩ : ∃ X, w0.heap.size = X := ⟨_, rfl⟩
  have hB1 : Below w.heap.size w (w0.alloc (.cells #[.int .u64 p] 27)) := Below.next kB0.out (by repeat (first | exact Below.refl _ _ | refine Below.later ?_ _ | refine Below.box ?_ _ | refine Below.drew ?_ | refine Below.put ?_ (by dsimp only; omega) _))
  have hb1 : (w0.alloc (.cells #[.int .u64 p] 27)).cell? ⟨X, 0, none⟩ = some (.int .u64 p) := by rw [← hX]; simp [go_sem]
  have hl1 : X < (w0.alloc (.cells #[.int .u64 p] 27)).heap.size := by rw [← hX]; simp
  rw [hX]
  generalize w0.alloc (.cells #[.int .u64 p] 27) = W1 at hB1 hb1 hl1 ⊢
  have kB1 := (⟨hB1⟩ : Kept _)
  have kS : Kept (∀ w', Below W1.heap.size W1 w' → w'.cell? ⟨X, 0, none⟩ = some (.int .u64 p)) := ⟨fun w' hw => by rw [hw.cell (p := ⟨X, 0, none⟩) hl1]; exact hb1⟩
  clear hB1 hX hb1 hl1
  refine (cap.out W1 kB1.out).mono ?_
  rintro e w2 ⟨ub, cb, rfl, hLb, _, hB2⟩
  have kLb := (⟨hLb⟩ : Kept _)
  have hS : Kept (∀ w', Below w2.heap.size w2 w' → w'.cell? ⟨X, 0, none⟩ = some (.int .u64 p)) := ⟨fun w' hw => kS.out w' (Below.next hB2 hw)⟩
  have kB2 : Kept (Below w.heap.size w w2) := ⟨Below.next kB1.out hB2⟩
  simp only [kbl.out]
  clear hLb hB2 kS cap
  go_wp2
  refine wp_region_noPanic ?_
  refine wp_region_held_drew (S := (fun w' => w'.cell? ⟨X, 0, none⟩ = some (.int .u64 p))) (by kernel_rfl) (hS.out _ (by repeat (first | exact Below.refl _ _ | refine Below.later ?_ _ | refine Below.box ?_ _ | refine Below.drew ?_ | refine Below.put ?_ (by dsimp only; omega) _))) (fun hHeld => ?_)
  refine wpAnyH_take (i := 0) (oi := ?o0q1) (v := ?v0q1) ?hi0q1 (by kernel_rfl) (by kernel_rfl) (by kernel_rfl) (fun _ _ _ h => h) (Or.inl ⟨?hg0q1, ?hy0q1⟩) (by assumption) ?rest0q1
  case hi0q1 => rfl
  case hg0q1 => rfl
  case' hy0q1 =>
    dsimp only [List.getElem?_toArray, List.getElem?_cons_succ, List.getElem?_cons_zero, List.getElem_cons_succ, List.getElem_cons_zero, List.getElem_toArray]
    intro w hSw
    try dsimp only at hSw
    go_simp
    try with_reducible rfl
  case' rest0q1 =>
    dsimp only [List.getElem?_toArray, List.getElem?_cons_succ, List.getElem?_cons_zero, List.getElem_cons_succ, List.getElem_cons_zero, List.getElem_toArray]
    try simp only [Act.put, List.setIfInBounds_toArray, List.set_cons_zero, List.set_cons_succ]
  refine wpAnyH_take (i := 1) (oi := ?o1q2) (v := ?v1q2) ?hi1q2 (by kernel_rfl) (by kernel_rfl) (by kernel_rfl) (fun _ _ _ h => h) (Or.inl ⟨?hg1q2, ?hy1q2⟩) (by assumption) ?rest1q2
  case hi1q2 => rfl
  case hg1q2 => rfl
  case' hy1q2 =>
    dsimp only [List.getElem?_toArray, List.getElem?_cons_succ, List.getElem?_cons_zero, List.getElem_cons_succ, List.getElem_cons_zero, List.getElem_toArray]
    intro w hSw
    try dsimp only at hSw
    go_simp
    try with_reducible rfl
  case' rest1q2 =>
    dsimp only [List.getElem?_toArray, List.getElem?_cons_succ, List.getElem?_cons_zero, List.getElem_cons_succ, List.getElem_cons_zero, List.getElem_toArray]
    try simp only [Act.put, List.setIfInBounds_toArray, List.set_cons_zero, List.set_cons_succ]
  refine wpAnyH_take (i := 3) (oi := ?o3q3) (v := ?v3q3) ?hi3q3 (by kernel_rfl) (by kernel_rfl) (by kernel_rfl) (fun _ _ _ h => h) (Or.inl ⟨?hg3q3, ?hy3q3⟩) (by assumption) ?rest3q3
  case hi3q3 => rfl
  case hg3q3 => rfl
  case' hy3q3 =>
    dsimp only [List.getElem?_toArray, List.getElem?_cons_succ, List.getElem?_cons_zero, List.getElem_cons_succ, List.getElem_cons_zero, List.getElem_toArray]
    intro w hSw
    try dsimp only at hSw
    go_simp
    try with_reducible rfl
  case' rest3q3 =>
    dsimp only [List.getElem?_toArray, List.getElem?_cons_succ, List.getElem?_cons_zero, List.getElem_cons_succ, List.getElem_cons_zero, List.getElem_toArray]
    try simp only [Act.put, List.setIfInBounds_toArray, List.set_cons_zero, List.set_cons_succ]
  refine wpAnyH_ready (rs := [2]) (by kernel_rfl) (by simp) ?_
  refine AllReadyH.cons rfl (fun K hK => ?_) AllReadyH.nil
  dsimp only [List.getElem?_toArray, List.getElem?_cons_succ, List.getElem?_cons_zero, List.getElem_cons_succ, List.getElem_cons_zero, List.getElem_toArray]
  go_simp
  go_at_call 33
  refine (ccp.out _ (Below.next kB2.out (by repeat (first | exact Below.refl _ _ | refine Below.later ?_ _ | refine Below.box ?_ _ | refine Below.drew ?_ | refine Below.put ?_ (by dsimp only; omega) _)))).mono ?_
  rintro e w3 ⟨u3, c3, rfl, hM3, _, hB3⟩
  replace hB3 : Below w2.heap.size w2 w3 := Below.next (by repeat (first | exact Below.refl _ _ | refine Below.later ?_ _ | refine Below.box ?_ _ | refine Below.drew ?_ | refine Below.put ?_ (by dsimp only; omega) _)) hB3
  simp only [kn.out]
  go_wp2
  refine hK.out _ _ ?_ (fun hHeld => ?_)
  · exact hS.out _ (hB3)
  clear hK K
  try simp only [Act.put, List.setIfInBounds_toArray, List.set_cons_zero, List.set_cons_succ]
  refine wpAnyH_ready (rs := [4]) (by kernel_rfl) (by simp) ?_
  refine AllReadyH.cons rfl (fun K hK => ?_) AllReadyH.nil
  dsimp only [List.getElem?_toArray, List.getElem?_cons_succ, List.getElem?_cons_zero, List.getElem_cons_succ, List.getElem_cons_zero, List.getElem_toArray]
  go_simp
  go_at_call 40
  refine (csv.out _ _ _ _ _ hM3 (kLb.out.below (Nat.le_refl _) hB3)).mono ?_
  rintro e w4 ⟨uy, cy, rfl, hLy, _, hB4⟩
  replace hB4 : Below w2.heap.size w2 w4 := Below.next hB3 hB4
  simp only [kyl.out]
  go_wp2
  refine hK.out _ _ ?_ (fun hHeld => ?_)
  · exact hS.out _ (hB4)
  clear hK K
  try simp only [Act.put, List.setIfInBounds_toArray, List.set_cons_zero, List.set_cons_succ]
  refine wpAnyH_take (i := 5) (oi := ?o5q4) (v := ?v5q4) ?hi5q4 (by kernel_rfl) (by kernel_rfl) (by kernel_rfl) (fun _ _ _ h => h) (Or.inl ⟨?hg5q4, ?hy5q4⟩) (by assumption) ?rest5q4
  case hi5q4 => rfl
  case hg5q4 => rfl
  case' hy5q4 =>
    dsimp only [List.getElem?_toArray, List.getElem?_cons_succ, List.getElem?_cons_zero, List.getElem_cons_succ, List.getElem_cons_zero, List.getElem_toArray]
    intro w hSw
    try dsimp only at hSw
    go_simp
    try with_reducible rfl
  case' rest5q4 =>
    dsimp only [List.getElem?_toArray, List.getElem?_cons_succ, List.getElem?_cons_zero, List.getElem_cons_succ, List.getElem_cons_zero, List.getElem_toArray]
    try simp only [Act.put, List.setIfInBounds_toArray, List.set_cons_zero, List.set_cons_succ]
  refine wpAnyH_take (i := 6) (oi := ?o6q5) (v := ?v6q5) ?hi6q5 (by kernel_rfl) (by kernel_rfl) (by kernel_rfl) (fun _ _ _ h => h) (Or.inl ⟨?hg6q5, ?hy6q5⟩) (by assumption) ?rest6q5
  case hi6q5 => rfl
  case hg6q5 => rfl
  case' hy6q5 =>
    dsimp only [List.getElem?_toArray, List.getElem?_cons_succ, List.getElem?_cons_zero, List.getElem_cons_succ, List.getElem_cons_zero, List.getElem_toArray]
    intro w hSw
    try dsimp only at hSw
    go_simp
    try with_reducible rfl
  case' rest6q5 =>
    dsimp only [List.getElem?_toArray, List.getElem?_cons_succ, List.getElem?_cons_zero, List.getElem_cons_succ, List.getElem_cons_zero, List.getElem_toArray]
    try simp only [Act.put, List.setIfInBounds_toArray, List.set_cons_zero, List.set_cons_succ]
  refine wpAnyH_take (i := 7) (oi := ?o7q6) (v := ?v7q6) ?hi7q6 (by kernel_rfl) (by kernel_rfl) (by kernel_rfl) (fun _ _ _ h => h) (Or.inl ⟨?hg7q6, ?hy7q6⟩) (by assumption) ?rest7q6
  case hi7q6 => rfl
  case hg7q6 => rfl
  case' hy7q6 =>
    dsimp only [List.getElem?_toArray, List.getElem?_cons_succ, List.getElem?_cons_zero, List.getElem_cons_succ, List.getElem_cons_zero, List.getElem_toArray]
    intro w hSw
    try dsimp only at hSw
    go_simp
    try with_reducible rfl
  case' rest7q6 =>
    dsimp only [List.getElem?_toArray, List.getElem?_cons_succ, List.getElem?_cons_zero, List.getElem_cons_succ, List.getElem_cons_zero, List.getElem_toArray]
    try simp only [Act.put, List.setIfInBounds_toArray, List.set_cons_zero, List.set_cons_succ]
  refine wpAnyH_take (i := 8) (oi := ?o8q7) (v := ?v8q7) ?hi8q7 (by kernel_rfl) (by kernel_rfl) (by kernel_rfl) (fun _ _ _ h => h) (Or.inl ⟨?hg8q7, ?hy8q7⟩) (by assumption) ?rest8q7
  case hi8q7 => rfl
  case hg8q7 => rfl
  case' hy8q7 =>
    dsimp only [List.getElem?_toArray, List.getElem?_cons_succ, List.getElem?_cons_zero, List.getElem_cons_succ, List.getElem_cons_zero, List.getElem_toArray]
    intro w hSw
    try dsimp only at hSw
    go_simp
    try with_reducible rfl
  case' rest8q7 =>
    dsimp only [List.getElem?_toArray, List.getElem?_cons_succ, List.getElem?_cons_zero, List.getElem_cons_succ, List.getElem_cons_zero, List.getElem_toArray]
    try simp only [Act.put, List.setIfInBounds_toArray, List.set_cons_zero, List.set_cons_succ]
  refine wpAnyH_take (i := 9) (oi := ?o9q8) (v := ?v9q8) ?hi9q8 (by kernel_rfl) (by kernel_rfl) (by kernel_rfl) (fun _ _ _ h => h) (Or.inl ⟨?hg9q8, ?hy9q8⟩) (by assumption) ?rest9q8
  case hi9q8 => rfl
  case hg9q8 => rfl
  case' hy9q8 =>
    dsimp only [List.getElem?_toArray, List.getElem?_cons_succ, List.getElem?_cons_zero, List.getElem_cons_succ, List.getElem_cons_zero, List.getElem_toArray]
    intro w hSw
    try dsimp only at hSw
    go_simp
    try with_reducible rfl
  case' rest9q8 =>
    dsimp only [List.getElem?_toArray, List.getElem?_cons_succ, List.getElem?_cons_zero, List.getElem_cons_succ, List.getElem_cons_zero, List.getElem_toArray]
    try simp only [Act.put, List.setIfInBounds_toArray, List.set_cons_zero, List.set_cons_succ]
  refine wpAnyH_done (by kernel_rfl) ?_ _
  refine NoPanic.normal ?_
  have kLy := (⟨hLy⟩ : Kept _)
  have kB4 : Kept (Below w.heap.size w w4) := ⟨Below.next kB2.out hB4⟩
  have hS4 : Kept (∀ w', Below w4.heap.size w4 w' → w'.cell? ⟨X, 0, none⟩ = some (.int .u64 p)) := ⟨fun w' hw => hS.out w' (Below.next hB4 hw)⟩
  clear hS hHeld hM3 hB3 hB4 hLy csv
  have hS := hS4
  clear hS4
  go_wp2
  refine wp_region_noPanic ?_
  refine wp_region_held_drew (S := (fun w' => w'.cell? ⟨X, 0, none⟩ = some (.int .u64 p))) (by kernel_rfl) (hS.out _ (by repeat (first | exact Below.refl _ _ | refine Below.later ?_ _ | refine Below.box ?_ _ | refine Below.drew ?_ | refine Below.put ?_ (by dsimp only; omega) _))) (fun hHeld => ?_)
  refine wpAnyH_take (i := 0) (oi := ?o0q9) (v := ?v0q9) ?hi0q9 (by kernel_rfl) (by kernel_rfl) (by kernel_rfl) (fun _ _ _ h => h) (Or.inl ⟨?hg0q9, ?hy0q9⟩) (by assumption) ?rest0q9
  case hi0q9 => rfl
  case hg0q9 => rfl
  case' hy0q9 =>
    dsimp only [List.getElem?_toArray, List.getElem?_cons_succ, List.getElem?_cons_zero, List.getElem_cons_succ, List.getElem_cons_zero, List.getElem_toArray]
    intro w hSw
    try dsimp only at hSw
    go_simp
    try with_reducible rfl
  case' rest0q9 =>
    dsimp only [List.getElem?_toArray, List.getElem?_cons_succ, List.getElem?_cons_zero, List.getElem_cons_succ, List.getElem_cons_zero, List.getElem_toArray]
    try simp only [Act.put, List.setIfInBounds_toArray, List.set_cons_zero, List.set_cons_succ]
  refine wpAnyH_take (i := 1) (oi := ?o1q10) (v := ?v1q10) ?hi1q10 (by kernel_rfl) (by kernel_rfl) (by kernel_rfl) (fun _ _ _ h => h) (Or.inl ⟨?hg1q10, ?hy1q10⟩) (by assumption) ?rest1q10
  case hi1q10 => rfl
  case hg1q10 => rfl
  case' hy1q10 =>
    dsimp only [List.getElem?_toArray, List.getElem?_cons_succ, List.getElem?_cons_zero, List.getElem_cons_succ, List.getElem_cons_zero, List.getElem_toArray]
    intro w hSw
    try dsimp only at hSw
    go_simp
    try with_reducible rfl
  case' rest1q10 =>
    dsimp only [List.getElem?_toArray, List.getElem?_cons_succ, List.getElem?_cons_zero, List.getElem_cons_succ, List.getElem_cons_zero, List.getElem_toArray]
    try simp only [Act.put, List.setIfInBounds_toArray, List.set_cons_zero, List.set_cons_succ]
  refine wpAnyH_ready (rs := [2]) (by kernel_rfl) (by simp) ?_
  refine AllReadyH.cons rfl (fun K hK => ?_) AllReadyH.nil
  dsimp only [List.getElem?_toArray, List.getElem?_cons_succ, List.getElem?_cons_zero, List.getElem_cons_succ, List.getElem_cons_zero, List.getElem_toArray]
  go_simp
  go_at_call 33
  refine (ccp.out _ (Below.next kB4.out (by repeat (first | exact Below.refl _ _ | refine Below.later ?_ _ | refine Below.box ?_ _ | refine Below.drew ?_ | refine Below.put ?_ (by dsimp only; omega) _)))).mono ?_
  rintro e w5 ⟨u5, c5, rfl, hM5, _, hB5⟩
  replace hB5 : Below w4.heap.size w4 w5 := Below.next (by repeat (first | exact Below.refl _ _ | refine Below.later ?_ _ | refine Below.box ?_ _ | refine Below.drew ?_ | refine Below.put ?_ (by dsimp only; omega) _)) hB5
  simp only [kn.out]
  go_wp2
  refine hK.out _ _ ?_ (fun hHeld => ?_)
  · exact hS.out _ (hB5)
  clear hK K
  try simp only [Act.put, List.setIfInBounds_toArray, List.set_cons_zero, List.set_cons_succ]
  refine wpAnyH_ready (rs := [3]) (by kernel_rfl) (by simp) ?_
  refine AllReadyH.cons rfl (fun K hK => ?_) AllReadyH.nil
  dsimp only [List.getElem?_toArray, List.getElem?_cons_succ, List.getElem?_cons_zero, List.getElem_cons_succ, List.getElem_cons_zero, List.getElem_toArray]
  go_simp
  go_at_call 32
  refine (cke.out _ _ _ hM5).mono ?_
  rintro e w6 ⟨uk, ck, rfl, hMk, _, hB6⟩
  replace hB6 : Below w4.heap.size w4 w6 := Below.next hB5 hB6
  simp only [knk.out]
  go_wp2
  refine hK.out _ _ ?_ (fun hHeld => ?_)
  · exact hS.out _ (hB6)
  clear hK K
  try simp only [Act.put, List.setIfInBounds_toArray, List.set_cons_zero, List.set_cons_succ]
  refine wpAnyH_take (i := 4) (oi := ?o4q11) (v := ?v4q11) ?hi4q11 (by kernel_rfl) (by kernel_rfl) (by kernel_rfl) (fun _ _ _ h => h) (Or.inl ⟨?hg4q11, ?hy4q11⟩) (by assumption) ?rest4q11
  case hi4q11 => rfl
  case hg4q11 => rfl
  case' hy4q11 =>
    dsimp only [List.getElem?_toArray, List.getElem?_cons_succ, List.getElem?_cons_zero, List.getElem_cons_succ, List.getElem_cons_zero, List.getElem_toArray]
    intro w hSw
    try dsimp only at hSw
    go_simp
    try with_reducible rfl
  case' rest4q11 =>
    dsimp only [List.getElem?_toArray, List.getElem?_cons_succ, List.getElem?_cons_zero, List.getElem_cons_succ, List.getElem_cons_zero, List.getElem_toArray]
    try simp only [Act.put, List.setIfInBounds_toArray, List.set_cons_zero, List.set_cons_succ]
  refine wpAnyH_done (by kernel_rfl) ?_ _
  refine NoPanic.normal ?_
  have kMk := (⟨hMk⟩ : Kept _)
  have kB6 : Kept (Below w.heap.size w w6) := ⟨Below.next kB4.out hB6⟩
  have kLy6 : Kept (Ls w6 uy ys) := ⟨kLy.out.below (Nat.le_refl _) hB6⟩
  clear hS hHeld hM5 hB5 hB6 hMk cke
  go_wp2_with (first | (go_at_call 41; refine (crr.out _ kB6.out).mono ?_; rintro e w7 ⟨B7, C7, bf7, cf7, u7', c7, rfl, hMx7, hO7⟩; simp only [knp.out]; refine Stop.out ?_))
  refine ⟨?_⟩
  have hB7 := hMx7.below
  have kB7 : Kept (Below w.heap.size w w7) := ⟨Below.next kB6.out hB7⟩
  have kpv : Kept (∀ w', Below w7.heap.size w7 w' → ∀ k, k < np → ∃ b, u7' = some ⟨b, 0, none⟩ ∧ b < w'.heap.size ∧ w'.cell? ⟨b, k, none⟩ = some (.int .i64 ((piv.getD k 0 : Nat) : Int))) := ⟨fun w' hw k hk => piv_get hO7 w' hw k (by simp only [knp.out]; exact hk)⟩
  have kgk : Kept (∀ w', Below w7.heap.size w7 w' → ∀ k, k < nk → ∃ b o l v c, uk = some ⟨b, o, none⟩ ∧ KL[k]? = some l ∧ b < w'.heap.size ∧ w'.cell? ⟨b, o + k, none⟩ = some (.slice v l.length c) ∧ Ls w' v l) := ⟨fun w' hw => (kMk.out.below (Nat.le_refl _) (Below.next hB7 hw)).get knk.out⟩
  have kgx : Kept (∀ w', Below w7.heap.size w7 w' → ∀ k, k < mx → ∃ b o z, u2 = some ⟨b, o, none⟩ ∧ xs[k]? = some z ∧ b < w'.heap.size ∧ w'.cell? ⟨b, o + k, none⟩ = some (.int .u64 z) ∧ U z) := ⟨fun w' hw => (kx1.out.below (Nat.le_refl _) (Below.next kB7.out hw)).get kmx.out⟩
  have kgy : Kept (∀ w', Below w7.heap.size w7 w' → ∀ k, k < mx → ∃ b o z, uy = some ⟨b, o, none⟩ ∧ ys[k]? = some z ∧ b < w'.heap.size ∧ w'.cell? ⟨b, o + k, none⟩ = some (.int .u64 z) ∧ U z) := ⟨fun w' hw => (kLy6.out.below (Nat.le_refl _) (Below.next hB7 hw)).get kyl.out⟩
  clear hMx7 hO7 hB7 kMk kLy6 kLy kLb crr ccp
  go_wp2_with (first | (at_builtin; refine Stop.out ?_))
  refine ⟨?_⟩
  refine wpList_append_pfx (W := w7) rfl _ _ rfl (by repeat (first | exact Below.refl _ _ | refine Below.later ?_ _ | refine Below.box ?_ _ | refine Below.drew ?_ | refine Below.put ?_ (by dsimp only; omega) _)) w7.heap.size (Nat.le_refl _) rfl (heap_alloc_new _ _) u2 xs mx c2 kmx.out rfl (kx1.out.below (Nat.le_refl _) (Below.next kB7.out (by repeat (first | exact Below.refl _ _ | refine Below.later ?_ _ | refine Below.box ?_ _ | refine Below.drew ?_ | refine Below.put ?_ (by dsimp only; omega) _)))) kx2.out (by omega) ?_
  intro Z cz w8 hB8 hZ hP8
  have kP8 : Kept (Pfx w8 Z 22 mx (fun i => .int .u64 (zF p f piv x 0 i))) := ⟨hP8.congr fun i _ => by rw [zF, ← kxf.out]⟩
  have kB8 := (⟨hB8⟩ : Kept _)
  clear hP8 hB8
  go_wp2
  go_loopw [15, 83] (fun vf vj wr => ∃ j : Nat, vj = .int .i64 (j : Int) ∧ vf = .int .i64 ((frees piv j).length : Int) ∧ j ≤ mx ∧ Kept (Pfx wr Z 22 mx (fun i => .int .u64 (zF p f piv x j i))) ∧ Kept (Below w7.heap.size w7 wr)) (fun _ v _ => ((mx : Int) - intOf v).toNat)
  case atStart => exact ⟨0, rfl, rfl, by omega, kP8, kB8⟩
  case round =>
    clear kP8 kB8
    obtain ⟨j, rfl, rfl, hj, hP, hB⟩ := hrel
    obtain ⟨w1, rfl⟩ : ∃ x, x = wr := ⟨wr, rfl⟩
    by_cases h : j < mx
    · go_wp2
      go_loopw [18, 88] (fun vb v wr => ∃ (k : Nat) (b : Bool), v = .int .i64 (k : Int) ∧ vb = .bool b ∧ k ≤ np ∧ wr = w1 ∧ Kept (b = !frB piv j k)) (fun _ v _ => ((np : Int) - intOf v).toNat)
      case atStart => exact ⟨0, false, rfl, rfl, by omega, by first | rfl | trivial, ⟨rfl⟩⟩
      case round =>
        obtain ⟨k, b, rfl, rfl, hk, rfl, hb⟩ := hrel
        obtain ⟨w1, rfl⟩ : ∃ x, x = wr := ⟨wr, rfl⟩
        by_cases h5 : k < np
        · obtain ⟨b1, rfl, hb1, hc1⟩ := kpv.out w1 hB.out k h5
          have kfb : Kept ((!frB piv j (k + 1)) = (b || decide (piv.getD k 0 = j))) := ⟨by
            rw [frB, hb.out]
            by_cases e : piv.getD k 0 = j <;> simp [e]⟩
          generalize piv.getD k 0 = pk at *
          clear hb
          cases b
          · by_cases hpc : pk = j
            · have hbe : (((pk : Nat) : Int) == (j : Int)) = true := by simp [hpc]
              have kfb2 : Kept (true = !frB piv j (k + 1)) := ⟨by rw [kfb.out]; simp [hpc]⟩
              clear kfb hpc
              go_wp2
              go_roundw
              case rel => exact ⟨k + 1, true, by go_num, rfl, by omega, by first | rfl | trivial, kfb2⟩
              case measure => first | (simp [intOf]; omega) | (simp [intOf]; done)
            · have hbe : (((pk : Nat) : Int) == (j : Int)) = false := by simp; omega
              have kfb2 : Kept (false = !frB piv j (k + 1)) := ⟨by rw [kfb.out]; simp [hpc]⟩
              clear kfb hpc
              go_wp2
              go_roundw
              case rel => exact ⟨k + 1, false, by go_num, rfl, by omega, by first | rfl | trivial, kfb2⟩
              case measure => first | (simp [intOf]; omega) | (simp [intOf]; done)
          · have kfb2 : Kept (true = !frB piv j (k + 1)) := ⟨by rw [kfb.out]; simp⟩
            clear kfb
            go_wp2
            go_roundw
            case rel => exact ⟨k + 1, true, by go_num, rfl, by omega, by first | rfl | trivial, kfb2⟩
            case measure => first | (simp [intOf]; omega) | (simp [intOf]; done)
        · have hkn : k = piv.length := by rw [knp.out]; omega
          have hall : b = !decide (j ∉ piv) := by rw [hb.out, hkn, frB_all]
          clear hb hkn
          by_cases hmem : j ∈ piv
          · obtain rfl : b = true := by rw [hall]; simp [hmem]
            have kP2 : Kept (Pfx w1 Z 22 mx (fun i => .int .u64 (zF p f piv x (j + 1) i))) := ⟨hP.out.congr fun i _ => by rw [zF, if_pos hmem]⟩
            have kfr : Kept ((frees piv (j + 1)).length = (frees piv j).length) := ⟨by rw [frees_next, if_pos hmem]⟩
            clear hP hall hmem
            go_wp2
            go_roundw
            case rel => exact ⟨j + 1, by go_num, by rw [kfr.out], by omega, kP2, hB⟩
            case measure => first | (simp [intOf]; omega) | (simp [intOf]; done)
          · obtain rfl : b = false := by rw [hall]; simp [hmem]
            have kfr : Kept ((frees piv (j + 1)).length = (frees piv j).length + 1) := ⟨by rw [frees_next, if_neg hmem, List.length_append]; rfl⟩
            obtain ⟨rr, hrr⟩ := frees_pre piv (j + 1) mx (by omega)
            have hfl : (frees piv j).length < nk := by
              rw [← knk2.out, hrr, List.length_append]; have := kfr.out; omega
            have hrow := kerL_at p mx f piv j h hmem
            rw [kKL.out] at hrow
            have kzn : Kept (∀ i, zF p f piv x (j + 1) i = fsub p (zF p f piv x j i) (fmul p (x j) (kvf p f piv j piv.length i))) := ⟨fun i => by rw [zF, if_neg hmem]⟩
            obtain ⟨fr, hfr⟩ : ∃ fr, (frees piv j).length = fr := ⟨_, rfl⟩
            rw [hfr] at hfl hrow kfr
            obtain ⟨b2, o2, l2, v2, d2, rfl, hl2, hb2, hc2, hL2⟩ := kgk.out w1 hB.out fr hfl
            have hl2e : l2 = kerR p mx f piv j := by rw [List.getD, hl2] at hrow; exact hrow
            have hl2l : l2.length = mx := by rw [hl2e]; exact kerR_len _ _ _ _ _
            rw [hl2l] at hc2
            have kl2 : Kept (∀ w', Below w7.heap.size w7 w' → b2 < w'.heap.size ∧ w'.cell? ⟨b2, o2 + fr, none⟩ = some (.slice v2 mx d2) ∧ ∀ i, i < mx → ∃ b o, v2 = some ⟨b, o, none⟩ ∧ b < w'.heap.size ∧ w'.cell? ⟨b, o + i, none⟩ = some (.int .u64 (kvf p f piv j piv.length i))) := ⟨fun w' hw => by
              obtain ⟨b', o', l', v', d', e', hl', hb', hc', hL'⟩ := kgk.out w' hw fr hfl
              injection e' with e'; injection e' with e1 e2; subst e1 e2
              rw [hl2] at hl'; injection hl' with hl'; subst hl'
              rw [hl2l] at hc'
              have h9 := kgk.out w7 (Below.refl _ _) fr hfl
              obtain ⟨b9, o9, l9, v9, d9, e9, _, hb9, hc9, _⟩ := h9
              injection e9 with e9; injection e9 with e1 e2; subst e1 e2
              rw [hw.cell (p := ⟨b2, o2 + fr, none⟩) hb9] at hc'
              rw [hB.out.cell (p := ⟨b2, o2 + fr, none⟩) hb9, hc'] at hc2
              injection hc2 with hc2; injection hc2 with g1 g2 g3
              subst g1 g3
              refine ⟨hb', by rw [hw.cell (p := ⟨b2, o2 + fr, none⟩) hb9]; exact hc', fun i hi => ?_⟩
              obtain ⟨b, o, z, e, hz, hb, hc, _⟩ := hL'.get hl2l i hi
              have : z = kvf p f piv j piv.length i := by
                rw [hl2e] at hz
                unfold kerR at hz
                rw [List.getElem?_map, List.getElem?_range hi] at hz
                injection hz with hz; exact hz.symm
              exact ⟨b, o, e, hb, by rw [← this]; exact hc⟩⟩
            have kkU : Kept (∀ i, U (kvf p f piv j piv.length i)) := ⟨fun i => kvf_U p f piv j _ i⟩
            have hfb1 : (decide ((fr : Int) ≥ (nk : Int))) = false := by simp; omega
            have hfb2 : (decide ((nk : Int) ≤ (fr : Int))) = false := by simp; omega
            have hfb3 : ¬ (nk : Int) ≤ (fr : Int) := by omega
            obtain ⟨bx, ox, xj, rfl, hxj, hbx, hcx, hUx⟩ := kgx.out w1 hB.out j h
            have kxj : Kept (∀ w', Below w7.heap.size w7 w' → bx < w'.heap.size ∧ w'.cell? ⟨bx, ox + j, none⟩ = some (.int .u64 (x j)) ∧ U (x j)) := ⟨fun w' hw => by
              obtain ⟨b', o', z', e', hz', hb', hc', hU'⟩ := kgx.out w' hw j h
              injection e' with e'; injection e' with e1 e2; subst e1 e2
              have : x j = z' := by rw [← kxf.out]; simp only [List.getD]; rw [hz']; rfl
              rw [this]; exact ⟨hb', hc', hU'⟩⟩
            clear hall hmem hrr hrow hl2 hL2 hl2e hl2l hxj hcx hUx hbx
            rw [hfr]
            go_wp2
            have hP0 : Kept (Pfx w1 Z 22 mx (fun i' => .int .u64 (if i' < 0 then zF p f piv x (j + 1) i' else zF p f piv x j i'))) := ⟨hP.out.congr fun i _ => by rw [if_neg (by omega)]⟩
            clear hP hfb1 hfb2 hfb3 hc2 hb2
            go_loopw [116] (fun v wr => ∃ i : Nat, v = .int .i64 (i : Int) ∧ i ≤ mx ∧ Kept (Pfx wr Z 22 mx (fun i' => .int .u64 (if i' < i then zF p f piv x (j + 1) i' else zF p f piv x j i'))) ∧ Kept (Below w7.heap.size w7 wr)) (fun v _ => ((mx : Int) - intOf v).toNat)
            case atStart => exact ⟨0, rfl, by omega, hP0, hB⟩
            case round =>
              clear hP0 hB
              obtain ⟨i, rfl, hi, hP, hB⟩ := hrel
              obtain ⟨w1, rfl⟩ : ∃ x, x = wr := ⟨wr, rfl⟩
              by_cases h7 : i < mx
              · obtain ⟨hb2, hc2, hg2⟩ := kl2.out w1 hB.out
                obtain ⟨b3, o3, rfl, hb3, hc3⟩ := hg2 i h7
                obtain ⟨hbx, hcx, hUx⟩ := kxj.out w1 hB.out
                have hzc := hP.out.cell h7
                rw [if_neg (Nat.lt_irrefl _)] at hzc
                have hzf := hP.out.frozen i
                have hzl := hP.out.lt
                have kzi := (⟨kzn.out i⟩ : Kept _)
                have cmul : Kept (∀ w, Calls Try.prog 43 #[.int .u64 p, .int .u64 (x j), .int .u64 (kvf p f piv j piv.length i)] w (Gives (.int .u64 (fmul p (x j) (kvf p f piv j piv.length i))) w)) := ⟨fun w => rmul_c p _ _ w hUx (kkU.out i)⟩
                have csub : Kept (∀ w, Calls Try.prog 42 #[.int .u64 p, .int .u64 (zF p f piv x j i), .int .u64 (fmul p (x j) (kvf p f piv j piv.length i))] w (Gives (.int .u64 (fsub p (zF p f piv x j i) (fmul p (x j) (kvf p f piv j piv.length i)))) w)) := ⟨fun w => rsub_c p _ _ w (kzU.out j i) fmul_U⟩
                rw [← kzi.out] at csub
                have hzZ := hZ
                generalize hz1 : zF p f piv x (j + 1) i = z1 at *
                generalize zF p f piv x j i = z0 at *
                generalize fmul p (x j) (kvf p f piv j piv.length i) = y0 at *
                generalize kvf p f piv j piv.length i = k0 at *
                generalize x j = x0 at *
                have kz1 := (⟨hz1⟩ : Kept _)
                clear hg2 hz1 hUx kzi
                go_wp2
                first | refine region_tail1 (by kernel_rfl) (by kernel_rfl) (by kernel_rfl) ?_ | refine region_tail (by kernel_rfl) (by kernel_rfl) (by kernel_rfl) ?_
                simp only [initOf, lastOf]
                repeat (go_big_quiet_step (first | (go_at_call 43; with_reducible exact quiet (cmul.out _)) | (go_at_call 42; with_reducible exact quiet (csub.out _))))
                refine wpQuiet_nil ?_
                intro _
                go_wp2
                go_roundw
                case rel => exact ⟨i + 1, by go_num, by omega, ⟨((hP.out.of_block (w' := _) (Below.block (show Below w1.heap.size w1 _ from (by repeat (first | exact Below.refl _ _ | refine Below.later ?_ _ | refine Below.box ?_ _ | refine Below.drew ?_ | refine Below.put ?_ (by dsimp only; omega) _))) _ hP.out.lt)).set i (.int .u64 z1)).congr fun i' _ => by
                  by_cases e : i' = i
                  · rw [if_pos e, if_pos (by omega), e, kz1.out]
                  · rw [if_neg e]
                    by_cases e2 : i' < i
                    · rw [if_pos e2, if_pos (by omega)]
                    · rw [if_neg e2, if_neg (by omega)]⟩, ⟨Below.put (Below.later hB.out _) hzZ _⟩⟩
                case measure => first | (simp [intOf]; omega) | (simp [intOf]; done)
              · have kP3 : Kept (Pfx w1 Z 22 mx (fun i => .int .u64 (zF p f piv x (j + 1) i))) := ⟨hP.out.congr fun i' hi' => by rw [if_pos (by omega)]⟩
                clear hP
                go_wp2
                go_roundw
                case rel => exact ⟨j + 1, by go_num, by rw [kfr.out]; go_num, by omega, kP3, hB⟩
                case measure => first | (simp [intOf]; omega) | (simp [intOf]; done)
    · have hjm : j = mx := by omega
      have hPm := hP.out
      rw [hjm] at hPm
      have kPm := (⟨hPm⟩ : Kept _)
      have hfe : (frees piv j).length = nk := by rw [hjm]; exact knk2.out
      rw [hfe]
      have kB9 : Kept (Below w.heap.size w w1) := ⟨Below.next kB7.out hB.out⟩
      clear hP hPm hjm hfe
      go_wp2
      go_loopw [147] (fun v wr => ∃ i : Nat, v = .int .i64 (i : Int) ∧ i ≤ mx ∧ Kept (Below w1.heap.size w1 wr)) (fun v _ => ((mx : Int) - intOf v).toNat)
      case atStart => exact ⟨0, rfl, by omega, ⟨Below.refl _ _⟩⟩
      case round =>
        obtain ⟨i, rfl, hi, hB2⟩ := hrel
        obtain ⟨w9, rfl⟩ : ∃ x, x = wr := ⟨wr, rfl⟩
        by_cases h7 : i < mx
        · obtain ⟨b3, o3, y, rfl, hy, hb3, hc3, hUy⟩ := kgy.out w9 (Below.next hB.out hB2.out) i h7
          have hPz := kPm.out.of_block (hB2.out.block Z kPm.out.lt)
          have hzc := hPz.cell h7
          have hzf := hPz.frozen i
          have hzl := hPz.lt
          have hzy := kz.out i h7
          have hye : ys.getD i 0 = y := by rw [List.getD, hy]; rfl
          rw [hye] at hzy
          have hzU := kzU.out mx i
          generalize zF p f piv x mx i = z0 at *
          have hzt : z0.tmod p = y := by rw [Int.tmod_eq_emod_of_nonneg hzU.1]; exact hzy
          have hp1 : (p == 0) = false := by simp; omega
          have hp0 : p ≠ 0 := by omega
          clear hPz hy hye
          go_wp2
          first | refine region_quiet1 (by kernel_rfl) ?_ | refine region_quiet (by kernel_rfl) ?_
          repeat (go_big_quiet_step (first | fail))
          refine wpQuiet_nil ?_
          intro _
          go_wp2
          go_roundw
          case rel => exact ⟨i + 1, by go_num, by omega, ⟨Below.next hB2.out (by repeat (first | exact Below.refl _ _ | refine Below.later ?_ _ | refine Below.box ?_ _ | refine Below.drew ?_ | refine Below.put ?_ (by dsimp only; omega) _))⟩⟩
          case measure => first | (simp [intOf]; omega) | (simp [intOf]; done)
        · have kB10 : Kept (Below w.heap.size w w9) := ⟨Below.next kB9.out hB2.out⟩
          go_wp2
          go_ret
          exact ⟨by simp, kB10.out⟩
set_option maxRecDepth 100000 in
theorem lifted (os : Os) (started : os.Started) (H : Type) (enc : TypeId × Value → H) :
    ReturnsInHanded {} Try.checked os 7 .any (Rows.linearSolutionsSpec.pre6 enc Try.prog Try.f7 Rows.linearSolutionsRow.domain false) (Rows.linearSolutionsSpec.post enc Try.prog Try.f7 false true false false) := by
  refine returnsInHanded_of_change (C := Try.checked) own started (by kernel_rfl) Try.func7
    (ChangeSpec.witness6 (enc := enc) (C := Try.checked) false ⟨#[], #[.int .u8 0, .slice none 0 0, .slice none 0 0], []⟩ 8 (by kernel_rfl) (by kernel_rfl) (by kernel_rfl) (by kernel_rfl)) ?_
  intro W base args ds gs before hval0 hW hcnd _
  have hval : ∀ (j : Nat) t v, Try.f7.params[j]? = some t → args[j]? = some v → Value.okWide Try.prog W .any base t v := hval0
  have hW0 : DataW.Whole enc Try.prog Try.f7.params.toList Rows.linearSolutionsSpec.vars false W args.toList ds gs before := hW
  obtain ⟨p, q, hA0, hV, rfl, _, _⟩ := hW
  have hA : DataW.TrodAll enc Try.prog W 0 (fun _ => true) true Try.f7.params.toList args.toList ds p := hA0
  rw [Try.params7] at hA hval
  obtain ⟨v0, vs0, d0, ds0, p0, q0, hargs, rfl, rfl, h0, r0⟩ := trodAll_cons hA
  obtain ⟨v1, vs1, d1, ds1, p1, q1, rfl, rfl, rfl, h1, r1⟩ := trodAll_cons r0
  obtain ⟨v2, vs2, d2, ds2, p2, q2, rfl, rfl, rfl, h2, r2⟩ := trodAll_cons r1
  obtain ⟨rfl, rfl, rfl⟩ := trodAll_nil r2
  obtain rfl : args = #[v0, v1, v2] := by cases args; simp_all
  obtain ⟨rfl, rfl⟩ := trodVars_none hV
  obtain ⟨a0, rfl, u0⟩ := open_u8 (hval 0 5 v0 rfl rfl)
  obtain ⟨a1x, a1y, a1z, rfl, u1⟩ := open_mat (hval 1 28 v1 rfl rfl) h1
  obtain ⟨a2x, a2y, a2z, rfl, u2⟩ := open_list (hval 2 32 v2 rfl rfl) h2
  clear hA0 hval0
  refine (walk W a0 u0 a1x a1y a1z u1 a2x a2y a2z u2).mono fun e W' ⟨he, hb⟩ => ⟨.bool true, he, ?_⟩
  exact law_post (fun t ht => by have ht' : t ∈ [5, 28, 32] := ht; simp only [List.mem_cons, List.not_mem_nil, or_false] at ht'; rcases ht' with rfl | rfl | rfl <;> exact ⟨by kernel_rfl, of_decide_eq_true (by kernel_rfl)⟩) rfl rfl hW0 rfl hb

theorem over : Rows.linearSolutionsRow.holds Try.pinned (OpenSpec.ofChange Rows.linearSolutionsSpec) :=
  OpenClaim.holds_of_wide 7 Try.f7 rfl rfl rfl rfl rfl rfl rfl ⟨rfl, rfl, rfl, rfl, rfl⟩ rfl rfl rfl rfl rfl (by kernel_rfl) Try.func7 (by kernel_rfl)
    (of_decide_eq_true (by kernel_rfl)) (by unfold Func.isWrapper; first | (rw [if_pos (by decide +kernel)]; kernel_rfl) | (rw [if_neg (by decide +kernel)]; exact ⟨rfl, rfl⟩))
    (fun os started H enc _ => lifted os started H enc)

/-- The statement. -/
theorem proved : Rows.LinearSolutionsSaid := over
#print axioms proved
end Go.Proofs.Ytjnlnbkdnjainaa.linearSolutions
