/- The reference's Consistent. -/
import Derived.Test.YtkpkgjniicnkcaaHLin
import Derived.Test.YtkpkgjniicnkcaaHRqp
namespace Go.Proofs.Ytkpkgjniicnkcaa
open Go.RowKit Go.Sort

set_option maxRecDepth 100000
set_option pp.maxSteps 300
def quadR (p : Int) (ev : Nat → Nat → Int) (i : Nat) : Bool := fmul p (ev 1 i) (ev 2 i) == ev 3 i
def quadE (p : Int) (ev : Nat → Nat → Int) (N : Nat) : Bool := (List.range N).all (quadR p ev)
theorem all_take_next {f : Nat → Bool} {N i : Nat} (h : i < N) : ((List.range N).take (i + 1)).all f = (((List.range N).take i).all f && f i) := by
  rw [List.take_add_one, List.getElem?_range h, List.all_append]; simp

set_option maxHeartbeats 8000000 in
theorem rconsistent_c (B P0 P S : Nat) (p q k n r pub vs : Int) (u : Option Addr) (c : Nat) (ls : List (List Int)) (up : Option Addr) (cp : Nat) (ps : List Int) (ur : Option Addr) (cr : Nat) (R : List Rw) (w : World) (hb : 1 ≤ B ∧ B ≤ 256) (hP0 : P0 ≤ 70000) (hP : P ≤ 70000) (hP0B : P0 * B ≤ 70000) (hPB : P * B ≤ 70000) (hS : S ≤ P0 * B)
    (hm16 : R.length ≤ P * B) (hMt : Mt w u ls) (hlen : ls.length = P0 + P + P + P) (hfull : ∀ l ∈ ls, l.length = B) (hUl : ∀ l ∈ ls, ∀ x ∈ l, U x)
    (hps : Ls w up ps) (hup : up = none → cp = 0) (hpl : ps.length ≤ 65536) (hR : Rws w ur R) :
    Calls Try.prog 25 #[.agg #[.int .u64 p, .int .i64 (B : Int), .int .i64 q, .int .i64 k, .int .i64 n, .int .i64 (S : Int), .int .i64 r, .int .i64 (P0 : Nat), .int .i64 (P : Nat), .int .i64 (P : Nat), .int .i64 (P : Nat)], .agg #[.int .u64 p, .int .i64 pub, .int .i64 vs, .slice ur R.length cr], .slice up ps.length cp, .slice u ls.length c] w
      (Gives (.tuple #[.bool (linC p (wsC ls B P0 P S ps) R (eleV ls B P0 P P) R.length), .bool (quadE p (eleV ls B P0 P P) (P * B))]) w) := by
  obtain ⟨m, hm⟩ : ∃ m, R.length = m := ⟨_, rfl⟩
  obtain ⟨np, hnp⟩ : ∃ m, ps.length = m := ⟨_, rfl⟩
  obtain ⟨M, hM⟩ : ∃ m, ls.length = m := ⟨_, rfl⟩
  obtain ⟨PB, hPB'⟩ : ∃ m, P * B = m := ⟨_, rfl⟩
  obtain ⟨ev, hev⟩ : ∃ ev, eleV ls B P0 P P = ev := ⟨_, rfl⟩
  have ce : Kept (∀ (v i : Nat) w', Below w.heap.size w w' → v ≤ 3 → i < (if v = 0 then P0 else P) * B → Calls Try.prog 41 #[.agg #[.int .u64 p, .int .i64 (B : Int), .int .i64 q, .int .i64 k, .int .i64 n, .int .i64 (S : Int), .int .i64 r, .int .i64 (P0 : Nat), .int .i64 (P : Nat), .int .i64 (P : Nat), .int .i64 (P : Nat)], .slice u M c, .int .i64 (v : Int), .int .i64 (i : Int)] w' (Gives (.int .u64 (ev v i)) w')) := ⟨fun v i w' hw hv hi => by
    rw [← hM, ← hev]
    have hd : i / B < (if v = 0 then P0 else P) := Nat.div_lt_of_lt_mul (by rw [Nat.mul_comm]; exact hi)
    refine element_c B P0 P P P v i p q k n S r u c ls w' hb hP0 hP hP hv ?_ (hMt.below (Nat.le_refl _) hw) hfull ?_ (by omega)
    · split at hi <;> omega
    · rw [hlen]; unfold ahead
      split at hd
      · rename_i e; rw [if_pos e]; omega
      · rename_i e; rw [if_neg e]
        split
        · omega
        · split <;> omega⟩
  have hevU : Kept (∀ v i, U (ev v i)) := ⟨fun v i => by rw [← hev]; exact ele_U hUl⟩
  have hwse : wsC ls B P0 P S ps = 1 :: (ps ++ (List.range S).map (ev 0)) := by rw [wsC, hev]
  have kR : Kept (Rws w ur R) := ⟨hR⟩
  have kps : Kept (Ls w up ps ∧ (up = none → cp = 0)) := ⟨hps, hup⟩
  have e1 : Kept (R.length = m) := ⟨hm⟩
  have e2 : Kept (ps.length = np) := ⟨hnp⟩
  have hS7 : S ≤ 70000 := by omega
  have hPB7 : PB ≤ 70000 := by omega
  have hmPB : m ≤ PB := by omega
  have kS0 : Kept (S ≤ P0 * B ∧ P * B = PB) := ⟨hS, hPB'⟩
  have hPBI : (P : Int) * (B : Int) = (PB : Int) := by rw [← hPB']; simp
  rw [hwse, hev, hm, hPB', hM, hnp]
  rw [hnp] at hpl
  obtain ⟨ws, hws⟩ : ∃ ws, 1 :: (ps ++ (List.range S).map (ev 0)) = ws := ⟨_, rfl⟩
  have kws : Kept (1 :: (ps ++ (List.range S).map (ev 0)) = ws) := ⟨hws⟩
  rw [hws]
  clear hR hps hup hm hnp hM hMt hfull hUl hlen hP0B hPB hS hm16 hwse hev hPB' hws
  go_enter Try.func25, Try.ntmps25
  go_wp2_with (first | (at_builtin; refine wpList_pushL (W := (w.alloc (.cells #[.int .u64 p, .int .i64 (B : Int), .int .i64 q, .int .i64 k, .int .i64 n, .int .i64 (S : Int), .int .i64 r, .int .i64 (P0 : Nat), .int .i64 (P : Nat), .int .i64 (P : Nat), .int .i64 (P : Nat)] 41)).alloc (.cells #[.int .u64 p, .int .i64 pub, .int .i64 vs, .slice ur m cr] 33)) rfl _ _ rfl _ [1] 1 rfl (by have := Grown.one 23 ((w.alloc (.cells #[.int .u64 p, .int .i64 (B : Int), .int .i64 q, .int .i64 k, .int .i64 n, .int .i64 (S : Int), .int .i64 r, .int .i64 (P0 : Nat), .int .i64 (P : Nat), .int .i64 (P : Nat), .int .i64 (P : Nat)] 41)).alloc (.cells #[.int .u64 p, .int .i64 pub, .int .i64 vs, .slice ur m cr] 33)) (.int .u64 1); simp only [World.size_alloc] at this; exact this) rfl up ps np cp e2.out rfl (kps.out.1.below (Nat.le_refl _) (by repeat (first | exact Below.refl _ _ | refine Below.later ?_ _ | refine Below.box ?_ _ | refine Below.drew ?_ | refine Below.put ?_ (by dsimp only; omega) _))) kps.out.2 (by omega) ?_; intro v2 w2 hG hkeep hsz hat; refine Stop.out ?_))
  refine ⟨?_⟩
  obtain ⟨W1, hW1⟩ : ∃ W1, W1 = (w.alloc (.cells #[.int .u64 p, .int .i64 (B : Int), .int .i64 q, .int .i64 k, .int .i64 n, .int .i64 (S : Int), .int .i64 r, .int .i64 (P0 : Nat), .int .i64 (P : Nat), .int .i64 (P : Nat), .int .i64 (P : Nat)] 41)).alloc (.cells #[.int .u64 p, .int .i64 pub, .int .i64 vs, .slice ur m cr] 33) := ⟨_, rfl⟩
  rw [← hW1] at hG
  have hB1 : Kept (Below w.heap.size w W1) := ⟨by rw [hW1]; exact (by repeat (first | exact Below.refl _ _ | refine Below.later ?_ _ | refine Below.box ?_ _ | refine Below.drew ?_ | refine Below.put ?_ (by dsimp only; omega) _))⟩
  have hWs : W1.heap.size = w.heap.size + 1 + 1 := by rw [hW1]; simp
  have kall : Kept (∀ w', Below W1.heap.size W1 w' → (∀ i x, (#[Value.int .u64 p, .int .i64 (B : Int), .int .i64 q, .int .i64 k, .int .i64 n, .int .i64 (S : Int), .int .i64 r, .int .i64 (P0 : Nat), .int .i64 (P : Nat), .int .i64 (P : Nat), .int .i64 (P : Nat)] : Array Value)[i]? = some x → w'.cell? ⟨w.heap.size, i, none⟩ = some x) ∧ w'.cell? ⟨w.heap.size + 1, 3, none⟩ = some (.slice ur m cr) ∧ w.heap.size < w'.heap.size ∧ w.heap.size + 1 < w'.heap.size) := ⟨fun w' hw => by
    have := hw.size
    refine ⟨fun i x hx => ?_, ?_, by omega, by omega⟩
    · rw [hw.cell (p := ⟨w.heap.size, i, none⟩) (by simp only []; omega), hW1, World.cell?_alloc_lt _ _ _ (by simp), World.cell?_alloc_new]; exact hx
    · rw [hw.cell (p := ⟨w.heap.size + 1, 3, none⟩) (by simp only []; omega), hW1]; simp [go_sem]⟩
  have hG0 : Kept (Grown 23 W1 w2 v2 (1 + np + 0) ((1 :: (ps ++ (List.range 0).map (ev 0))).map fun z => Value.int .u64 z)) := ⟨by simpa using hG⟩
  clear hG hkeep hsz hat hW1
  go_wp2
  go_loopw [10, 11] (fun v vi wr => ∃ (i : Nat), vi = .int .i64 (i : Int) ∧ i ≤ S ∧ Kept (Grown 23 W1 wr v (1 + np + i) ((1 :: (ps ++ (List.range i).map (ev 0))).map fun z => Value.int .u64 z))) (fun _ vi _ => ((S : Int) - intOf vi).toNat)
  case atStart => exact ⟨0, rfl, by omega, hG0⟩
  case round =>
    clear hG0
    obtain ⟨i, rfl, hi, hG⟩ := hrel
    obtain ⟨w1, rfl⟩ : ∃ x, x = wr := ⟨wr, rfl⟩
    have hB := hG.out.below
    obtain ⟨kl, k3, lt0, lt1⟩ := kall.out w1 hB
    have l0 := kl 0 _ rfl
    have l1 := kl 1 _ rfl
    have l2 := kl 2 _ rfl
    have l3 := kl 3 _ rfl
    have l4 := kl 4 _ rfl
    have l5 := kl 5 _ rfl
    have l6 := kl 6 _ rfl
    have l7 := kl 7 _ rfl
    have l8 := kl 8 _ rfl
    have l9 := kl 9 _ rfl
    have l10 := kl 10 _ rfl
    have hBw : Kept (Below w.heap.size w w1) := ⟨Below.next hB1.out hB⟩
    by_cases h : i < S
    · obtain ⟨x, hx⟩ : ∃ x, ev 0 i = x := ⟨_, rfl⟩
      have c0 : Kept (∀ w', Below w.heap.size w w' → Calls Try.prog 41 #[.agg #[.int .u64 p, .int .i64 (B : Int), .int .i64 q, .int .i64 k, .int .i64 n, .int .i64 (S : Int), .int .i64 r, .int .i64 (P0 : Nat), .int .i64 (P : Nat), .int .i64 (P : Nat), .int .i64 (P : Nat)], .slice u M c, .int .i64 0, .int .i64 (i : Int)] w' (Gives (.int .u64 x) w')) := ⟨fun w' hw => by
        rw [← hx]; exact ce.out 0 i w' hw (by omega) (by rw [if_pos rfl]; have := kS0.out.1; omega)⟩
      have hlst : Kept ((1 :: (ps ++ (List.range i).map (ev 0))).map (fun z => Value.int .u64 z) ++ [.int .u64 x] = (1 :: (ps ++ (List.range (i + 1)).map (ev 0))).map fun z => Value.int .u64 z) := ⟨by simp [List.range_succ, hx]⟩
      clear hB kl hx
      go_wp2_with (first | (go_at_call 41; (first | with_reducible refine use1 (c0.out _ (by first | exact hBw.out | exact Below.later hBw.out _)) ?_ | with_reducible refine use (c0.out _ (by first | exact hBw.out | exact Below.later hBw.out _)) ?_); intro pw) | (at_builtin; refine wpList_push (W := W1) 36 23 (.int .u64 0) 8 Try.underlying36 (by kernel_rfl) rfl (by decide) rfl _ _ rfl _ _ _ ((hG.out.later _).box _) rfl (.int .u64 x) rfl _ rfl (by simp [go_sem]) (by omega) ?_; intro v3 w3 hG2; refine Stop.out ?_))
      refine ⟨?_⟩
      have hG3 : Kept (Grown 23 W1 w3 v3 (1 + np + (i + 1)) ((1 :: (ps ++ (List.range (i + 1)).map (ev 0))).map fun z => Value.int .u64 z)) := ⟨by rw [← hlst.out]; exact hG2⟩
      clear hG hG2 hlst
      go_wp2
      go_roundw
      case rel => exact ⟨i + 1, by go_num, by omega, hG3⟩
      case measure => first | (simp [intOf]; omega) | (simp [intOf]; done)
    · have hiS : i = S := by omega
      rw [hiS, kws.out] at hG
      have hGo := hG.out
      obtain ⟨u2, c2, rfl, _⟩ := hGo.form
      have hLs := hGo.ls rfl (by omega) (fun x hx => by
        rw [← kws.out] at hx
        rcases List.mem_cons.1 hx with rfl | hx
        · exact ⟨by decide, by decide⟩
        · rcases List.mem_append.1 hx with hx | hx
          · exact kps.out.1.all x hx
          · obtain ⟨j, _, rfl⟩ := List.mem_map.1 hx
            exact hevU.out 0 j)
      obtain ⟨L, hL⟩ : ∃ L, 1 + np + S = L := ⟨_, rfl⟩
      have k2 : Kept (Ls w1 u2 ws) := ⟨hLs.1⟩
      have kwl : Kept (ws.length = L) := ⟨by rw [← hL]; exact hLs.2.2⟩
      have kR2 := (⟨(kR.out.below (Nat.le_refl _) hBw.out).get e1.out⟩ : Kept _)
      rw [hL]
      clear hG hGo hLs hL hB kl
      go_wp2
      go_loopw [12, 14] (fun vl vi wr => ∃ (i : Nat) (lb : Bool), vl = .bool lb ∧ vi = .int .i64 (i : Int) ∧ i ≤ m ∧ Below w1.heap.size w1 wr ∧ Kept (lb = ((List.range m).take i).all (linR p ws R ev))) (fun _ vi _ => ((m : Int) - intOf vi).toNat)
      case atStart => exact ⟨0, true, rfl, rfl, by omega, (by repeat (first | exact Below.refl _ _ | refine Below.later ?_ _ | refine Below.box ?_ _ | refine Below.drew ?_ | refine Below.put ?_ (by dsimp only; omega) _)), ⟨rfl⟩⟩
      case round =>
        obtain ⟨i, lb, rfl, rfl, hi, hBr, hI⟩ := hrel
        obtain ⟨q4, rfl⟩ := after_of hBr
        clear hBr
        by_cases h2 : i < m
        · obtain ⟨b1, o1, rw', rfl, hx1, hb1, hc1, hc2, hc3, ha, hb', hc'⟩ := kR2.out i h2
          have hRi : R.getD i rw0 = rw' := by rw [List.getD, hx1]; rfl
          obtain ⟨z1, hz1⟩ : ∃ z, valL p ws rw'.a.l = z := ⟨_, rfl⟩
          obtain ⟨z2, hz2⟩ : ∃ z, valL p ws rw'.b.l = z := ⟨_, rfl⟩
          obtain ⟨z3, hz3⟩ : ∃ z, valL p ws rw'.c.l = z := ⟨_, rfl⟩
          obtain ⟨y1, hx1'⟩ : ∃ x, ev 1 i = x := ⟨_, rfl⟩
          obtain ⟨y2, hx2'⟩ : ∃ x, ev 2 i = x := ⟨_, rfl⟩
          obtain ⟨y3, hx3'⟩ : ∃ x, ev 3 i = x := ⟨_, rfl⟩
          have hLR : linR p ws R ev i = ((y1 == z1) && (y2 == z2) && (y3 == z3)) := by
            unfold linR; rw [hRi]
            simp only [List.range_succ, List.range_zero, List.nil_append, List.cons_append, List.all_cons, List.all_nil, Bool.and_true, side]
            simp [hx1', hx2', hx3', hz1, hz2, hz3, Bool.and_assoc]
          have hnx : Kept (((List.range m).take (i + 1)).all (linR p ws R ev) = (lb && ((y1 == z1) && (y2 == z2) && (y3 == z3)))) := ⟨by rw [all_take_next h2, ← hI.out, hLR]⟩
          have va : Kept (∀ w', Below w1.heap.size w1 w' → Calls Try.prog 46 #[.int .u64 p, rw'.a.v, .slice u2 L c2] w' (Gives (.int .u64 z1) w')) := ⟨fun w' hw => by
            have := rvalue_c p rw'.a.u rw'.a.c rw'.a.l u2 c2 ws w' (ha.below (Nat.le_refl _) hw) (k2.out.below (Nat.le_refl _) hw)
            rw [hz1, kwl.out] at this; exact this⟩
          have vb : Kept (∀ w', Below w1.heap.size w1 w' → Calls Try.prog 46 #[.int .u64 p, rw'.b.v, .slice u2 L c2] w' (Gives (.int .u64 z2) w')) := ⟨fun w' hw => by
            have := rvalue_c p rw'.b.u rw'.b.c rw'.b.l u2 c2 ws w' (hb'.below (Nat.le_refl _) hw) (k2.out.below (Nat.le_refl _) hw)
            rw [hz2, kwl.out] at this; exact this⟩
          have vc : Kept (∀ w', Below w1.heap.size w1 w' → Calls Try.prog 46 #[.int .u64 p, rw'.c.v, .slice u2 L c2] w' (Gives (.int .u64 z3) w')) := ⟨fun w' hw => by
            have := rvalue_c p rw'.c.u rw'.c.c rw'.c.l u2 c2 ws w' (hc'.below (Nat.le_refl _) hw) (k2.out.below (Nat.le_refl _) hw)
            rw [hz3, kwl.out] at this; exact this⟩
          have c1 : Kept (∀ w', Below w.heap.size w w' → Calls Try.prog 41 #[.agg #[.int .u64 p, .int .i64 (B : Int), .int .i64 q, .int .i64 k, .int .i64 n, .int .i64 (S : Int), .int .i64 r, .int .i64 (P0 : Nat), .int .i64 (P : Nat), .int .i64 (P : Nat), .int .i64 (P : Nat)], .slice u M c, .int .i64 1, .int .i64 (i : Int)] w' (Gives (.int .u64 y1) w')) := ⟨fun w' hw => by rw [← hx1']; exact ce.out 1 i w' hw (by omega) (by rw [if_neg (by omega), kS0.out.2]; omega)⟩
          have c2 : Kept (∀ w', Below w.heap.size w w' → Calls Try.prog 41 #[.agg #[.int .u64 p, .int .i64 (B : Int), .int .i64 q, .int .i64 k, .int .i64 n, .int .i64 (S : Int), .int .i64 r, .int .i64 (P0 : Nat), .int .i64 (P : Nat), .int .i64 (P : Nat), .int .i64 (P : Nat)], .slice u M c, .int .i64 2, .int .i64 (i : Int)] w' (Gives (.int .u64 y2) w')) := ⟨fun w' hw => by rw [← hx2']; exact ce.out 2 i w' hw (by omega) (by rw [if_neg (by omega), kS0.out.2]; omega)⟩
          have c3 : Kept (∀ w', Below w.heap.size w w' → Calls Try.prog 41 #[.agg #[.int .u64 p, .int .i64 (B : Int), .int .i64 q, .int .i64 k, .int .i64 n, .int .i64 (S : Int), .int .i64 r, .int .i64 (P0 : Nat), .int .i64 (P : Nat), .int .i64 (P : Nat), .int .i64 (P : Nat)], .slice u M c, .int .i64 3, .int .i64 (i : Int)] w' (Gives (.int .u64 y3) w')) := ⟨fun w' hw => by rw [← hx3']; exact ce.out 3 i w' hw (by omega) (by rw [if_neg (by omega), kS0.out.2]; omega)⟩
          clear ha hb' hc' hx1 hI hRi hLR hz1 hz2 hz3 hx1' hx2' hx3' ce
          simp only [Lin.v] at *
          generalize rw'.a.l.length = an at *
          generalize rw'.b.l.length = bn at *
          generalize rw'.c.l.length = cn at *
          generalize rw'.a.u = au at *
          generalize rw'.b.u = bu at *
          generalize rw'.c.u = cu at *
          generalize rw'.a.c = ac at *
          generalize rw'.b.c = bc at *
          generalize rw'.c.c = cc at *
          have hltA : w.heap.size < w1.heap.size + q4.os.size + 1 := by omega
          have hltB : w.heap.size < w1.heap.size + q4.os.size := by omega
          have hltC : w1.heap.size + q4.os.size < w1.heap.size + q4.os.size + 1 := by omega
          cases lb
          · go_wp2
            first | refine region_quiet1 (by kernel_rfl) ?_ | refine region_quiet (by kernel_rfl) ?_
            repeat (go_big_quiet_step (first | (go_at_call 41; with_reducible exact quiet (c1.out _ (by exact Below.next hBw.out (by repeat (first | exact Below.refl _ _ | refine Below.later ?_ _ | refine Below.box ?_ _ | refine Below.drew ?_ | refine Below.put ?_ (by dsimp only; omega) _))))) | (go_at_call 41; with_reducible exact quiet (c2.out _ (by exact Below.next hBw.out (by repeat (first | exact Below.refl _ _ | refine Below.later ?_ _ | refine Below.box ?_ _ | refine Below.drew ?_ | refine Below.put ?_ (by dsimp only; omega) _))))) | (go_at_call 41; with_reducible exact quiet (c3.out _ (by exact Below.next hBw.out (by repeat (first | exact Below.refl _ _ | refine Below.later ?_ _ | refine Below.box ?_ _ | refine Below.drew ?_ | refine Below.put ?_ (by dsimp only; omega) _))))) | (go_at_call 46; with_reducible exact quiet (va.out _ (by exact (by repeat (first | exact Below.refl _ _ | refine Below.later ?_ _ | refine Below.box ?_ _ | refine Below.drew ?_ | refine Below.put ?_ (by dsimp only; omega) _))))) | (go_at_call 46; with_reducible exact quiet (vb.out _ (by exact (by repeat (first | exact Below.refl _ _ | refine Below.later ?_ _ | refine Below.box ?_ _ | refine Below.drew ?_ | refine Below.put ?_ (by dsimp only; omega) _))))) | (go_at_call 46; with_reducible exact quiet (vc.out _ (by exact (by repeat (first | exact Below.refl _ _ | refine Below.later ?_ _ | refine Below.box ?_ _ | refine Below.drew ?_ | refine Below.put ?_ (by dsimp only; omega) _)))))))
            refine wpQuiet_nil ?_
            intro _
            go_wp2
            go_roundw
            case rel => exact ⟨i + 1, false, rfl, by go_num, by omega, (by repeat (first | exact Below.refl _ _ | refine Below.later ?_ _ | refine Below.box ?_ _ | refine Below.drew ?_ | refine Below.put ?_ (by dsimp only; omega) _)), ⟨by rw [hnx.out]; simp []⟩⟩
            case measure => first | (simp [intOf]; omega) | (simp [intOf]; done)
          · by_cases t1 : y1 = z1
            · have n1 : (y1 == z1) = true := by simp [t1]
              by_cases t2 : y2 = z2
              · have n2 : (y2 == z2) = true := by simp [t2]
                by_cases t3 : y3 = z3
                · have n3 : (y3 == z3) = true := by simp [t3]
                  clear t1 t2 t3
                  go_wp2
                  first | refine region_quiet1 (by kernel_rfl) ?_ | refine region_quiet (by kernel_rfl) ?_
                  repeat (go_big_quiet_step (first | (go_at_call 41; with_reducible exact quiet (c1.out _ (by exact Below.next hBw.out (by repeat (first | exact Below.refl _ _ | refine Below.later ?_ _ | refine Below.box ?_ _ | refine Below.drew ?_ | refine Below.put ?_ (by dsimp only; omega) _))))) | (go_at_call 41; with_reducible exact quiet (c2.out _ (by exact Below.next hBw.out (by repeat (first | exact Below.refl _ _ | refine Below.later ?_ _ | refine Below.box ?_ _ | refine Below.drew ?_ | refine Below.put ?_ (by dsimp only; omega) _))))) | (go_at_call 41; with_reducible exact quiet (c3.out _ (by exact Below.next hBw.out (by repeat (first | exact Below.refl _ _ | refine Below.later ?_ _ | refine Below.box ?_ _ | refine Below.drew ?_ | refine Below.put ?_ (by dsimp only; omega) _))))) | (go_at_call 46; with_reducible exact quiet (va.out _ (by exact (by repeat (first | exact Below.refl _ _ | refine Below.later ?_ _ | refine Below.box ?_ _ | refine Below.drew ?_ | refine Below.put ?_ (by dsimp only; omega) _))))) | (go_at_call 46; with_reducible exact quiet (vb.out _ (by exact (by repeat (first | exact Below.refl _ _ | refine Below.later ?_ _ | refine Below.box ?_ _ | refine Below.drew ?_ | refine Below.put ?_ (by dsimp only; omega) _))))) | (go_at_call 46; with_reducible exact quiet (vc.out _ (by exact (by repeat (first | exact Below.refl _ _ | refine Below.later ?_ _ | refine Below.box ?_ _ | refine Below.drew ?_ | refine Below.put ?_ (by dsimp only; omega) _)))))))
                  refine wpQuiet_nil ?_
                  intro _
                  go_wp2
                  go_roundw
                  case rel => exact ⟨i + 1, true, rfl, by go_num, by omega, (by repeat (first | exact Below.refl _ _ | refine Below.later ?_ _ | refine Below.box ?_ _ | refine Below.drew ?_ | refine Below.put ?_ (by dsimp only; omega) _)), ⟨by rw [hnx.out]; simp [n1, n2, n3]⟩⟩
                  case measure => first | (simp [intOf]; omega) | (simp [intOf]; done)
                · have n3 : (y3 == z3) = false := by simp [t3]
                  clear t1 t2 t3
                  go_wp2
                  first | refine region_quiet1 (by kernel_rfl) ?_ | refine region_quiet (by kernel_rfl) ?_
                  repeat (go_big_quiet_step (first | (go_at_call 41; with_reducible exact quiet (c1.out _ (by exact Below.next hBw.out (by repeat (first | exact Below.refl _ _ | refine Below.later ?_ _ | refine Below.box ?_ _ | refine Below.drew ?_ | refine Below.put ?_ (by dsimp only; omega) _))))) | (go_at_call 41; with_reducible exact quiet (c2.out _ (by exact Below.next hBw.out (by repeat (first | exact Below.refl _ _ | refine Below.later ?_ _ | refine Below.box ?_ _ | refine Below.drew ?_ | refine Below.put ?_ (by dsimp only; omega) _))))) | (go_at_call 41; with_reducible exact quiet (c3.out _ (by exact Below.next hBw.out (by repeat (first | exact Below.refl _ _ | refine Below.later ?_ _ | refine Below.box ?_ _ | refine Below.drew ?_ | refine Below.put ?_ (by dsimp only; omega) _))))) | (go_at_call 46; with_reducible exact quiet (va.out _ (by exact (by repeat (first | exact Below.refl _ _ | refine Below.later ?_ _ | refine Below.box ?_ _ | refine Below.drew ?_ | refine Below.put ?_ (by dsimp only; omega) _))))) | (go_at_call 46; with_reducible exact quiet (vb.out _ (by exact (by repeat (first | exact Below.refl _ _ | refine Below.later ?_ _ | refine Below.box ?_ _ | refine Below.drew ?_ | refine Below.put ?_ (by dsimp only; omega) _))))) | (go_at_call 46; with_reducible exact quiet (vc.out _ (by exact (by repeat (first | exact Below.refl _ _ | refine Below.later ?_ _ | refine Below.box ?_ _ | refine Below.drew ?_ | refine Below.put ?_ (by dsimp only; omega) _)))))))
                  refine wpQuiet_nil ?_
                  intro _
                  go_wp2
                  go_roundw
                  case rel => exact ⟨i + 1, false, rfl, by go_num, by omega, (by repeat (first | exact Below.refl _ _ | refine Below.later ?_ _ | refine Below.box ?_ _ | refine Below.drew ?_ | refine Below.put ?_ (by dsimp only; omega) _)), ⟨by rw [hnx.out]; simp [n1, n2, n3]⟩⟩
                  case measure => first | (simp [intOf]; omega) | (simp [intOf]; done)
              · have n2 : (y2 == z2) = false := by simp [t2]
                clear t1 t2
                go_wp2
                first | refine region_quiet1 (by kernel_rfl) ?_ | refine region_quiet (by kernel_rfl) ?_
                repeat (go_big_quiet_step (first | (go_at_call 41; with_reducible exact quiet (c1.out _ (by exact Below.next hBw.out (by repeat (first | exact Below.refl _ _ | refine Below.later ?_ _ | refine Below.box ?_ _ | refine Below.drew ?_ | refine Below.put ?_ (by dsimp only; omega) _))))) | (go_at_call 41; with_reducible exact quiet (c2.out _ (by exact Below.next hBw.out (by repeat (first | exact Below.refl _ _ | refine Below.later ?_ _ | refine Below.box ?_ _ | refine Below.drew ?_ | refine Below.put ?_ (by dsimp only; omega) _))))) | (go_at_call 41; with_reducible exact quiet (c3.out _ (by exact Below.next hBw.out (by repeat (first | exact Below.refl _ _ | refine Below.later ?_ _ | refine Below.box ?_ _ | refine Below.drew ?_ | refine Below.put ?_ (by dsimp only; omega) _))))) | (go_at_call 46; with_reducible exact quiet (va.out _ (by exact (by repeat (first | exact Below.refl _ _ | refine Below.later ?_ _ | refine Below.box ?_ _ | refine Below.drew ?_ | refine Below.put ?_ (by dsimp only; omega) _))))) | (go_at_call 46; with_reducible exact quiet (vb.out _ (by exact (by repeat (first | exact Below.refl _ _ | refine Below.later ?_ _ | refine Below.box ?_ _ | refine Below.drew ?_ | refine Below.put ?_ (by dsimp only; omega) _))))) | (go_at_call 46; with_reducible exact quiet (vc.out _ (by exact (by repeat (first | exact Below.refl _ _ | refine Below.later ?_ _ | refine Below.box ?_ _ | refine Below.drew ?_ | refine Below.put ?_ (by dsimp only; omega) _)))))))
                refine wpQuiet_nil ?_
                intro _
                go_wp2
                go_roundw
                case rel => exact ⟨i + 1, false, rfl, by go_num, by omega, (by repeat (first | exact Below.refl _ _ | refine Below.later ?_ _ | refine Below.box ?_ _ | refine Below.drew ?_ | refine Below.put ?_ (by dsimp only; omega) _)), ⟨by rw [hnx.out]; simp [n1, n2]⟩⟩
                case measure => first | (simp [intOf]; omega) | (simp [intOf]; done)
            · have n1 : (y1 == z1) = false := by simp [t1]
              clear t1
              go_wp2
              first | refine region_quiet1 (by kernel_rfl) ?_ | refine region_quiet (by kernel_rfl) ?_
              repeat (go_big_quiet_step (first | (go_at_call 41; with_reducible exact quiet (c1.out _ (by exact Below.next hBw.out (by repeat (first | exact Below.refl _ _ | refine Below.later ?_ _ | refine Below.box ?_ _ | refine Below.drew ?_ | refine Below.put ?_ (by dsimp only; omega) _))))) | (go_at_call 41; with_reducible exact quiet (c2.out _ (by exact Below.next hBw.out (by repeat (first | exact Below.refl _ _ | refine Below.later ?_ _ | refine Below.box ?_ _ | refine Below.drew ?_ | refine Below.put ?_ (by dsimp only; omega) _))))) | (go_at_call 41; with_reducible exact quiet (c3.out _ (by exact Below.next hBw.out (by repeat (first | exact Below.refl _ _ | refine Below.later ?_ _ | refine Below.box ?_ _ | refine Below.drew ?_ | refine Below.put ?_ (by dsimp only; omega) _))))) | (go_at_call 46; with_reducible exact quiet (va.out _ (by exact (by repeat (first | exact Below.refl _ _ | refine Below.later ?_ _ | refine Below.box ?_ _ | refine Below.drew ?_ | refine Below.put ?_ (by dsimp only; omega) _))))) | (go_at_call 46; with_reducible exact quiet (vb.out _ (by exact (by repeat (first | exact Below.refl _ _ | refine Below.later ?_ _ | refine Below.box ?_ _ | refine Below.drew ?_ | refine Below.put ?_ (by dsimp only; omega) _))))) | (go_at_call 46; with_reducible exact quiet (vc.out _ (by exact (by repeat (first | exact Below.refl _ _ | refine Below.later ?_ _ | refine Below.box ?_ _ | refine Below.drew ?_ | refine Below.put ?_ (by dsimp only; omega) _)))))))
              refine wpQuiet_nil ?_
              intro _
              go_wp2
              go_roundw
              case rel => exact ⟨i + 1, false, rfl, by go_num, by omega, (by repeat (first | exact Below.refl _ _ | refine Below.later ?_ _ | refine Below.box ?_ _ | refine Below.drew ?_ | refine Below.put ?_ (by dsimp only; omega) _)), ⟨by rw [hnx.out]; simp [n1]⟩⟩
              case measure => first | (simp [intOf]; omega) | (simp [intOf]; done)
        · have hI2 : Kept (lb = linC p ws R ev m) := ⟨by rw [hI.out, List.take_of_length_le (by simp; omega)]; rfl⟩
          clear hI kR2
          go_wp2
          go_loopw [13, 16] (fun vq vi wr => ∃ (i : Nat) (qb : Bool), vq = .bool qb ∧ vi = .int .i64 (i : Int) ∧ i ≤ PB ∧ Below w1.heap.size w1 wr ∧ Kept (qb = ((List.range PB).take i).all (quadR p ev))) (fun _ vi _ => ((PB : Int) - intOf vi).toNat)
          case atStart => exact ⟨0, true, rfl, rfl, by omega, (by repeat (first | exact Below.refl _ _ | refine Below.later ?_ _ | refine Below.box ?_ _ | refine Below.drew ?_ | refine Below.put ?_ (by dsimp only; omega) _)), ⟨rfl⟩⟩
          case round =>
            obtain ⟨i, qb, rfl, rfl, hi, hBr, hJ⟩ := hrel
            obtain ⟨q5, rfl⟩ := after_of hBr
            clear hBr
            by_cases h3 : i < PB
            · obtain ⟨y1, hx1'⟩ : ∃ x, ev 1 i = x := ⟨_, rfl⟩
              obtain ⟨y2, hx2'⟩ : ∃ x, ev 2 i = x := ⟨_, rfl⟩
              obtain ⟨y3, hx3'⟩ : ∃ x, ev 3 i = x := ⟨_, rfl⟩
              obtain ⟨y, hy⟩ : ∃ y, fmul p y1 y2 = y := ⟨_, rfl⟩
              have hnx : Kept (((List.range PB).take (i + 1)).all (quadR p ev) = (qb && (y == y3))) := ⟨by rw [all_take_next h3, ← hJ.out, quadR, hx1', hx2', hx3', hy]⟩
              have cm : Kept (∀ w, Calls Try.prog 40 #[.int .u64 p, .int .u64 y1, .int .u64 y2] w (Gives (.int .u64 y) w)) := ⟨fun w => by rw [← hy]; exact rmul_c p y1 y2 w (by rw [← hx1']; exact hevU.out _ _) (by rw [← hx2']; exact hevU.out _ _)⟩
              have c1 : Kept (∀ w', Below w.heap.size w w' → Calls Try.prog 41 #[.agg #[.int .u64 p, .int .i64 (B : Int), .int .i64 q, .int .i64 k, .int .i64 n, .int .i64 (S : Int), .int .i64 r, .int .i64 (P0 : Nat), .int .i64 (P : Nat), .int .i64 (P : Nat), .int .i64 (P : Nat)], .slice u M c, .int .i64 1, .int .i64 (i : Int)] w' (Gives (.int .u64 y1) w')) := ⟨fun w' hw => by rw [← hx1']; exact ce.out 1 i w' hw (by omega) (by rw [if_neg (by omega), kS0.out.2]; omega)⟩
              have c2 : Kept (∀ w', Below w.heap.size w w' → Calls Try.prog 41 #[.agg #[.int .u64 p, .int .i64 (B : Int), .int .i64 q, .int .i64 k, .int .i64 n, .int .i64 (S : Int), .int .i64 r, .int .i64 (P0 : Nat), .int .i64 (P : Nat), .int .i64 (P : Nat), .int .i64 (P : Nat)], .slice u M c, .int .i64 2, .int .i64 (i : Int)] w' (Gives (.int .u64 y2) w')) := ⟨fun w' hw => by rw [← hx2']; exact ce.out 2 i w' hw (by omega) (by rw [if_neg (by omega), kS0.out.2]; omega)⟩
              have c3 : Kept (∀ w', Below w.heap.size w w' → Calls Try.prog 41 #[.agg #[.int .u64 p, .int .i64 (B : Int), .int .i64 q, .int .i64 k, .int .i64 n, .int .i64 (S : Int), .int .i64 r, .int .i64 (P0 : Nat), .int .i64 (P : Nat), .int .i64 (P : Nat), .int .i64 (P : Nat)], .slice u M c, .int .i64 3, .int .i64 (i : Int)] w' (Gives (.int .u64 y3) w')) := ⟨fun w' hw => by rw [← hx3']; exact ce.out 3 i w' hw (by omega) (by rw [if_neg (by omega), kS0.out.2]; omega)⟩
              have hi6 : i ≤ 70000 := by omega
              have hiI : (i : Int) < (PB : Int) := by omega
              clear hJ hx1' hx2' hx3' hy
              cases qb
              · go_wp2
                first | refine region_quiet1 (by kernel_rfl) ?_ | refine region_quiet (by kernel_rfl) ?_
                repeat (go_big_quiet_step (first | fail))
                refine wpQuiet_nil ?_
                intro _
                go_wp2
                go_roundw
                case rel => exact ⟨i + 1, false, rfl, by go_num, by omega, (by repeat (first | exact Below.refl _ _ | refine Below.later ?_ _ | refine Below.box ?_ _ | refine Below.drew ?_ | refine Below.put ?_ (by dsimp only; omega) _)), ⟨by rw [hnx.out]; rfl⟩⟩
                case measure => first | (simp [intOf]; omega) | (simp [intOf]; done)
              · go_wp2
                first | refine region_quiet1 (by kernel_rfl) ?_ | refine region_quiet (by kernel_rfl) ?_
                repeat (go_big_quiet_step (first | (go_at_call 41; with_reducible exact quiet (c1.out _ (by exact Below.next hBw.out (by repeat (first | exact Below.refl _ _ | refine Below.later ?_ _ | refine Below.box ?_ _ | refine Below.drew ?_ | refine Below.put ?_ (by dsimp only; omega) _))))) | (go_at_call 41; with_reducible exact quiet (c2.out _ (by exact Below.next hBw.out (by repeat (first | exact Below.refl _ _ | refine Below.later ?_ _ | refine Below.box ?_ _ | refine Below.drew ?_ | refine Below.put ?_ (by dsimp only; omega) _))))) | (go_at_call 41; with_reducible exact quiet (c3.out _ (by exact Below.next hBw.out (by repeat (first | exact Below.refl _ _ | refine Below.later ?_ _ | refine Below.box ?_ _ | refine Below.drew ?_ | refine Below.put ?_ (by dsimp only; omega) _))))) | (go_at_call 40; with_reducible exact quiet (cm.out _))))
                refine wpQuiet_nil ?_
                intro _
                go_wp2
                go_roundw
                case rel => exact ⟨i + 1, y == y3, rfl, by go_num, by omega, (by repeat (first | exact Below.refl _ _ | refine Below.later ?_ _ | refine Below.box ?_ _ | refine Below.drew ?_ | refine Below.put ?_ (by dsimp only; omega) _)), ⟨by rw [hnx.out]; rfl⟩⟩
                case measure => first | (simp [intOf]; omega) | (simp [intOf]; done)
            · have hJ2 : Kept (quadE p ev PB = qb) := ⟨by rw [hJ.out, List.take_of_length_le (by simp; omega)]; rfl⟩
              clear hJ
              go_wp2
              go_ret2
              exact ⟨by rw [hJ2.out, ← hI2.out]; rfl, Below.next hBw.out (by repeat (first | exact Below.refl _ _ | refine Below.later ?_ _ | refine Below.box ?_ _ | refine Below.drew ?_ | refine Below.put ?_ (by dsimp only; omega) _))⟩
end Go.Proofs.Ytkpkgjniicnkcaa
