/- layout.Messages. -/
import Derived.Test.YtpkjlnelkacbgaaHCof
import Derived.Test.YtpkjlnelkacbgaaHPut
import Derived.Test.YtpkjlnelkacbgaaHSat
namespace Go.Proofs.Ytpkjlnelkacbgaa
open Go.RowKit Go.Sort

set_option maxRecDepth 100000
def lm (p : Int) (ws : List Int) (R : List Rw) (i j k : Nat) : List Int := (vl p ws R k).take (if k < j then i + 1 else i)
theorem rLf_lens {p : Int} {ws : List Int} {R : List Rw} {pb : Nat} : (rLf p ws R pb 0).length = ws.length - (1 + pb) ∧ ∀ k, (rLf p ws R pb (k + 1)).length = R.length :=
  ⟨by rw [rLf, if_pos rfl, List.length_drop], fun k => by rw [rLf, if_neg (by omega), vl_len]⟩
theorem lcuts_eq {p : Int} {ws : List Int} {R : List Rw} {pb B P0 P1 S : Nat} (hl : ws.length = 1 + pb + S) (h0 : upl B S = P0) (h1 : upl B R.length = P1) : cuts B (fun i => upl B (rLf p ws R pb i).length) (rLf p ws R pb) 4 = rCuts p ws R pb B P0 P1 := by
  rw [rCuts]
  congr 1
  funext i
  cases i with
  | zero => rw [rLf_lens.1, hl, show 1 + pb + S - (1 + pb) = S by omega, h0]; rfl
  | succ k => rw [rLf_lens.2, h1]; rfl

set_option maxHeartbeats 8000000 in
theorem lmessages_c (B P0 P1 S : Nat) (p q k n vs : Int) (u : Option Addr) (c : Nat) (R : List Rw) (uw : Option Addr) (cw : Nat) (ws : List Int) (pb : Nat) (w : World) (hv : vld p = true) (hb : 1 ≤ B ∧ B ≤ 256) (hm16 : R.length ≤ 16384) (hs : (S : Int) = vs - 1 - (pb : Int)) (hvs : vs ≤ 65536)
    (hP0 : ((S : Int) + (B : Int) - 1) / (B : Int) = P0) (hP1 : ((R.length : Int) + (B : Int) - 1) / (B : Int) = P1) (hR : Rws w u R) (hw : Ls w uw ws) (hlen : (ws.length : Int) = vs) (hcw : ws.length ≤ cw) :
    Calls Try.prog 23 #[.agg #[.int .u64 p, .int .i64 (B : Int), .int .i64 q, .int .i64 k, .int .i64 n, .int .i64 (S : Int), .int .i64 R.length, .int .i64 (P0 : Nat), .int .i64 (P1 : Nat), .int .i64 (P1 : Nat), .int .i64 (P1 : Nat)], .agg #[.int .u64 p, .int .i64 (pb : Int), .int .i64 vs, .slice u R.length c], .slice uw ws.length cw] w (GivesMat (cuts B (fun i => upl B (rLf p ws R pb i).length) (rLf p ws R pb) 4) w) := by
  obtain ⟨m, hm⟩ : ∃ m, R.length = m := ⟨_, rfl⟩
  obtain ⟨n', hn'⟩ : ∃ m, ws.length = m := ⟨_, rfl⟩
  have hP0' : P0 ≤ 70000 := by have : ((S : Int) + (B : Int) - 1) / (B : Int) ≤ 70000 := Int.le_trans (Int.ediv_le_self _ (by omega)) (by omega); omega
  have hP1' : P1 ≤ 70000 := by have : ((R.length : Int) + (B : Int) - 1) / (B : Int) ≤ 70000 := Int.le_trans (Int.ediv_le_self _ (by omega)) (by omega); omega
  obtain ⟨bw, ow, rfl⟩ : ∃ bw ow, uw = some ⟨bw, ow, none⟩ := by
    obtain ⟨bw, ow, e, _⟩ := hw.mem (fun e => by subst e; simp at hlen; omega)
    exact ⟨bw, ow, e⟩
  have cb : Kept (∀ w', Calls Try.prog 37 #[.agg #[.int .u64 p, .int .i64 (B : Int), .int .i64 q, .int .i64 k, .int .i64 n, .int .i64 (S : Int), .int .i64 R.length, .int .i64 (P0 : Nat), .int .i64 (P1 : Nat), .int .i64 (P1 : Nat), .int .i64 (P1 : Nat)], .agg #[.int .u64 p, .int .i64 (pb : Int), .int .i64 vs, .slice u R.length c]] w' (Gives (.bool true) w')) := ⟨fun w' => belongs_c p B q k n S P0 P1 pb vs R.length u c w' hv (by omega) hm16 (by omega) ⟨by omega, hs⟩ hvs hP0 hP1⟩
  have kR := (⟨hR.get hm⟩ : Kept _)
  have kw : Kept (Ls w (some ⟨bw, ow, none⟩) ws) := ⟨hw⟩
  have e1 : Kept (R.length = m) := ⟨hm⟩
  have e2 : Kept (ws.length = n') := ⟨hn'⟩
  have hlb : Kept (∀ i, (rLf p ws R pb i).length ≤ 70000) := ⟨fun i => by
    cases i with
    | zero => rw [rLf_lens.1]; omega
    | succ k => rw [rLf_lens.2]; omega⟩
  have hpb : pb ≤ 65536 := by omega
  have hnv : (n' : Int) = vs := by omega
  subst hnv
  have hnS : Kept (n' = 1 + pb + S) := ⟨by omega⟩
  have hS0 : (0 : Int) ≤ (S : Int) := by omega
  have hle : 1 + pb ≤ n' := by have := hnS.out; omega
  have hn6 : n' ≤ 65536 := by omega
  rw [hm] at cb hm16 ⊢
  rw [hn'] at hcw ⊢
  clear hR hw hm hn' hP0 hP1 hs hlen
  by_cases hcap : cw = 1 + pb
  case' pos =>
    have hn0 : Kept (ws.drop (1 + pb) = []) := ⟨List.drop_eq_nil_of_le (by rw [e2.out]; omega)⟩
    subst hcap
    go_enter Try.func23, Try.ntmps23
    go_wp2_with (first | (go_at_call 37; (first | with_reducible refine use1 (cb.out _) ?_ | with_reducible refine use (cb.out _) ?_); intro pw))
    generalize Value.slice (some ⟨bw, ow, none⟩) (n' - (1 + pb)) (1 + pb - (1 + pb)) = junk
    obtain ⟨v0, hv0⟩ : ∃ v0, v0 = Value.slice (some ⟨bw, ow, none⟩) 0 0 := ⟨_, rfl⟩
    have kv0 : Kept (∃ o' c', v0 = Value.slice (some ⟨bw, o', none⟩) (ws.drop (1 + pb)).length c' ∧ Ls w (some ⟨bw, o', none⟩) (ws.drop (1 + pb)) ∧ (ws.drop (1 + pb)).length ≤ c') := ⟨ow, 0, by rw [hn0.out]; exact hv0, by rw [hn0.out]; exact Ls.nil _ _, by rw [hn0.out]; simp⟩
    rw [← hv0]
    clear hv0 hn0
  case' neg =>
    have hc0 : ¬ cw - (1 + pb) = 0 := by omega
    have hc1 : (cw - (1 + pb) == 0) = false := by simp; omega
    go_enter Try.func23, Try.ntmps23
    go_wp2_with (first | (go_at_call 37; (first | with_reducible refine use1 (cb.out _) ?_ | with_reducible refine use (cb.out _) ?_); intro pw))
    obtain ⟨v0, hv0⟩ : ∃ v0, v0 = Value.slice (some ⟨bw, ow + (1 + pb), none⟩) (n' - (1 + pb)) (cw - (1 + pb)) := ⟨_, rfl⟩
    have kv0 : Kept (∃ o' c', v0 = Value.slice (some ⟨bw, o', none⟩) (ws.drop (1 + pb)).length c' ∧ Ls w (some ⟨bw, o', none⟩) (ws.drop (1 + pb)) ∧ (ws.drop (1 + pb)).length ≤ c') := ⟨_, _, by rw [List.length_drop, e2.out]; exact hv0, kw.out.drop (1 + pb), by rw [List.length_drop, e2.out]; omega⟩
    rw [← hv0]
    clear hv0 hc0 hc1 hcap
  · obtain ⟨W1, hW1⟩ : ∃ W1, W1 = after ((w.alloc (.cells #[.int .u64 p, .int .i64 (B : Int), .int .i64 q, .int .i64 k, .int .i64 n, .int .i64 (S : Int), .int .i64 (m : Int), .int .i64 (P0 : Nat), .int .i64 (P1 : Nat), .int .i64 (P1 : Nat), .int .i64 (P1 : Nat)] 32)).alloc
      (.cells #[.int .u64 p, .int .i64 (pb : Int), .int .i64 (n' : Int), .slice u m c] 25)) pw := ⟨_, rfl⟩
    rw [← hW1]
    have hW : Kept (Below w.heap.size w W1) := ⟨by rw [hW1]; exact (by repeat (first | exact Below.refl _ _ | refine Below.later ?_ _ | refine Below.box ?_ _ | refine Below.drew ?_ | refine Below.put ?_ (by dsimp only; omega) _))⟩
    have hWs : W1.heap.size = w.heap.size + 1 + 1 + pw.os.size := by rw [hW1]; simp
    have cl : Kept (∀ i x, (#[Value.int .u64 p, .int .i64 (B : Int), .int .i64 q, .int .i64 k, .int .i64 n, .int .i64 (S : Int), .int .i64 (m : Int), .int .i64 (P0 : Nat), .int .i64 (P1 : Nat), .int .i64 (P1 : Nat), .int .i64 (P1 : Nat)] : Array Value)[i]? = some x → W1.cell? ⟨w.heap.size, i, none⟩ = some x) := ⟨fun i x hx => by
      rw [hW1, after_cell _ _ _ _ (by simp), World.cell?_alloc_lt _ _ _ (by simp), World.cell?_alloc_new]; exact hx⟩
    clear hW1
    obtain ⟨VB, hVB⟩ : ∃ VB, VB = w.heap.size + 1 + 1 + pw.os.size := ⟨_, rfl⟩
    rw [← hVB] at hWs ⊢
    have hV0 : w.heap.size < VB := by omega
    clear hVB
    go_loopw [32] (fun vi wr => ∃ (i : Nat) (vs : Nat → Value), vi = .int .i64 (i : Int) ∧ i ≤ m ∧ Kept (Fam W1 wr VB v0 vs (lm p ws R i 0))) (fun vi _ => ((m : Int) - intOf vi).toNat)
    case atStart =>
      have e : ∀ j, lm p ws R 0 0 j = [] := fun j => by unfold lm; simp
      refine ⟨0, fun _ => .slice none 0 0, rfl, by omega, ⟨⟨fun j hj => ?_, fun j hj => by simp [Value.ownBlock], fun i j b _ _ _ h => by simp [Value.ownBlock] at h, ?_, by omega, fun j hj x hx => ?_⟩⟩⟩
      · rw [e]
        exact (Grown.nil0 _ W1).keep (by repeat (first | exact Below.refl _ _ | refine Below.later ?_ _ | refine Below.box ?_ _ | refine Below.drew ?_ | refine Below.put ?_ (by dsimp only; omega) _))
      · have := World.rowIs_alloc W1 #[v0, .slice none 0 0, .slice none 0 0, .slice none 0 0] 84 (fun i => if i = 0 then v0 else .slice none 0 0) (fun i hi => by
          match i, hi with
          | 0, _ => rfl
          | 1, _ => rfl
          | 2, _ => rfl
          | 3, _ => rfl)
        rw [hWs] at this
        exact this
      · rw [e] at hx; simp at hx
    case round =>
      obtain ⟨i, vs1, rfl, hi, hF⟩ := hrel
      obtain ⟨w1, rfl⟩ : ∃ x, x = wr := ⟨wr, rfl⟩
      have hB := (hF.out.own 0 (by omega)).below
      have hBs := hB.size
      by_cases h : i < m
      · obtain ⟨b1, o1, rw', rfl, hx1, hb1, hc1, hc2, hc3, ha, hb', hc'⟩ := kR.out i h
        have hBw : Kept (Below w.heap.size w w1) := ⟨Below.next hW.out hB⟩
        have hr1 : w1.cell? ⟨b1, o1 + i * 3, none⟩ = some rw'.a.v := by rw [hBw.out.cell (p := ⟨b1, o1 + i * 3, none⟩) hb1]; exact hc1
        have hr2 : w1.cell? ⟨b1, o1 + i * 3 + 1, none⟩ = some rw'.b.v := by rw [hBw.out.cell (p := ⟨b1, o1 + i * 3 + 1, none⟩) hb1]; exact hc2
        have hr3 : w1.cell? ⟨b1, o1 + i * 3 + 2, none⟩ = some rw'.c.v := by rw [hBw.out.cell (p := ⟨b1, o1 + i * 3 + 2, none⟩) hb1]; exact hc3
        have hb1w : b1 < w1.heap.size := by have := hBw.out.size; omega
        have kS : Kept (∀ j : Nat, j < 3 → ∃ tu tn tc tl, (∀ w, (Instr.index 81 (.agg #[rw'.a.v, rw'.b.v, rw'.c.v]) (.int .i64 (j : Int))).run Try.prog w = .ok (.slice tu tn tc) w) ∧ Tm w tu tl ∧ tl.length = tn ∧ (vl p ws R j)[i]? = some (valL p ws tl)) := ⟨fun j hj => ⟨(side j rw').u, (side j rw').l.length, (side j rw').c, (side j rw').l, fun w => lidx_c j hj rw' w, by
          match j, hj with
          | 0, _ => exact ha
          | 1, _ => exact hb'
          | 2, _ => exact hc', rfl, by rw [vl, List.getElem?_map, hx1]; rfl⟩⟩
        clear hc1 hc2 hc3 ha hb' hc' hx1 hB
        simp only [Lin.v] at *
        generalize rw'.a.l.length = an at *
        generalize rw'.b.l.length = bn at *
        generalize rw'.c.l.length = cn at *
        generalize rw'.a.u = au at *
        generalize rw'.b.u = bu at *
        generalize rw'.c.u = cu at *
        generalize rw'.a.c = ac at *
        generalize rw'.b.c = bc at *
        generalize rw'.c.c = cc at *
        go_wp2
        go_loopw [43] (fun vj wr => ∃ (j : Nat) (vs : Nat → Value), vj = .int .i64 (j : Int) ∧ j ≤ 3 ∧ Kept (Fam W1 wr VB v0 vs (lm p ws R i j))) (fun vj _ => (3 - intOf vj).toNat)
        case atStart => exact ⟨0, vs1, rfl, by omega, ⟨hF.out.keep (by repeat (first | exact Below.refl _ _ | refine Below.later ?_ _ | refine Below.box ?_ _ | refine Below.drew ?_ | refine Below.put ?_ (by dsimp only; omega) _))⟩⟩
        case round =>
          clear hF hr1 hr2 hr3 hb1w hBs
          obtain ⟨j, vs2, rfl, hj, hF⟩ := hrel
          obtain ⟨w2, rfl⟩ : ∃ x, x = wr := ⟨wr, rfl⟩
          have hB := (hF.out.own 0 (by omega)).below
          have hBs := hB.size
          by_cases h2 : j < 3
          · have hjI : (j : Int) < 3 := by omega
            obtain ⟨tu, tn, tc, tl, hidx, hTm, htl, hvx⟩ := kS.out j h2
            have hBw2 : Kept (Below w.heap.size w w2) := ⟨Below.next hW.out hB⟩
            have hvk : w2.cell? ⟨VB, j + 1, none⟩ = some (vs2 j) := by have := hF.out.arr.cell (i := j + 1) (by omega); simpa using this
            have hfz : w2.frozen? ⟨VB, j + 1, none⟩ = false := hF.out.arr.frozen (j + 1)
            have hVlt : VB < w2.heap.size := hF.out.arr.lt
            have q0 : w2.cell? ⟨w.heap.size, 0, none⟩ = some (.int .u64 p) := by rw [hB.cell (p := ⟨w.heap.size, 0, none⟩) (by simp only []; omega)]; exact cl.out 0 _ rfl
            have n1 : (vs2 j).ownBlock ≠ some VB := hF.out.off j (by omega)
            have n2 : (vs2 j).ownBlock ≠ some w.heap.size := fun e => by have := ((hF.out.own j (by omega)).own.lt _ e).1; omega
            have hli : (lm p ws R i j j).length = i := by unfold lm; rw [if_neg (by omega), List.length_take, vl_len, e1.out]; omega
            obtain ⟨z, hzz⟩ : ∃ z, valL p ws tl = z := ⟨_, rfl⟩
            have cvl : Kept (∀ c w', Below w2.heap.size w2 w' → Calls Try.prog 47 #[.int .u64 p, .slice tu tn tc, .slice (some ⟨bw, ow, none⟩) n' c] w' (Gives (.int .u64 z) w')) := ⟨fun c w' hw' => by
              have := tvalue_c p tu tc tl (some ⟨bw, ow, none⟩) c ws w' ((hTm.below (Nat.le_refl _) hBw2.out).below (Nat.le_refl _) hw') ((kw.out.below (Nat.le_refl _) hBw2.out).below (Nat.le_refl _) hw')
              rw [e2.out, htl] at this
              rw [← hzz]; exact this⟩
            have hUz : Kept (U z) := ⟨by rw [← hzz]; exact valL_U⟩
            have hz2 : Kept (∀ j', j' < 3 → (if j' = j then lm p ws R i j j ++ [z] else lm p ws R i j j') = lm p ws R i (j + 1) j') := ⟨fun j' hj' => by
              by_cases e : j' = j
              · subst e
                rw [if_pos rfl]; unfold lm; rw [if_neg (by omega), if_pos (by omega), take_next hvx, hzz]
              · rw [if_neg e]; unfold lm
                by_cases e2 : j' < j
                · rw [if_pos e2, if_pos (by omega)]
                · rw [if_neg e2, if_neg (by omega)]⟩
            have hApp : Kept (∀ w', Below w2.heap.size w2 w' → w'.ownsRow W1.heap.size 22 1 (vs2 j) i (ints (lm p ws R i j j))) := ⟨fun w' hw' => by
              have := ((hF.out.own j (by omega)).keep hw').own
              rw [hli] at this; exact this⟩
            have hAb : Kept (∀ w', Below w2.heap.size w2 w' → W1.heap.size ≤ w'.heap.size) := ⟨fun w' hw' => Nat.le_trans hBs hw'.size⟩
            have hli : Kept ((lm p ws R i j j).length = i) := ⟨hli⟩
            have hlw : w.heap.size < w2.heap.size := by omega
            have hS : Kept (∀ w', Below w2.heap.size w2 w' → (w'.cell? ⟨VB, j + 1, none⟩ = some (vs2 j) ∧ w'.frozen? ⟨VB, j + 1, none⟩ = false ∧ w'.cell? ⟨w.heap.size, 0, none⟩ = some (.int .u64 p))) := ⟨fun w' hw' => ⟨by rw [hw'.cell (p := ⟨VB, j + 1, none⟩) hVlt]; exact hvk, by rw [World.frozen?_of_block (hw'.block VB hVlt)]; exact hfz, by rw [hw'.cell (p := ⟨w.heap.size, 0, none⟩) hlw]; exact q0⟩⟩
            have hu90 := Try.underlying84
            have hk1 : (0 : Int) ≤ (j : Int) := Int.natCast_nonneg _
            have hk2 : (j : Int) + 1 < 4 := by omega
            have hk3 : (0 : Int) ≤ (j : Int) + 1 := by omega
            have hk5 : (0 : Int) ≤ 1 + (j : Int) := by omega
            have hk6 : (1 : Int) + (j : Int) < 4 := by omega
            have hk4 : IntKind.i64.wrap ((j : Int) + 1) = (j : Int) + 1 := by rw [IntKind.wrap_i64]; omega
            have hk7 : IntKind.i64.wrap (1 + (j : Int)) = (j : Int) + 1 := by rw [IntKind.wrap_i64]; omega
            obtain ⟨i0, hi0, hz0, hz1, hz2'⟩ := info_parts (show (Try.prog.info? 22).map (fun i => (i.zero, i.size, i.bytes)) = some (some (.int .u64 0), 1, 8) from by kernel_rfl)
            clear hzz hTm htl hvx kS
            go_wp2
            refine wp_region_noPanic ?_
            refine region_strip (S := (fun w' => w'.cell? ⟨VB, j + 1, none⟩ = some (vs2 j) ∧ w'.frozen? ⟨VB, j + 1, none⟩ = false ∧ w'.cell? ⟨w.heap.size, 0, none⟩ = some (.int .u64 p))) (by kernel_rfl) (by kernel_rfl) (hS.out _ (by repeat (first | exact Below.refl _ _ | refine Below.later ?_ _ | refine Below.box ?_ _ | refine Below.drew ?_ | refine Below.put ?_ (by dsimp only; omega) _))) (fun hHeld => ?_)
            simp only [initOf, lastOf]
            refine wpAnyH_take (i := 0) (oi := ?o0q1) (v := ?v0q1) ?hi0q1 (by kernel_rfl) (by kernel_rfl) (by kernel_rfl) (fun _ _ _ h => h) (Or.inl ⟨?hg0q1, ?hy0q1⟩) (by assumption) ?rest0q1
            case hi0q1 => rfl
            case hg0q1 => rfl
            case' hy0q1 =>
              dsimp only [List.getElem?_toArray, List.getElem?_cons_succ, List.getElem?_cons_zero, List.getElem_cons_succ, List.getElem_cons_zero, List.getElem_toArray]
              intro w hSw
              try dsimp only at hSw
              go_simp
              try with_reducible rfl
            case' rest0q1 =>
              dsimp only [List.getElem?_toArray, List.getElem?_cons_succ, List.getElem?_cons_zero, List.getElem_cons_succ, List.getElem_cons_zero, List.getElem_toArray]
              try simp only [Act.put, List.setIfInBounds_toArray, List.set_cons_zero, List.set_cons_succ]
            refine wpAnyH_take (i := 1) (oi := ?o1q2) (v := ?v1q2) ?hi1q2 (by kernel_rfl) (by kernel_rfl) (by kernel_rfl) (fun _ _ _ h => h) (Or.inl ⟨?hg1q2, ?hy1q2⟩) (by assumption) ?rest1q2
            case hi1q2 => rfl
            case hg1q2 => rfl
            case' hy1q2 =>
              dsimp only [List.getElem?_toArray, List.getElem?_cons_succ, List.getElem?_cons_zero, List.getElem_cons_succ, List.getElem_cons_zero, List.getElem_toArray]
              intro w hSw
              try dsimp only at hSw
              go_simp
              try with_reducible rfl
            case' rest1q2 =>
              dsimp only [List.getElem?_toArray, List.getElem?_cons_succ, List.getElem?_cons_zero, List.getElem_cons_succ, List.getElem_cons_zero, List.getElem_toArray]
              try simp only [Act.put, List.setIfInBounds_toArray, List.set_cons_zero, List.set_cons_succ]
            refine wpAnyH_take (i := 2) (oi := ?o2q3) (v := ?v2q3) ?hi2q3 (by kernel_rfl) (by kernel_rfl) (by kernel_rfl) (fun _ _ _ h => h) (Or.inl ⟨?hg2q3, ?hy2q3⟩) (by assumption) ?rest2q3
            case hi2q3 => rfl
            case hg2q3 => rfl
            case' hy2q3 =>
              dsimp only [List.getElem?_toArray, List.getElem?_cons_succ, List.getElem?_cons_zero, List.getElem_cons_succ, List.getElem_cons_zero, List.getElem_toArray]
              intro w hSw
              try dsimp only at hSw
              go_simp
              try with_reducible rfl
            case' rest2q3 =>
              dsimp only [List.getElem?_toArray, List.getElem?_cons_succ, List.getElem?_cons_zero, List.getElem_cons_succ, List.getElem_cons_zero, List.getElem_toArray]
              try simp only [Act.put, List.setIfInBounds_toArray, List.set_cons_zero, List.set_cons_succ]
            refine wpAnyH_take (i := 3) (oi := ?o3q4) (v := ?v3q4) ?hi3q4 (by kernel_rfl) (by kernel_rfl) (by kernel_rfl) (fun _ _ _ h => h) (Or.inl ⟨?hg3q4, ?hy3q4⟩) (by assumption) ?rest3q4
            case hi3q4 => rfl
            case hg3q4 => rfl
            case' hy3q4 =>
              dsimp only [List.getElem?_toArray, List.getElem?_cons_succ, List.getElem?_cons_zero, List.getElem_cons_succ, List.getElem_cons_zero, List.getElem_toArray]
              intro w hSw
              try dsimp only at hSw
              go_simp
              try with_reducible rfl
            case' rest3q4 =>
              dsimp only [List.getElem?_toArray, List.getElem?_cons_succ, List.getElem?_cons_zero, List.getElem_cons_succ, List.getElem_cons_zero, List.getElem_toArray]
              try simp only [Act.put, List.setIfInBounds_toArray, List.set_cons_zero, List.set_cons_succ]
            refine wpAnyH_take (i := 4) (oi := ?o4q5) (v := ?v4q5) ?hi4q5 (by kernel_rfl) (by kernel_rfl) (by kernel_rfl) (fun _ _ _ h => h) (Or.inl ⟨?hg4q5, ?hy4q5⟩) (by assumption) ?rest4q5
            case hi4q5 => rfl
            case hg4q5 => rfl
            case' hy4q5 =>
              dsimp only [List.getElem?_toArray, List.getElem?_cons_succ, List.getElem?_cons_zero, List.getElem_cons_succ, List.getElem_cons_zero, List.getElem_toArray]
              intro w hSw
              try dsimp only at hSw
              go_simp
              try with_reducible rfl
            case' rest4q5 =>
              dsimp only [List.getElem?_toArray, List.getElem?_cons_succ, List.getElem?_cons_zero, List.getElem_cons_succ, List.getElem_cons_zero, List.getElem_toArray]
              try simp only [Act.put, List.setIfInBounds_toArray, List.set_cons_zero, List.set_cons_succ]
            refine wpAnyH_take (i := 5) (oi := ?o5q6) (v := ?v5q6) ?hi5q6 (by kernel_rfl) (by kernel_rfl) (by kernel_rfl) (fun _ _ _ h => h) (Or.inl ⟨?hg5q6, ?hy5q6⟩) (by assumption) ?rest5q6
            case hi5q6 => rfl
            case hg5q6 => rfl
            case' hy5q6 =>
              dsimp only [List.getElem?_toArray, List.getElem?_cons_succ, List.getElem?_cons_zero, List.getElem_cons_succ, List.getElem_cons_zero, List.getElem_toArray]
              intro w hSw
              try dsimp only at hSw
              go_simp
              try with_reducible rfl
            case' rest5q6 =>
              dsimp only [List.getElem?_toArray, List.getElem?_cons_succ, List.getElem?_cons_zero, List.getElem_cons_succ, List.getElem_cons_zero, List.getElem_toArray]
              try simp only [Act.put, List.setIfInBounds_toArray, List.set_cons_zero, List.set_cons_succ]
            refine wpAnyH_take (i := 6) (oi := ?o6q7) (v := ?v6q7) ?hi6q7 (by kernel_rfl) (by kernel_rfl) (by kernel_rfl) (fun _ _ _ h => h) (Or.inl ⟨?hg6q7, ?hy6q7⟩) (by assumption) ?rest6q7
            case hi6q7 => rfl
            case hg6q7 => rfl
            case' hy6q7 =>
              dsimp only [List.getElem?_toArray, List.getElem?_cons_succ, List.getElem?_cons_zero, List.getElem_cons_succ, List.getElem_cons_zero, List.getElem_toArray]
              intro w hSw
              try dsimp only at hSw
              go_simp
              try with_reducible rfl
            case' rest6q7 =>
              dsimp only [List.getElem?_toArray, List.getElem?_cons_succ, List.getElem?_cons_zero, List.getElem_cons_succ, List.getElem_cons_zero, List.getElem_toArray]
              try simp only [Act.put, List.setIfInBounds_toArray, List.set_cons_zero, List.set_cons_succ]
            refine wpAnyH_take (i := 7) (oi := ?o7q8) (v := ?v7q8) ?hi7q8 (by kernel_rfl) (by kernel_rfl) (by kernel_rfl) (fun _ _ _ h => h) (Or.inl ⟨?hg7q8, ?hy7q8⟩) (by assumption) ?rest7q8
            case hi7q8 => rfl
            case hg7q8 => rfl
            case' hy7q8 =>
              dsimp only [List.getElem?_toArray, List.getElem?_cons_succ, List.getElem?_cons_zero, List.getElem_cons_succ, List.getElem_cons_zero, List.getElem_toArray]
              intro w hSw
              try dsimp only at hSw
              go_simp
              try with_reducible rfl
            case' rest7q8 =>
              dsimp only [List.getElem?_toArray, List.getElem?_cons_succ, List.getElem?_cons_zero, List.getElem_cons_succ, List.getElem_cons_zero, List.getElem_toArray]
              try simp only [Act.put, List.setIfInBounds_toArray, List.set_cons_zero, List.set_cons_succ]
            refine wpAnyH_take (i := 8) (oi := ?o8q9) (v := ?v8q9) ?hi8q9 (by kernel_rfl) (by kernel_rfl) (by kernel_rfl) (fun _ _ _ h => h) (Or.inl ⟨?hg8q9, ?hy8q9⟩) (by assumption) ?rest8q9
            case hi8q9 => rfl
            case hg8q9 => rfl
            case' hy8q9 =>
              dsimp only [List.getElem?_toArray, List.getElem?_cons_succ, List.getElem?_cons_zero, List.getElem_cons_succ, List.getElem_cons_zero, List.getElem_toArray]
              intro w hSw
              try dsimp only at hSw
              go_simp
              try with_reducible rfl
            case' rest8q9 =>
              dsimp only [List.getElem?_toArray, List.getElem?_cons_succ, List.getElem?_cons_zero, List.getElem_cons_succ, List.getElem_cons_zero, List.getElem_toArray]
              try simp only [Act.put, List.setIfInBounds_toArray, List.set_cons_zero, List.set_cons_succ]
            refine wpAnyH_take (i := 9) (oi := ?o9q10) (v := ?v9q10) ?hi9q10 (by kernel_rfl) (by kernel_rfl) (by kernel_rfl) (fun _ _ _ h => h) (Or.inl ⟨?hg9q10, ?hy9q10⟩) (by assumption) ?rest9q10
            case hi9q10 => rfl
            case hg9q10 => rfl
            case' hy9q10 =>
              dsimp only [List.getElem?_toArray, List.getElem?_cons_succ, List.getElem?_cons_zero, List.getElem_cons_succ, List.getElem_cons_zero, List.getElem_toArray]
              intro w hSw
              try dsimp only at hSw
              go_simp
              try with_reducible rfl
            case' rest9q10 =>
              dsimp only [List.getElem?_toArray, List.getElem?_cons_succ, List.getElem?_cons_zero, List.getElem_cons_succ, List.getElem_cons_zero, List.getElem_toArray]
              try simp only [Act.put, List.setIfInBounds_toArray, List.set_cons_zero, List.set_cons_succ]
            refine wpAnyH_ready (rs := [10]) (by kernel_rfl) (by simp) ?_
            refine AllReadyH.cons rfl (fun K hK => ?_) AllReadyH.nil
            dsimp only [List.getElem?_toArray, List.getElem?_cons_succ, List.getElem?_cons_zero, List.getElem_cons_succ, List.getElem_cons_zero, List.getElem_toArray]
            go_simp
            (go_at_call 47; (first | with_reducible refine use1 (cvl.out _ _ (by repeat (first | exact Below.refl _ _ | refine Below.later ?_ _ | refine Below.box ?_ _ | refine Below.drew ?_ | refine Below.put ?_ (by dsimp only; omega) _))) ?_ | with_reducible refine use (cvl.out _ _ (by repeat (first | exact Below.refl _ _ | refine Below.later ?_ _ | refine Below.box ?_ _ | refine Below.drew ?_ | refine Below.put ?_ (by dsimp only; omega) _))) ?_); intro pw)
            go_wp2
            refine hK.out _ _ ?_ (fun hHeld => ?_)
            · exact hS.out _ (by repeat (first | exact Below.refl _ _ | refine Below.later ?_ _ | refine Below.box ?_ _ | refine Below.drew ?_ | refine Below.put ?_ (by dsimp only; omega) _))
            clear hK K
            try simp only [Act.put, List.setIfInBounds_toArray, List.set_cons_zero, List.set_cons_succ]
            refine wpAnyH_ready (rs := [11]) (by kernel_rfl) (by simp) ?_
            refine AllReadyH.cons rfl (fun K hK => ?_) AllReadyH.nil
            dsimp only [List.getElem?_toArray, List.getElem?_cons_succ, List.getElem?_cons_zero, List.getElem_cons_succ, List.getElem_cons_zero, List.getElem_toArray]
            go_simp
            refine hK.out _ _ ?_ (fun hHeld => ?_)
            · exact hS.out _ (by repeat (first | exact Below.refl _ _ | refine Below.later ?_ _ | refine Below.box ?_ _ | refine Below.drew ?_ | refine Below.put ?_ (by dsimp only; omega) _))
            clear hK K
            try simp only [Act.put, List.setIfInBounds_toArray, List.set_cons_zero, List.set_cons_succ]
            refine wpAnyH_ready (rs := [12]) (by kernel_rfl) (by simp) ?_
            refine AllReadyH.cons rfl (fun K hK => ?_) AllReadyH.nil
            dsimp only [List.getElem?_toArray, List.getElem?_cons_succ, List.getElem?_cons_zero, List.getElem_cons_succ, List.getElem_cons_zero, List.getElem_toArray]
            rw [if_pos (by rfl)]
            refine wp_append_lies _ _ _ _ (by rfl) W1.heap.size 22 i0 (.int .u64 0) 1 8 Try.underlying43 hi0 hz0 hz1 hz2' rfl (by decide) (vs2 j) i (ints (lm p ws R i j j)) (by rfl) (hApp.out _ (by repeat (first | exact Below.refl _ _ | refine Below.later ?_ _ | refine Below.box ?_ _ | refine Below.drew ?_ | refine Below.put ?_ (by dsimp only; omega) _))) ⟨w2.heap.size + pw.os.size, 0, none⟩ 1 1 [.int .u64 z] (by rfl) (by rfl)
                                (World.news_of_block (cs := #[.int .u64 z]) (t := 22) (fr := (0, 0)) (by rw [show w2.heap.size + pw.os.size = (after w2.drew pw).heap.size from by simp]; exact heap_alloc_new _ _)) (by simp [Value.oneCell']) (by omega) (by simp only [maxLen]; omega) (by omega) (hAb.out _ (by repeat (first | exact Below.refl _ _ | refine Below.later ?_ _ | refine Below.box ?_ _ | refine Below.drew ?_ | refine Below.put ?_ (by dsimp only; omega) _))) _ rfl ?_
            intro g cap w3 hown hgrow hat hlt
            refine hK.out _ _ ?_ (fun hHeld => ?_)
            · go_split_ands
              refine ⟨?_, ?_, ?_⟩
              · (rw [hgrow.cell_far _ (by simp; omega) (Ne.symm n1)]; assumption)
              · (rw [hgrow.frozen_far _ (by simp; omega) (Ne.symm n1)]; assumption)
              · (rw [hgrow.cell_far _ (by simp; omega) (Ne.symm n2)]; assumption)
            clear hK K
            try simp only [Act.put, List.setIfInBounds_toArray, List.set_cons_zero, List.set_cons_succ]
            refine wpAnyH_take (i := 13) (oi := ?o13q11) (v := ?v13q11) ?hi13q11 (by kernel_rfl) (by kernel_rfl) (by kernel_rfl) (fun _ _ _ h => h) (Or.inl ⟨?hg13q11, ?hy13q11⟩) (by assumption) ?rest13q11
            case hi13q11 => rfl
            case hg13q11 => rfl
            case' hy13q11 =>
              dsimp only [List.getElem?_toArray, List.getElem?_cons_succ, List.getElem?_cons_zero, List.getElem_cons_succ, List.getElem_cons_zero, List.getElem_toArray]
              intro w hSw
              try dsimp only at hSw
              go_simp
              try with_reducible rfl
            case' rest13q11 =>
              dsimp only [List.getElem?_toArray, List.getElem?_cons_succ, List.getElem?_cons_zero, List.getElem_cons_succ, List.getElem_cons_zero, List.getElem_toArray]
              try simp only [Act.put, List.setIfInBounds_toArray, List.set_cons_zero, List.set_cons_succ]
            refine wpAnyH_done (by kernel_rfl) ?_ _
            show wpList _ _ _ _ _ _
            go_split_ands
            go_wp2
            refine NoPanic.normal ?_
            all_goals (
              have hF2 : Kept (Fam W1 (w3.setCell ⟨VB, j + 1, none⟩ (.slice (some ⟨g, 0, none⟩) (i + 1) cap)) VB v0 (fun j' => if j' = j then .slice (some ⟨g, 0, none⟩) (i + 1) cap else vs2 j') (lm p ws R i (j + 1))) :=
                ⟨(Fam.step hF.out (by repeat (first | exact Below.refl _ _ | refine Below.later ?_ _ | refine Below.box ?_ _ | refine Below.drew ?_ | refine Below.put ?_ (by dsimp only; omega) _)) h2 hli.out hUz.out hown hgrow hat).congr fun j' hj' => hz2.out j' hj'⟩
              clear hF hown hgrow hat hS hApp hAb cvl
              go_wp2
              go_roundw
              case rel => exact ⟨j + 1, _, by go_num, by omega, hF2⟩
              case measure => first | (simp [intOf]; omega) | (simp [intOf]; done))
          · have hF2 : Kept (Fam W1 w2 VB v0 vs2 (lm p ws R (i + 1) 0)) := ⟨hF.out.congr fun j' hj' => by
              unfold lm; rw [if_pos (by omega), if_neg (by omega)]⟩
            clear hF hB
            go_wp2
            go_roundw
            case rel => exact ⟨i + 1, vs2, by go_num, by omega, hF2⟩
            case measure => first | (simp [intOf]; omega) | (simp [intOf]; done)
      · have him : i = m := by omega
        have hBw : Kept (Below w.heap.size w w1) := ⟨Below.next hW.out hB⟩
        have row : ∀ j, j < 3 → ∃ u c, vs1 j = .slice u m c ∧ Ls w1 u (vl p ws R j) ∧ (u = none → c = 0) ∧ m ≤ c := fun j hj => by
          have hG := hF.out.own j hj
          have em : lm p ws R i 0 j = vl p ws R j := by unfold lm; rw [if_neg (by omega), List.take_of_length_le (by rw [vl_len, e1.out]; omega)]
          rw [em] at hG
          have hlm : (vl p ws R j).length = m := by rw [vl_len, e1.out]
          rw [hlm] at hG
          obtain ⟨u, c, e, hu, _⟩ := hG.form
          have hcap : m ≤ c := by
            rcases hG.own.2 with ⟨e', hz⟩ | ⟨g, cap, cur, e', _, _, hc, _⟩
            · omega
            · rw [e] at e'; injection e' with _ _ e'; omega
          rw [e] at hG
          exact ⟨u, c, e, (hG.ls rfl (by omega) vl_U).1, fun h => (hu h).2, hcap⟩
        obtain ⟨u0, c0, ev0, hl0, hz0, hp0⟩ := row 0 (by omega)
        obtain ⟨u1, c1, ev1, hl1, hz1, hp1⟩ := row 1 (by omega)
        obtain ⟨u2, c2, ev2, hl2, hz2, hp2⟩ := row 2 (by omega)
        obtain ⟨o', c', ek, hk0, hkc⟩ := kv0.out
        obtain ⟨d0, hd0⟩ : ∃ d0, (ws.drop (1 + pb)).length = d0 := ⟨_, rfl⟩
        have g0 : w1.cell? ⟨VB, 0, none⟩ = some (.slice (some ⟨bw, o', none⟩) d0 c') := by have := hF.out.arr.cell (i := 0) (by omega); rw [← hd0, ← ek]; simpa using this
        have g1 : w1.cell? ⟨VB, 1, none⟩ = some (.slice u0 m c0) := by have := hF.out.arr.cell (i := 1) (by omega); rw [← ev0]; simpa using this
        have g2 : w1.cell? ⟨VB, 2, none⟩ = some (.slice u1 m c1) := by have := hF.out.arr.cell (i := 2) (by omega); rw [← ev1]; simpa using this
        have g3 : w1.cell? ⟨VB, 3, none⟩ = some (.slice u2 m c2) := by have := hF.out.arr.cell (i := 3) (by omega); rw [← ev2]; simpa using this
        have hq : ∀ k x, W1.cell? ⟨w.heap.size, k, none⟩ = some x → w1.cell? ⟨w.heap.size, k, none⟩ = some x := fun k x hx => by rw [hB.cell (p := ⟨w.heap.size, k, none⟩) (by simp only []; omega)]; exact hx
        have q0 := hq _ _ (cl.out 0 _ rfl)
        have q1 := hq _ _ (cl.out 1 _ rfl)
        have q2 := hq _ _ (cl.out 2 _ rfl)
        have q3 := hq _ _ (cl.out 3 _ rfl)
        have q4 := hq _ _ (cl.out 4 _ rfl)
        have q5 := hq _ _ (cl.out 5 _ rfl)
        have q6 := hq _ _ (cl.out 6 _ rfl)
        have q7 := hq _ _ (cl.out 7 _ rfl)
        have q8 := hq _ _ (cl.out 8 _ rfl)
        have q9 := hq _ _ (cl.out 9 _ rfl)
        have q10 := hq _ _ (cl.out 10 _ rfl)
        have hlw : w.heap.size < w1.heap.size := by omega
        have hVl := hF.out.arr.lt
        have cc : Kept (Calls Try.prog 41 #[.agg #[.int .u64 p, .int .i64 (B : Int), .int .i64 q, .int .i64 k, .int .i64 n, .int .i64 (S : Int), .int .i64 (m : Int), .int .i64 (P0 : Nat), .int .i64 (P1 : Nat), .int .i64 (P1 : Nat), .int .i64 (P1 : Nat)],
            .agg #[.slice (some ⟨bw, o', none⟩) d0 c', .slice u0 m c0, .slice u1 m c1, .slice u2 m c2]] w1 (GivesMat (cuts B (fun i => upl B (rLf p ws R pb i).length) (rLf p ws R pb) 4) w1)) := ⟨by
          have hrl : ∀ k, (rLf p ws R pb (k + 1)).length = m := fun k => by rw [rLf_lens.2, e1.out]
          have hr0 : (rLf p ws R pb 0).length = d0 := by rw [rLf, if_pos rfl]; exact hd0
          have := lcut_c B (fun j => if j = 0 then some ⟨bw, o', none⟩ else if j = 1 then u0 else if j = 2 then u1 else u2) (fun j => if j = 0 then c' else if j = 1 then c0 else if j = 2 then c1 else c2) (rLf p ws R pb) p q k n S m P0 P1 P1 P1 w1 hb ⟨hP0', hP1', hP1', hP1'⟩ hlb.out (fun j hj => by
            match j, hj with
            | 0, _ => exact ⟨fun e => (by cases e), by rw [hr0]; show d0 ≤ c'; rw [← hd0]; exact hkc⟩
            | 1, _ => exact ⟨hz0, by rw [hrl 0]; exact hp0⟩
            | 2, _ => exact ⟨hz1, by rw [hrl 1]; exact hp1⟩
            | 3, _ => exact ⟨hz2, by rw [hrl 2]; exact hp2⟩) (fun j hj => by
            match j, hj with
            | 0, _ => exact hk0.below (Nat.le_refl _) hBw.out
            | 1, _ => exact hl0
            | 2, _ => exact hl1
            | 3, _ => exact hl2)
          rw [hr0, hrl 0, hrl 1, hrl 2] at this
          exact this⟩
        clear hF hl0 hl1 hl2 hk0 ev0 ev1 ev2 row hB ek hq hz0 hz1 hz2 hp0 hp1 hp2 hd0 hkc
        go_wp2_with (first | (go_at_call 41; refine cc.out.mono ?_; rintro e w4 ⟨vm, bsm, rfl, hM⟩; refine Stop.out ?_))
        refine ⟨?_⟩
        have hM : Kept (Mat w1 w4 vm bsm (cuts B (fun i => upl B (rLf p ws R pb i).length) (rLf p ws R pb) 4)) := ⟨hM⟩
        go_wp2
        go_ret
        exact ⟨vm, bsm, rfl, hM.out.base hBw.out⟩
  · obtain ⟨W1, hW1⟩ : ∃ W1, W1 = after ((w.alloc (.cells #[.int .u64 p, .int .i64 (B : Int), .int .i64 q, .int .i64 k, .int .i64 n, .int .i64 (S : Int), .int .i64 (m : Int), .int .i64 (P0 : Nat), .int .i64 (P1 : Nat), .int .i64 (P1 : Nat), .int .i64 (P1 : Nat)] 32)).alloc
      (.cells #[.int .u64 p, .int .i64 (pb : Int), .int .i64 (n' : Int), .slice u m c] 25)) pw := ⟨_, rfl⟩
    rw [← hW1]
    have hW : Kept (Below w.heap.size w W1) := ⟨by rw [hW1]; exact (by repeat (first | exact Below.refl _ _ | refine Below.later ?_ _ | refine Below.box ?_ _ | refine Below.drew ?_ | refine Below.put ?_ (by dsimp only; omega) _))⟩
    have hWs : W1.heap.size = w.heap.size + 1 + 1 + pw.os.size := by rw [hW1]; simp
    have cl : Kept (∀ i x, (#[Value.int .u64 p, .int .i64 (B : Int), .int .i64 q, .int .i64 k, .int .i64 n, .int .i64 (S : Int), .int .i64 (m : Int), .int .i64 (P0 : Nat), .int .i64 (P1 : Nat), .int .i64 (P1 : Nat), .int .i64 (P1 : Nat)] : Array Value)[i]? = some x → W1.cell? ⟨w.heap.size, i, none⟩ = some x) := ⟨fun i x hx => by
      rw [hW1, after_cell _ _ _ _ (by simp), World.cell?_alloc_lt _ _ _ (by simp), World.cell?_alloc_new]; exact hx⟩
    clear hW1
    obtain ⟨VB, hVB⟩ : ∃ VB, VB = w.heap.size + 1 + 1 + pw.os.size := ⟨_, rfl⟩
    rw [← hVB] at hWs ⊢
    have hV0 : w.heap.size < VB := by omega
    clear hVB
    go_loopw [32] (fun vi wr => ∃ (i : Nat) (vs : Nat → Value), vi = .int .i64 (i : Int) ∧ i ≤ m ∧ Kept (Fam W1 wr VB v0 vs (lm p ws R i 0))) (fun vi _ => ((m : Int) - intOf vi).toNat)
    case atStart =>
      have e : ∀ j, lm p ws R 0 0 j = [] := fun j => by unfold lm; simp
      refine ⟨0, fun _ => .slice none 0 0, rfl, by omega, ⟨⟨fun j hj => ?_, fun j hj => by simp [Value.ownBlock], fun i j b _ _ _ h => by simp [Value.ownBlock] at h, ?_, by omega, fun j hj x hx => ?_⟩⟩⟩
      · rw [e]
        exact (Grown.nil0 _ W1).keep (by repeat (first | exact Below.refl _ _ | refine Below.later ?_ _ | refine Below.box ?_ _ | refine Below.drew ?_ | refine Below.put ?_ (by dsimp only; omega) _))
      · have := World.rowIs_alloc W1 #[v0, .slice none 0 0, .slice none 0 0, .slice none 0 0] 84 (fun i => if i = 0 then v0 else .slice none 0 0) (fun i hi => by
          match i, hi with
          | 0, _ => rfl
          | 1, _ => rfl
          | 2, _ => rfl
          | 3, _ => rfl)
        rw [hWs] at this
        exact this
      · rw [e] at hx; simp at hx
    case round =>
      obtain ⟨i, vs1, rfl, hi, hF⟩ := hrel
      obtain ⟨w1, rfl⟩ : ∃ x, x = wr := ⟨wr, rfl⟩
      have hB := (hF.out.own 0 (by omega)).below
      have hBs := hB.size
      by_cases h : i < m
      · obtain ⟨b1, o1, rw', rfl, hx1, hb1, hc1, hc2, hc3, ha, hb', hc'⟩ := kR.out i h
        have hBw : Kept (Below w.heap.size w w1) := ⟨Below.next hW.out hB⟩
        have hr1 : w1.cell? ⟨b1, o1 + i * 3, none⟩ = some rw'.a.v := by rw [hBw.out.cell (p := ⟨b1, o1 + i * 3, none⟩) hb1]; exact hc1
        have hr2 : w1.cell? ⟨b1, o1 + i * 3 + 1, none⟩ = some rw'.b.v := by rw [hBw.out.cell (p := ⟨b1, o1 + i * 3 + 1, none⟩) hb1]; exact hc2
        have hr3 : w1.cell? ⟨b1, o1 + i * 3 + 2, none⟩ = some rw'.c.v := by rw [hBw.out.cell (p := ⟨b1, o1 + i * 3 + 2, none⟩) hb1]; exact hc3
        have hb1w : b1 < w1.heap.size := by have := hBw.out.size; omega
        have kS : Kept (∀ j : Nat, j < 3 → ∃ tu tn tc tl, (∀ w, (Instr.index 81 (.agg #[rw'.a.v, rw'.b.v, rw'.c.v]) (.int .i64 (j : Int))).run Try.prog w = .ok (.slice tu tn tc) w) ∧ Tm w tu tl ∧ tl.length = tn ∧ (vl p ws R j)[i]? = some (valL p ws tl)) := ⟨fun j hj => ⟨(side j rw').u, (side j rw').l.length, (side j rw').c, (side j rw').l, fun w => lidx_c j hj rw' w, by
          match j, hj with
          | 0, _ => exact ha
          | 1, _ => exact hb'
          | 2, _ => exact hc', rfl, by rw [vl, List.getElem?_map, hx1]; rfl⟩⟩
        clear hc1 hc2 hc3 ha hb' hc' hx1 hB
        simp only [Lin.v] at *
        generalize rw'.a.l.length = an at *
        generalize rw'.b.l.length = bn at *
        generalize rw'.c.l.length = cn at *
        generalize rw'.a.u = au at *
        generalize rw'.b.u = bu at *
        generalize rw'.c.u = cu at *
        generalize rw'.a.c = ac at *
        generalize rw'.b.c = bc at *
        generalize rw'.c.c = cc at *
        go_wp2
        go_loopw [43] (fun vj wr => ∃ (j : Nat) (vs : Nat → Value), vj = .int .i64 (j : Int) ∧ j ≤ 3 ∧ Kept (Fam W1 wr VB v0 vs (lm p ws R i j))) (fun vj _ => (3 - intOf vj).toNat)
        case atStart => exact ⟨0, vs1, rfl, by omega, ⟨hF.out.keep (by repeat (first | exact Below.refl _ _ | refine Below.later ?_ _ | refine Below.box ?_ _ | refine Below.drew ?_ | refine Below.put ?_ (by dsimp only; omega) _))⟩⟩
        case round =>
          clear hF hr1 hr2 hr3 hb1w hBs
          obtain ⟨j, vs2, rfl, hj, hF⟩ := hrel
          obtain ⟨w2, rfl⟩ : ∃ x, x = wr := ⟨wr, rfl⟩
          have hB := (hF.out.own 0 (by omega)).below
          have hBs := hB.size
          by_cases h2 : j < 3
          · have hjI : (j : Int) < 3 := by omega
            obtain ⟨tu, tn, tc, tl, hidx, hTm, htl, hvx⟩ := kS.out j h2
            have hBw2 : Kept (Below w.heap.size w w2) := ⟨Below.next hW.out hB⟩
            have hvk : w2.cell? ⟨VB, j + 1, none⟩ = some (vs2 j) := by have := hF.out.arr.cell (i := j + 1) (by omega); simpa using this
            have hfz : w2.frozen? ⟨VB, j + 1, none⟩ = false := hF.out.arr.frozen (j + 1)
            have hVlt : VB < w2.heap.size := hF.out.arr.lt
            have q0 : w2.cell? ⟨w.heap.size, 0, none⟩ = some (.int .u64 p) := by rw [hB.cell (p := ⟨w.heap.size, 0, none⟩) (by simp only []; omega)]; exact cl.out 0 _ rfl
            have n1 : (vs2 j).ownBlock ≠ some VB := hF.out.off j (by omega)
            have n2 : (vs2 j).ownBlock ≠ some w.heap.size := fun e => by have := ((hF.out.own j (by omega)).own.lt _ e).1; omega
            have hli : (lm p ws R i j j).length = i := by unfold lm; rw [if_neg (by omega), List.length_take, vl_len, e1.out]; omega
            obtain ⟨z, hzz⟩ : ∃ z, valL p ws tl = z := ⟨_, rfl⟩
            have cvl : Kept (∀ c w', Below w2.heap.size w2 w' → Calls Try.prog 47 #[.int .u64 p, .slice tu tn tc, .slice (some ⟨bw, ow, none⟩) n' c] w' (Gives (.int .u64 z) w')) := ⟨fun c w' hw' => by
              have := tvalue_c p tu tc tl (some ⟨bw, ow, none⟩) c ws w' ((hTm.below (Nat.le_refl _) hBw2.out).below (Nat.le_refl _) hw') ((kw.out.below (Nat.le_refl _) hBw2.out).below (Nat.le_refl _) hw')
              rw [e2.out, htl] at this
              rw [← hzz]; exact this⟩
            have hUz : Kept (U z) := ⟨by rw [← hzz]; exact valL_U⟩
            have hz2 : Kept (∀ j', j' < 3 → (if j' = j then lm p ws R i j j ++ [z] else lm p ws R i j j') = lm p ws R i (j + 1) j') := ⟨fun j' hj' => by
              by_cases e : j' = j
              · subst e
                rw [if_pos rfl]; unfold lm; rw [if_neg (by omega), if_pos (by omega), take_next hvx, hzz]
              · rw [if_neg e]; unfold lm
                by_cases e2 : j' < j
                · rw [if_pos e2, if_pos (by omega)]
                · rw [if_neg e2, if_neg (by omega)]⟩
            have hApp : Kept (∀ w', Below w2.heap.size w2 w' → w'.ownsRow W1.heap.size 22 1 (vs2 j) i (ints (lm p ws R i j j))) := ⟨fun w' hw' => by
              have := ((hF.out.own j (by omega)).keep hw').own
              rw [hli] at this; exact this⟩
            have hAb : Kept (∀ w', Below w2.heap.size w2 w' → W1.heap.size ≤ w'.heap.size) := ⟨fun w' hw' => Nat.le_trans hBs hw'.size⟩
            have hli : Kept ((lm p ws R i j j).length = i) := ⟨hli⟩
            have hlw : w.heap.size < w2.heap.size := by omega
            have hS : Kept (∀ w', Below w2.heap.size w2 w' → (w'.cell? ⟨VB, j + 1, none⟩ = some (vs2 j) ∧ w'.frozen? ⟨VB, j + 1, none⟩ = false ∧ w'.cell? ⟨w.heap.size, 0, none⟩ = some (.int .u64 p))) := ⟨fun w' hw' => ⟨by rw [hw'.cell (p := ⟨VB, j + 1, none⟩) hVlt]; exact hvk, by rw [World.frozen?_of_block (hw'.block VB hVlt)]; exact hfz, by rw [hw'.cell (p := ⟨w.heap.size, 0, none⟩) hlw]; exact q0⟩⟩
            have hu90 := Try.underlying84
            have hk1 : (0 : Int) ≤ (j : Int) := Int.natCast_nonneg _
            have hk2 : (j : Int) + 1 < 4 := by omega
            have hk3 : (0 : Int) ≤ (j : Int) + 1 := by omega
            have hk5 : (0 : Int) ≤ 1 + (j : Int) := by omega
            have hk6 : (1 : Int) + (j : Int) < 4 := by omega
            have hk4 : IntKind.i64.wrap ((j : Int) + 1) = (j : Int) + 1 := by rw [IntKind.wrap_i64]; omega
            have hk7 : IntKind.i64.wrap (1 + (j : Int)) = (j : Int) + 1 := by rw [IntKind.wrap_i64]; omega
            obtain ⟨i0, hi0, hz0, hz1, hz2'⟩ := info_parts (show (Try.prog.info? 22).map (fun i => (i.zero, i.size, i.bytes)) = some (some (.int .u64 0), 1, 8) from by kernel_rfl)
            clear hzz hTm htl hvx kS
            go_wp2
            refine wp_region_noPanic ?_
            refine region_strip (S := (fun w' => w'.cell? ⟨VB, j + 1, none⟩ = some (vs2 j) ∧ w'.frozen? ⟨VB, j + 1, none⟩ = false ∧ w'.cell? ⟨w.heap.size, 0, none⟩ = some (.int .u64 p))) (by kernel_rfl) (by kernel_rfl) (hS.out _ (by repeat (first | exact Below.refl _ _ | refine Below.later ?_ _ | refine Below.box ?_ _ | refine Below.drew ?_ | refine Below.put ?_ (by dsimp only; omega) _))) (fun hHeld => ?_)
            simp only [initOf, lastOf]
            refine wpAnyH_take (i := 0) (oi := ?o0q12) (v := ?v0q12) ?hi0q12 (by kernel_rfl) (by kernel_rfl) (by kernel_rfl) (fun _ _ _ h => h) (Or.inl ⟨?hg0q12, ?hy0q12⟩) (by assumption) ?rest0q12
            case hi0q12 => rfl
            case hg0q12 => rfl
            case' hy0q12 =>
              dsimp only [List.getElem?_toArray, List.getElem?_cons_succ, List.getElem?_cons_zero, List.getElem_cons_succ, List.getElem_cons_zero, List.getElem_toArray]
              intro w hSw
              try dsimp only at hSw
              go_simp
              try with_reducible rfl
            case' rest0q12 =>
              dsimp only [List.getElem?_toArray, List.getElem?_cons_succ, List.getElem?_cons_zero, List.getElem_cons_succ, List.getElem_cons_zero, List.getElem_toArray]
              try simp only [Act.put, List.setIfInBounds_toArray, List.set_cons_zero, List.set_cons_succ]
            refine wpAnyH_take (i := 1) (oi := ?o1q13) (v := ?v1q13) ?hi1q13 (by kernel_rfl) (by kernel_rfl) (by kernel_rfl) (fun _ _ _ h => h) (Or.inl ⟨?hg1q13, ?hy1q13⟩) (by assumption) ?rest1q13
            case hi1q13 => rfl
            case hg1q13 => rfl
            case' hy1q13 =>
              dsimp only [List.getElem?_toArray, List.getElem?_cons_succ, List.getElem?_cons_zero, List.getElem_cons_succ, List.getElem_cons_zero, List.getElem_toArray]
              intro w hSw
              try dsimp only at hSw
              go_simp
              try with_reducible rfl
            case' rest1q13 =>
              dsimp only [List.getElem?_toArray, List.getElem?_cons_succ, List.getElem?_cons_zero, List.getElem_cons_succ, List.getElem_cons_zero, List.getElem_toArray]
              try simp only [Act.put, List.setIfInBounds_toArray, List.set_cons_zero, List.set_cons_succ]
            refine wpAnyH_take (i := 2) (oi := ?o2q14) (v := ?v2q14) ?hi2q14 (by kernel_rfl) (by kernel_rfl) (by kernel_rfl) (fun _ _ _ h => h) (Or.inl ⟨?hg2q14, ?hy2q14⟩) (by assumption) ?rest2q14
            case hi2q14 => rfl
            case hg2q14 => rfl
            case' hy2q14 =>
              dsimp only [List.getElem?_toArray, List.getElem?_cons_succ, List.getElem?_cons_zero, List.getElem_cons_succ, List.getElem_cons_zero, List.getElem_toArray]
              intro w hSw
              try dsimp only at hSw
              go_simp
              try with_reducible rfl
            case' rest2q14 =>
              dsimp only [List.getElem?_toArray, List.getElem?_cons_succ, List.getElem?_cons_zero, List.getElem_cons_succ, List.getElem_cons_zero, List.getElem_toArray]
              try simp only [Act.put, List.setIfInBounds_toArray, List.set_cons_zero, List.set_cons_succ]
            refine wpAnyH_take (i := 3) (oi := ?o3q15) (v := ?v3q15) ?hi3q15 (by kernel_rfl) (by kernel_rfl) (by kernel_rfl) (fun _ _ _ h => h) (Or.inl ⟨?hg3q15, ?hy3q15⟩) (by assumption) ?rest3q15
            case hi3q15 => rfl
            case hg3q15 => rfl
            case' hy3q15 =>
              dsimp only [List.getElem?_toArray, List.getElem?_cons_succ, List.getElem?_cons_zero, List.getElem_cons_succ, List.getElem_cons_zero, List.getElem_toArray]
              intro w hSw
              try dsimp only at hSw
              go_simp
              try with_reducible rfl
            case' rest3q15 =>
              dsimp only [List.getElem?_toArray, List.getElem?_cons_succ, List.getElem?_cons_zero, List.getElem_cons_succ, List.getElem_cons_zero, List.getElem_toArray]
              try simp only [Act.put, List.setIfInBounds_toArray, List.set_cons_zero, List.set_cons_succ]
            refine wpAnyH_take (i := 4) (oi := ?o4q16) (v := ?v4q16) ?hi4q16 (by kernel_rfl) (by kernel_rfl) (by kernel_rfl) (fun _ _ _ h => h) (Or.inl ⟨?hg4q16, ?hy4q16⟩) (by assumption) ?rest4q16
            case hi4q16 => rfl
            case hg4q16 => rfl
            case' hy4q16 =>
              dsimp only [List.getElem?_toArray, List.getElem?_cons_succ, List.getElem?_cons_zero, List.getElem_cons_succ, List.getElem_cons_zero, List.getElem_toArray]
              intro w hSw
              try dsimp only at hSw
              go_simp
              try with_reducible rfl
            case' rest4q16 =>
              dsimp only [List.getElem?_toArray, List.getElem?_cons_succ, List.getElem?_cons_zero, List.getElem_cons_succ, List.getElem_cons_zero, List.getElem_toArray]
              try simp only [Act.put, List.setIfInBounds_toArray, List.set_cons_zero, List.set_cons_succ]
            refine wpAnyH_take (i := 5) (oi := ?o5q17) (v := ?v5q17) ?hi5q17 (by kernel_rfl) (by kernel_rfl) (by kernel_rfl) (fun _ _ _ h => h) (Or.inl ⟨?hg5q17, ?hy5q17⟩) (by assumption) ?rest5q17
            case hi5q17 => rfl
            case hg5q17 => rfl
            case' hy5q17 =>
              dsimp only [List.getElem?_toArray, List.getElem?_cons_succ, List.getElem?_cons_zero, List.getElem_cons_succ, List.getElem_cons_zero, List.getElem_toArray]
              intro w hSw
              try dsimp only at hSw
              go_simp
              try with_reducible rfl
            case' rest5q17 =>
              dsimp only [List.getElem?_toArray, List.getElem?_cons_succ, List.getElem?_cons_zero, List.getElem_cons_succ, List.getElem_cons_zero, List.getElem_toArray]
              try simp only [Act.put, List.setIfInBounds_toArray, List.set_cons_zero, List.set_cons_succ]
            refine wpAnyH_take (i := 6) (oi := ?o6q18) (v := ?v6q18) ?hi6q18 (by kernel_rfl) (by kernel_rfl) (by kernel_rfl) (fun _ _ _ h => h) (Or.inl ⟨?hg6q18, ?hy6q18⟩) (by assumption) ?rest6q18
            case hi6q18 => rfl
            case hg6q18 => rfl
            case' hy6q18 =>
              dsimp only [List.getElem?_toArray, List.getElem?_cons_succ, List.getElem?_cons_zero, List.getElem_cons_succ, List.getElem_cons_zero, List.getElem_toArray]
              intro w hSw
              try dsimp only at hSw
              go_simp
              try with_reducible rfl
            case' rest6q18 =>
              dsimp only [List.getElem?_toArray, List.getElem?_cons_succ, List.getElem?_cons_zero, List.getElem_cons_succ, List.getElem_cons_zero, List.getElem_toArray]
              try simp only [Act.put, List.setIfInBounds_toArray, List.set_cons_zero, List.set_cons_succ]
            refine wpAnyH_take (i := 7) (oi := ?o7q19) (v := ?v7q19) ?hi7q19 (by kernel_rfl) (by kernel_rfl) (by kernel_rfl) (fun _ _ _ h => h) (Or.inl ⟨?hg7q19, ?hy7q19⟩) (by assumption) ?rest7q19
            case hi7q19 => rfl
            case hg7q19 => rfl
            case' hy7q19 =>
              dsimp only [List.getElem?_toArray, List.getElem?_cons_succ, List.getElem?_cons_zero, List.getElem_cons_succ, List.getElem_cons_zero, List.getElem_toArray]
              intro w hSw
              try dsimp only at hSw
              go_simp
              try with_reducible rfl
            case' rest7q19 =>
              dsimp only [List.getElem?_toArray, List.getElem?_cons_succ, List.getElem?_cons_zero, List.getElem_cons_succ, List.getElem_cons_zero, List.getElem_toArray]
              try simp only [Act.put, List.setIfInBounds_toArray, List.set_cons_zero, List.set_cons_succ]
            refine wpAnyH_take (i := 8) (oi := ?o8q20) (v := ?v8q20) ?hi8q20 (by kernel_rfl) (by kernel_rfl) (by kernel_rfl) (fun _ _ _ h => h) (Or.inl ⟨?hg8q20, ?hy8q20⟩) (by assumption) ?rest8q20
            case hi8q20 => rfl
            case hg8q20 => rfl
            case' hy8q20 =>
              dsimp only [List.getElem?_toArray, List.getElem?_cons_succ, List.getElem?_cons_zero, List.getElem_cons_succ, List.getElem_cons_zero, List.getElem_toArray]
              intro w hSw
              try dsimp only at hSw
              go_simp
              try with_reducible rfl
            case' rest8q20 =>
              dsimp only [List.getElem?_toArray, List.getElem?_cons_succ, List.getElem?_cons_zero, List.getElem_cons_succ, List.getElem_cons_zero, List.getElem_toArray]
              try simp only [Act.put, List.setIfInBounds_toArray, List.set_cons_zero, List.set_cons_succ]
            refine wpAnyH_take (i := 9) (oi := ?o9q21) (v := ?v9q21) ?hi9q21 (by kernel_rfl) (by kernel_rfl) (by kernel_rfl) (fun _ _ _ h => h) (Or.inl ⟨?hg9q21, ?hy9q21⟩) (by assumption) ?rest9q21
            case hi9q21 => rfl
            case hg9q21 => rfl
            case' hy9q21 =>
              dsimp only [List.getElem?_toArray, List.getElem?_cons_succ, List.getElem?_cons_zero, List.getElem_cons_succ, List.getElem_cons_zero, List.getElem_toArray]
              intro w hSw
              try dsimp only at hSw
              go_simp
              try with_reducible rfl
            case' rest9q21 =>
              dsimp only [List.getElem?_toArray, List.getElem?_cons_succ, List.getElem?_cons_zero, List.getElem_cons_succ, List.getElem_cons_zero, List.getElem_toArray]
              try simp only [Act.put, List.setIfInBounds_toArray, List.set_cons_zero, List.set_cons_succ]
            refine wpAnyH_ready (rs := [10]) (by kernel_rfl) (by simp) ?_
            refine AllReadyH.cons rfl (fun K hK => ?_) AllReadyH.nil
            dsimp only [List.getElem?_toArray, List.getElem?_cons_succ, List.getElem?_cons_zero, List.getElem_cons_succ, List.getElem_cons_zero, List.getElem_toArray]
            go_simp
            (go_at_call 47; (first | with_reducible refine use1 (cvl.out _ _ (by repeat (first | exact Below.refl _ _ | refine Below.later ?_ _ | refine Below.box ?_ _ | refine Below.drew ?_ | refine Below.put ?_ (by dsimp only; omega) _))) ?_ | with_reducible refine use (cvl.out _ _ (by repeat (first | exact Below.refl _ _ | refine Below.later ?_ _ | refine Below.box ?_ _ | refine Below.drew ?_ | refine Below.put ?_ (by dsimp only; omega) _))) ?_); intro pw)
            go_wp2
            refine hK.out _ _ ?_ (fun hHeld => ?_)
            · exact hS.out _ (by repeat (first | exact Below.refl _ _ | refine Below.later ?_ _ | refine Below.box ?_ _ | refine Below.drew ?_ | refine Below.put ?_ (by dsimp only; omega) _))
            clear hK K
            try simp only [Act.put, List.setIfInBounds_toArray, List.set_cons_zero, List.set_cons_succ]
            refine wpAnyH_ready (rs := [11]) (by kernel_rfl) (by simp) ?_
            refine AllReadyH.cons rfl (fun K hK => ?_) AllReadyH.nil
            dsimp only [List.getElem?_toArray, List.getElem?_cons_succ, List.getElem?_cons_zero, List.getElem_cons_succ, List.getElem_cons_zero, List.getElem_toArray]
            go_simp
            refine hK.out _ _ ?_ (fun hHeld => ?_)
            · exact hS.out _ (by repeat (first | exact Below.refl _ _ | refine Below.later ?_ _ | refine Below.box ?_ _ | refine Below.drew ?_ | refine Below.put ?_ (by dsimp only; omega) _))
            clear hK K
            try simp only [Act.put, List.setIfInBounds_toArray, List.set_cons_zero, List.set_cons_succ]
            refine wpAnyH_ready (rs := [12]) (by kernel_rfl) (by simp) ?_
            refine AllReadyH.cons rfl (fun K hK => ?_) AllReadyH.nil
            dsimp only [List.getElem?_toArray, List.getElem?_cons_succ, List.getElem?_cons_zero, List.getElem_cons_succ, List.getElem_cons_zero, List.getElem_toArray]
            rw [if_pos (by rfl)]
            refine wp_append_lies _ _ _ _ (by rfl) W1.heap.size 22 i0 (.int .u64 0) 1 8 Try.underlying43 hi0 hz0 hz1 hz2' rfl (by decide) (vs2 j) i (ints (lm p ws R i j j)) (by rfl) (hApp.out _ (by repeat (first | exact Below.refl _ _ | refine Below.later ?_ _ | refine Below.box ?_ _ | refine Below.drew ?_ | refine Below.put ?_ (by dsimp only; omega) _))) ⟨w2.heap.size + pw.os.size, 0, none⟩ 1 1 [.int .u64 z] (by rfl) (by rfl)
                                (World.news_of_block (cs := #[.int .u64 z]) (t := 22) (fr := (0, 0)) (by rw [show w2.heap.size + pw.os.size = (after w2.drew pw).heap.size from by simp]; exact heap_alloc_new _ _)) (by simp [Value.oneCell']) (by omega) (by simp only [maxLen]; omega) (by omega) (hAb.out _ (by repeat (first | exact Below.refl _ _ | refine Below.later ?_ _ | refine Below.box ?_ _ | refine Below.drew ?_ | refine Below.put ?_ (by dsimp only; omega) _))) _ rfl ?_
            intro g cap w3 hown hgrow hat hlt
            refine hK.out _ _ ?_ (fun hHeld => ?_)
            · go_split_ands
              refine ⟨?_, ?_, ?_⟩
              · (rw [hgrow.cell_far _ (by simp; omega) (Ne.symm n1)]; assumption)
              · (rw [hgrow.frozen_far _ (by simp; omega) (Ne.symm n1)]; assumption)
              · (rw [hgrow.cell_far _ (by simp; omega) (Ne.symm n2)]; assumption)
            clear hK K
            try simp only [Act.put, List.setIfInBounds_toArray, List.set_cons_zero, List.set_cons_succ]
            refine wpAnyH_take (i := 13) (oi := ?o13q22) (v := ?v13q22) ?hi13q22 (by kernel_rfl) (by kernel_rfl) (by kernel_rfl) (fun _ _ _ h => h) (Or.inl ⟨?hg13q22, ?hy13q22⟩) (by assumption) ?rest13q22
            case hi13q22 => rfl
            case hg13q22 => rfl
            case' hy13q22 =>
              dsimp only [List.getElem?_toArray, List.getElem?_cons_succ, List.getElem?_cons_zero, List.getElem_cons_succ, List.getElem_cons_zero, List.getElem_toArray]
              intro w hSw
              try dsimp only at hSw
              go_simp
              try with_reducible rfl
            case' rest13q22 =>
              dsimp only [List.getElem?_toArray, List.getElem?_cons_succ, List.getElem?_cons_zero, List.getElem_cons_succ, List.getElem_cons_zero, List.getElem_toArray]
              try simp only [Act.put, List.setIfInBounds_toArray, List.set_cons_zero, List.set_cons_succ]
            refine wpAnyH_done (by kernel_rfl) ?_ _
            show wpList _ _ _ _ _ _
            go_split_ands
            go_wp2
            refine NoPanic.normal ?_
            all_goals (
              have hF2 : Kept (Fam W1 (w3.setCell ⟨VB, j + 1, none⟩ (.slice (some ⟨g, 0, none⟩) (i + 1) cap)) VB v0 (fun j' => if j' = j then .slice (some ⟨g, 0, none⟩) (i + 1) cap else vs2 j') (lm p ws R i (j + 1))) :=
                ⟨(Fam.step hF.out (by repeat (first | exact Below.refl _ _ | refine Below.later ?_ _ | refine Below.box ?_ _ | refine Below.drew ?_ | refine Below.put ?_ (by dsimp only; omega) _)) h2 hli.out hUz.out hown hgrow hat).congr fun j' hj' => hz2.out j' hj'⟩
              clear hF hown hgrow hat hS hApp hAb cvl
              go_wp2
              go_roundw
              case rel => exact ⟨j + 1, _, by go_num, by omega, hF2⟩
              case measure => first | (simp [intOf]; omega) | (simp [intOf]; done))
          · have hF2 : Kept (Fam W1 w2 VB v0 vs2 (lm p ws R (i + 1) 0)) := ⟨hF.out.congr fun j' hj' => by
              unfold lm; rw [if_pos (by omega), if_neg (by omega)]⟩
            clear hF hB
            go_wp2
            go_roundw
            case rel => exact ⟨i + 1, vs2, by go_num, by omega, hF2⟩
            case measure => first | (simp [intOf]; omega) | (simp [intOf]; done)
      · have him : i = m := by omega
        have hBw : Kept (Below w.heap.size w w1) := ⟨Below.next hW.out hB⟩
        have row : ∀ j, j < 3 → ∃ u c, vs1 j = .slice u m c ∧ Ls w1 u (vl p ws R j) ∧ (u = none → c = 0) ∧ m ≤ c := fun j hj => by
          have hG := hF.out.own j hj
          have em : lm p ws R i 0 j = vl p ws R j := by unfold lm; rw [if_neg (by omega), List.take_of_length_le (by rw [vl_len, e1.out]; omega)]
          rw [em] at hG
          have hlm : (vl p ws R j).length = m := by rw [vl_len, e1.out]
          rw [hlm] at hG
          obtain ⟨u, c, e, hu, _⟩ := hG.form
          have hcap : m ≤ c := by
            rcases hG.own.2 with ⟨e', hz⟩ | ⟨g, cap, cur, e', _, _, hc, _⟩
            · omega
            · rw [e] at e'; injection e' with _ _ e'; omega
          rw [e] at hG
          exact ⟨u, c, e, (hG.ls rfl (by omega) vl_U).1, fun h => (hu h).2, hcap⟩
        obtain ⟨u0, c0, ev0, hl0, hz0, hp0⟩ := row 0 (by omega)
        obtain ⟨u1, c1, ev1, hl1, hz1, hp1⟩ := row 1 (by omega)
        obtain ⟨u2, c2, ev2, hl2, hz2, hp2⟩ := row 2 (by omega)
        obtain ⟨o', c', ek, hk0, hkc⟩ := kv0.out
        obtain ⟨d0, hd0⟩ : ∃ d0, (ws.drop (1 + pb)).length = d0 := ⟨_, rfl⟩
        have g0 : w1.cell? ⟨VB, 0, none⟩ = some (.slice (some ⟨bw, o', none⟩) d0 c') := by have := hF.out.arr.cell (i := 0) (by omega); rw [← hd0, ← ek]; simpa using this
        have g1 : w1.cell? ⟨VB, 1, none⟩ = some (.slice u0 m c0) := by have := hF.out.arr.cell (i := 1) (by omega); rw [← ev0]; simpa using this
        have g2 : w1.cell? ⟨VB, 2, none⟩ = some (.slice u1 m c1) := by have := hF.out.arr.cell (i := 2) (by omega); rw [← ev1]; simpa using this
        have g3 : w1.cell? ⟨VB, 3, none⟩ = some (.slice u2 m c2) := by have := hF.out.arr.cell (i := 3) (by omega); rw [← ev2]; simpa using this
        have hq : ∀ k x, W1.cell? ⟨w.heap.size, k, none⟩ = some x → w1.cell? ⟨w.heap.size, k, none⟩ = some x := fun k x hx => by rw [hB.cell (p := ⟨w.heap.size, k, none⟩) (by simp only []; omega)]; exact hx
        have q0 := hq _ _ (cl.out 0 _ rfl)
        have q1 := hq _ _ (cl.out 1 _ rfl)
        have q2 := hq _ _ (cl.out 2 _ rfl)
        have q3 := hq _ _ (cl.out 3 _ rfl)
        have q4 := hq _ _ (cl.out 4 _ rfl)
        have q5 := hq _ _ (cl.out 5 _ rfl)
        have q6 := hq _ _ (cl.out 6 _ rfl)
        have q7 := hq _ _ (cl.out 7 _ rfl)
        have q8 := hq _ _ (cl.out 8 _ rfl)
        have q9 := hq _ _ (cl.out 9 _ rfl)
        have q10 := hq _ _ (cl.out 10 _ rfl)
        have hlw : w.heap.size < w1.heap.size := by omega
        have hVl := hF.out.arr.lt
        have cc : Kept (Calls Try.prog 41 #[.agg #[.int .u64 p, .int .i64 (B : Int), .int .i64 q, .int .i64 k, .int .i64 n, .int .i64 (S : Int), .int .i64 (m : Int), .int .i64 (P0 : Nat), .int .i64 (P1 : Nat), .int .i64 (P1 : Nat), .int .i64 (P1 : Nat)],
            .agg #[.slice (some ⟨bw, o', none⟩) d0 c', .slice u0 m c0, .slice u1 m c1, .slice u2 m c2]] w1 (GivesMat (cuts B (fun i => upl B (rLf p ws R pb i).length) (rLf p ws R pb) 4) w1)) := ⟨by
          have hrl : ∀ k, (rLf p ws R pb (k + 1)).length = m := fun k => by rw [rLf_lens.2, e1.out]
          have hr0 : (rLf p ws R pb 0).length = d0 := by rw [rLf, if_pos rfl]; exact hd0
          have := lcut_c B (fun j => if j = 0 then some ⟨bw, o', none⟩ else if j = 1 then u0 else if j = 2 then u1 else u2) (fun j => if j = 0 then c' else if j = 1 then c0 else if j = 2 then c1 else c2) (rLf p ws R pb) p q k n S m P0 P1 P1 P1 w1 hb ⟨hP0', hP1', hP1', hP1'⟩ hlb.out (fun j hj => by
            match j, hj with
            | 0, _ => exact ⟨fun e => (by cases e), by rw [hr0]; show d0 ≤ c'; rw [← hd0]; exact hkc⟩
            | 1, _ => exact ⟨hz0, by rw [hrl 0]; exact hp0⟩
            | 2, _ => exact ⟨hz1, by rw [hrl 1]; exact hp1⟩
            | 3, _ => exact ⟨hz2, by rw [hrl 2]; exact hp2⟩) (fun j hj => by
            match j, hj with
            | 0, _ => exact hk0.below (Nat.le_refl _) hBw.out
            | 1, _ => exact hl0
            | 2, _ => exact hl1
            | 3, _ => exact hl2)
          rw [hr0, hrl 0, hrl 1, hrl 2] at this
          exact this⟩
        clear hF hl0 hl1 hl2 hk0 ev0 ev1 ev2 row hB ek hq hz0 hz1 hz2 hp0 hp1 hp2 hd0 hkc
        go_wp2_with (first | (go_at_call 41; refine cc.out.mono ?_; rintro e w4 ⟨vm, bsm, rfl, hM⟩; refine Stop.out ?_))
        refine ⟨?_⟩
        have hM : Kept (Mat w1 w4 vm bsm (cuts B (fun i => upl B (rLf p ws R pb i).length) (rLf p ws R pb) 4)) := ⟨hM⟩
        go_wp2
        go_ret
        exact ⟨vm, bsm, rfl, hM.out.base hBw.out⟩
end Go.Proofs.Ytpkjlnelkacbgaa
