/- The reference's Messages: the walk. -/
import Derived.Test.YtpkjlnelkacbgaaQM
import Derived.Test.YtpkjlnelkacbgaaHStrip
namespace Go.Proofs.Ytpkjlnelkacbgaa
open Go.RowKit Go.Sort

@[go_sem] theorem lidx_0 (x y z : Value) (w : World) : (Instr.index 81 (.agg #[x, y, z]) (.int .i64 0)).run Try.prog w = .ok x w := by kernel_rfl
@[go_sem] theorem lidx_1 (x y z : Value) (w : World) : (Instr.index 81 (.agg #[x, y, z]) (.int .i64 1)).run Try.prog w = .ok y w := by kernel_rfl
@[go_sem] theorem lidx_2 (x y z : Value) (w : World) : (Instr.index 81 (.agg #[x, y, z]) (.int .i64 2)).run Try.prog w = .ok z w := by kernel_rfl
def side (k : Nat) (r : Rw) : Lin := if k = 0 then r.a else if k = 1 then r.b else r.c
theorem lidx_c (k : Nat) (hk : k < 3) (r : Rw) (w : World) : (Instr.index 81 (.agg #[r.a.v, r.b.v, r.c.v]) (.int .i64 (k : Int))).run Try.prog w = .ok (side k r).v w := by
  match k, hk with
  | 0, _ => exact lidx_0 _ _ _ _
  | 1, _ => exact lidx_1 _ _ _ _
  | 2, _ => exact lidx_2 _ _ _ _
def vl (p : Int) (ws : List Int) (R : List Rw) (k : Nat) : List Int := R.map fun r => valL p ws (side k r).l
def msgs (p : Int) (ws : List Int) (R : List Rw) (k i : Nat) (j : Nat) : List Int := if j < k then vl p ws R j else if j = k then (vl p ws R j).take i else []
theorem vl_len (p : Int) (ws : List Int) (R : List Rw) (k : Nat) : (vl p ws R k).length = R.length := by simp [vl]
theorem foldl_U {p : Int} {ws : List Int} : ∀ (l : List (Int × Int)) (acc : Int), U acc → U (l.foldl (valS p ws) acc)
  | [], acc, h => h
  | x :: l, acc, h => foldl_U l _ (by
    unfold valS; split
    · exact fadd_U
    · exact h)
theorem valL_U {p : Int} {ws : List Int} {l : List (Int × Int)} : U (valL p ws l) := foldl_U l 0 ⟨by decide, by decide⟩
theorem vl_U {p : Int} {ws : List Int} {R : List Rw} {k : Nat} : ∀ x ∈ vl p ws R k, U x := by
  intro x hx
  simp only [vl, List.mem_map] at hx
  obtain ⟨r, _, rfl⟩ := hx
  exact valL_U
theorem Fam.congr {W w : World} {B : Nat} {v0 : Value} {vs : Nat → Value} {ls ls' : Nat → List Int} (h : Fam W w B v0 vs ls) (e : ∀ k, k < 3 → ls k = ls' k) : Fam W w B v0 vs ls' :=
  ⟨fun k hk => by rw [← e k hk]; exact h.own k hk, h.off, h.apart, h.arr, h.ge, fun k hk => by rw [← e k hk]; exact h.all k hk⟩
theorem Ls.drop {w : World} {b o : Nat} {l : List Int} (h : Ls w (some ⟨b, o, none⟩) l) (n : Nat) : Ls w (some ⟨b, o + n, none⟩) (l.drop n) :=
  ⟨by have := h.small; rw [List.length_drop]; omega, fun x hx => h.all x (List.mem_of_mem_drop hx), fun hne => by
    obtain ⟨b', o', e, hlt, hc⟩ := h.mem (fun e => by subst e; simp at hne)
    injection e with e
    injection e with e1 e2
    subst e1 e2
    exact ⟨b, o + n, rfl, hlt, fun i x hx => by rw [List.getElem?_drop] at hx; rw [Nat.add_assoc]; exact hc _ x hx⟩⟩

set_option maxRecDepth 100000 in
set_option maxHeartbeats 4000000 in
theorem messages_c (b : Nat) (pf : Nat → Nat) (p q k n s r pub vs : Int) (ur : Option Addr) (cr : Nat) (R : List Rw) (uw : Option Addr) (cw : Nat) (ws : List Int) (pb : Nat) (w : World) (hb : 1 ≤ b ∧ b ≤ 256) (hpf : ∀ i, pf i ≤ 70000) (hR : Rws w ur R) (hw : Ls w uw ws)
    (hpb : pub = pb) (hlen : pb + 1 ≤ ws.length) (hwl : ws.length ≤ 70000) (hRl : R.length ≤ 70000) (hcw : ws.length ≤ cw) :
    Calls Try.prog 24 #[.agg #[.int .u64 p, .int .i64 (b : Int), .int .i64 q, .int .i64 k, .int .i64 n, .int .i64 s, .int .i64 r, .int .i64 (pf 0 : Nat), .int .i64 (pf 1 : Nat), .int .i64 (pf 2 : Nat), .int .i64 (pf 3 : Nat)],
      .agg #[.int .u64 p, .int .i64 pub, .int .i64 vs, .slice ur R.length cr], .slice uw ws.length cw] w (GivesMat (cuts b pf (fun j => if j = 0 then ws.drop (1 + pb) else vl p ws R (j - 1)) 4) w) := by
  subst hpb
  obtain ⟨m, hm⟩ : ∃ m, R.length = m := ⟨_, rfl⟩
  obtain ⟨n', hn'⟩ : ∃ m, ws.length = m := ⟨_, rfl⟩
  obtain ⟨bw, ow, rfl⟩ : ∃ bw ow, uw = some ⟨bw, ow, none⟩ := by
    obtain ⟨bw, ow, e, _⟩ := hw.mem (fun e => by subst e; simp at hlen)
    exact ⟨bw, ow, e⟩
  have kR := (⟨hR.get hm⟩ : Kept _)
  have kw : Kept (Ls w (some ⟨bw, ow, none⟩) ws) := ⟨hw⟩
  have e1 : Kept (R.length = m) := ⟨hm⟩
  have e2 : Kept (ws.length = n') := ⟨hn'⟩
  have kp : Kept (∀ i, pf i ≤ 70000) := ⟨hpf⟩
  have hp0 := hpf 0
  have hp1 := hpf 1
  have hp2 := hpf 2
  have hp3 := hpf 3
  rw [hm] at hRl ⊢
  rw [hn'] at hlen hwl hcw ⊢
  clear hR hw hm hn' hpf
  by_cases hcap : cw = 1 + pb
  case' pos =>
    have hn0 : Kept (ws.drop (1 + pb) = []) := ⟨List.drop_eq_nil_of_le (by rw [e2.out]; omega)⟩
    subst hcap
    go_enter Try.func24, Try.ntmps24
    go_wp2
    generalize Value.slice (some ⟨bw, ow, none⟩) (n' - (1 + pb)) (1 + pb - (1 + pb)) = junk
    obtain ⟨v0, hv0⟩ : ∃ v0, v0 = Value.slice (some ⟨bw, ow, none⟩) 0 0 := ⟨_, rfl⟩
    have kv0 : Kept (∃ o' c', v0 = Value.slice (some ⟨bw, o', none⟩) (ws.drop (1 + pb)).length c' ∧ Ls w (some ⟨bw, o', none⟩) (ws.drop (1 + pb))) := ⟨ow, 0, by rw [hn0.out]; exact hv0, by rw [hn0.out]; exact Ls.nil _ _⟩
    rw [← hv0]
    clear hv0 hn0
  case' neg =>
    have hc0 : ¬ cw - (1 + pb) = 0 := by omega
    have hc1 : (cw - (1 + pb) == 0) = false := by simp; omega
    go_enter Try.func24, Try.ntmps24
    go_wp2
    obtain ⟨v0, hv0⟩ : ∃ v0, v0 = Value.slice (some ⟨bw, ow + (1 + pb), none⟩) (n' - (1 + pb)) (cw - (1 + pb)) := ⟨_, rfl⟩
    have kv0 : Kept (∃ o' c', v0 = Value.slice (some ⟨bw, o', none⟩) (ws.drop (1 + pb)).length c' ∧ Ls w (some ⟨bw, o', none⟩) (ws.drop (1 + pb))) := ⟨_, _, by rw [List.length_drop, e2.out]; exact hv0, kw.out.drop (1 + pb)⟩
    rw [← hv0]
    clear hv0 hc0 hc1 hcap
  · generalize hW1 : (w.alloc (.cells #[.int .u64 p, .int .i64 (b : Int), .int .i64 q, .int .i64 k, .int .i64 n, .int .i64 s, .int .i64 r, .int .i64 (pf 0 : Nat), .int .i64 (pf 1 : Nat), .int .i64 (pf 2 : Nat), .int .i64 (pf 3 : Nat)] 36)).alloc
      (.cells #[.int .u64 p, .int .i64 (pb : Int), .int .i64 vs, .slice ur m cr] 25) = W1
    have hW : Kept (Below w.heap.size w W1) := ⟨by rw [← hW1]; exact (by repeat (first | exact Below.refl _ _ | refine Below.later ?_ _ | refine Below.box ?_ _ | refine Below.drew ?_ | refine Below.put ?_ (by dsimp only; omega) _))⟩
    have hWs : W1.heap.size = w.heap.size + 1 + 1 := by rw [← hW1]; simp
    have cl : Kept (∀ i x, (#[Value.int .u64 p, .int .i64 (b : Int), .int .i64 q, .int .i64 k, .int .i64 n, .int .i64 s, .int .i64 r, .int .i64 (pf 0 : Nat), .int .i64 (pf 1 : Nat), .int .i64 (pf 2 : Nat), .int .i64 (pf 3 : Nat)] : Array Value)[i]? = some x → W1.cell? ⟨w.heap.size, i, none⟩ = some x) := ⟨fun i x hx => by
      rw [← hW1, World.cell?_alloc_lt _ _ _ (by simp), World.cell?_alloc_new]; exact hx⟩
    have ct : Kept (∀ i x, (#[.int .u64 p, .int .i64 (pb : Int), .int .i64 vs, .slice ur m cr] : Array Value)[i]? = some x → W1.cell? ⟨w.heap.size + 1, i, none⟩ = some x) := ⟨fun i x hx => by
      rw [← hW1, show w.heap.size + 1 = (w.alloc (.cells #[.int .u64 p, .int .i64 (b : Int), .int .i64 q, .int .i64 k, .int .i64 n, .int .i64 s, .int .i64 r, .int .i64 (pf 0 : Nat), .int .i64 (pf 1 : Nat), .int .i64 (pf 2 : Nat), .int .i64 (pf 3 : Nat)] 36)).heap.size from by simp, World.cell?_alloc_new]; exact hx⟩
    clear hW1
    go_loopw [8] (fun vk wr => ∃ (kk : Nat) (vs : Nat → Value), vk = .int .i64 (kk : Int) ∧ kk ≤ 3 ∧ Kept (Fam W1 wr (w.heap.size + 1 + 1) v0 vs (msgs p ws R kk 0))) (fun vk _ => (3 - intOf vk).toNat)
    case atStart =>
      refine ⟨0, fun _ => .slice none 0 0, rfl, by omega, ⟨⟨fun j hj => ?_, fun j hj => by simp [Value.ownBlock], fun i j b _ _ _ h => by simp [Value.ownBlock] at h, ?_, by omega, fun j hj x hx => ?_⟩⟩⟩
      · have e : msgs p ws R 0 0 j = [] := by unfold msgs; split; omega; split <;> simp
        rw [e]
        exact (Grown.nil0 _ W1).keep (by repeat (first | exact Below.refl _ _ | refine Below.later ?_ _ | refine Below.box ?_ _ | refine Below.drew ?_ | refine Below.put ?_ (by dsimp only; omega) _))
      · have := World.rowIs_alloc W1 #[v0, .slice none 0 0, .slice none 0 0, .slice none 0 0] 84 (fun i => if i = 0 then v0 else .slice none 0 0) (fun i hi => by
          match i, hi with
          | 0, _ => rfl
          | 1, _ => rfl
          | 2, _ => rfl
          | 3, _ => rfl)
        rw [hWs] at this
        exact this
      · have e : msgs p ws R 0 0 j = [] := by unfold msgs; split; omega; split <;> simp
        rw [e] at hx; simp at hx
    case round =>
      obtain ⟨kk, vs1, rfl, hk, hF⟩ := hrel
      obtain ⟨w1, rfl⟩ : ∃ x, x = wr := ⟨wr, rfl⟩
      by_cases h : kk < 3
      · have hkI : (kk : Int) < 3 := by omega
        go_wp2
        go_loopw [9] (fun vi wr => ∃ (i : Nat) (vs : Nat → Value), vi = .int .i64 (i : Int) ∧ i ≤ m ∧ Kept (Fam W1 wr (w.heap.size + 1 + 1) v0 vs (msgs p ws R kk i))) (fun vi _ => ((m : Int) - intOf vi).toNat)
        case atStart => exact ⟨0, vs1, rfl, by omega, hF⟩
        case round =>
          clear hF
          obtain ⟨i, vs2, rfl, hi, hF⟩ := hrel
          obtain ⟨w2, rfl⟩ : ∃ x, x = wr := ⟨wr, rfl⟩
          have hB := (hF.out.own 0 (by omega)).below
          have hBs := hB.size
          have ft0 : w2.cell? ⟨w.heap.size + 1, 0, none⟩ = some (.int .u64 p) := by rw [hB.cell (p := ⟨w.heap.size + 1, 0, none⟩) (by simp only []; omega)]; exact ct.out 0 _ rfl
          have ft3 : w2.cell? ⟨w.heap.size + 1, 3, none⟩ = some (.slice ur m cr) := by rw [hB.cell (p := ⟨w.heap.size + 1, 3, none⟩) (by simp only []; omega)]; exact ct.out 3 _ rfl
          have hlt1 : w.heap.size + 1 < w2.heap.size := by omega
          have hBvlt : (w.heap.size + 1 + 1) < w2.heap.size := hF.out.arr.lt
          by_cases h2 : i < m
          · obtain ⟨b1, o1, rw', rfl, hx1, hb1, hc1, hc2, hc3, ha, hb', hc'⟩ := kR.out i h2
            have hBw : Kept (Below w.heap.size w w2) := ⟨Below.next hW.out hB⟩
            have hr1 : w2.cell? ⟨b1, o1 + i * 3, none⟩ = some rw'.a.v := by rw [hBw.out.cell (p := ⟨b1, o1 + i * 3, none⟩) hb1]; exact hc1
            have hr2 : w2.cell? ⟨b1, o1 + i * 3 + 1, none⟩ = some rw'.b.v := by rw [hBw.out.cell (p := ⟨b1, o1 + i * 3 + 1, none⟩) hb1]; exact hc2
            have hr3 : w2.cell? ⟨b1, o1 + i * 3 + 2, none⟩ = some rw'.c.v := by rw [hBw.out.cell (p := ⟨b1, o1 + i * 3 + 2, none⟩) hb1]; exact hc3
            have hb1w : b1 < w2.heap.size := by omega
            have hz : Kept ((vl p ws R kk).take (i + 1) = (vl p ws R kk).take i ++ [valL p ws (side kk rw').l]) := ⟨by
              rw [List.take_add_one, vl, List.getElem?_map, hx1]; rfl⟩
            have htA : Kept (Tm w rw'.a.u rw'.a.l ∧ Tm w rw'.b.u rw'.b.l ∧ Tm w rw'.c.u rw'.c.l) := ⟨ha, hb', hc'⟩
            have csd : Kept (∀ w, Calls Try.prog 42 #[.agg #[rw'.a.v, rw'.b.v, rw'.c.v]] w (Gives (.agg #[rw'.a.v, rw'.b.v, rw'.c.v]) w)) := ⟨fun w => sides_c rw' w⟩
            have hb1s : b1 < w.heap.size := hb1
            have hi0I : (0 : Int) ≤ (i : Int) := Int.natCast_nonneg _
            have hi1I : (i : Int) < (m : Int) := by omega
            clear hc1 hc2 hc3 ha hb' hc' hx1 hb1 hB
            have hvk : w2.cell? ⟨w.heap.size + 1 + 1, kk + 1, none⟩ = some (vs2 kk) := by have := hF.out.arr.cell (i := kk + 1) (by omega); simpa using this
            have hfz : w2.frozen? ⟨w.heap.size + 1 + 1, kk + 1, none⟩ = false := hF.out.arr.frozen (kk + 1)
            have n1 : (vs2 kk).ownBlock ≠ some (w.heap.size + 1 + 1) := hF.out.off kk (by omega)
            have n0 : ∀ b', b' < w.heap.size + 1 + 1 → (vs2 kk).ownBlock ≠ some b' := fun b' hb' e => by have := ((hF.out.own kk (by omega)).own.lt b' e).1; omega
            have n2 := n0 (w.heap.size + 1) (by omega)
            have n3 := n0 b1 (by omega)
            have hli : (msgs p ws R kk i kk).length = i := by unfold msgs; rw [if_neg (by omega), if_pos rfl, List.length_take, vl_len, e1.out]; omega
            have hms : Kept ((vl p ws R kk).take i = msgs p ws R kk i kk) := ⟨by unfold msgs; rw [if_neg (by omega), if_pos rfl]⟩
            obtain ⟨z, hzz⟩ : ∃ z, valL p ws (side kk rw').l = z := ⟨_, rfl⟩
            have htm : Tm w (side kk rw').u (side kk rw').l := by
              unfold side; split
              · exact htA.out.1
              · split
                · exact htA.out.2.1
                · exact htA.out.2.2
            have cvl : Kept (∀ c w', Below w2.heap.size w2 w' → Calls Try.prog 49 #[.int .u64 p, (side kk rw').v, .slice (some ⟨bw, ow, none⟩) n' c] w' (Gives (.int .u64 z) w')) := ⟨fun c w' hw' => by
              have := rvalue_c p (side kk rw').u (side kk rw').c (side kk rw').l (some ⟨bw, ow, none⟩) c ws w' ((htm.below (Nat.le_refl _) hBw.out).below (Nat.le_refl _) hw') ((kw.out.below (Nat.le_refl _) hBw.out).below (Nat.le_refl _) hw')
              rw [e2.out] at this
              rw [← hzz]; exact this⟩
            have hUz : Kept (U z) := ⟨by rw [← hzz]; exact valL_U⟩
            have hz2 : Kept ((vl p ws R kk).take (i + 1) = (vl p ws R kk).take i ++ [z]) := ⟨by rw [hz.out, hzz]⟩
            have hApp : Kept (∀ w', Below w2.heap.size w2 w' → w'.ownsRow W1.heap.size 22 1 (vs2 kk) i (ints (msgs p ws R kk i kk))) := ⟨fun w' hw' => by
              have := ((hF.out.own kk (by omega)).keep hw').own
              rw [hli] at this; exact this⟩
            have hAb : Kept (∀ w', Below w2.heap.size w2 w' → W1.heap.size ≤ w'.heap.size) := ⟨fun w' hw' => Nat.le_trans hBs hw'.size⟩
            have hli : Kept ((msgs p ws R kk i kk).length = i) := ⟨hli⟩
            have n0 : Kept (∀ b', b' < w.heap.size + 1 + 1 → (vs2 kk).ownBlock ≠ some b') := ⟨n0⟩
            have hCell : Kept (∀ w', Below w2.heap.size w2 w' → w'.cell? ⟨w.heap.size + 1 + 1, kk + 1, none⟩ = some (vs2 kk)) := ⟨fun w' hw' => by rw [hw'.cell (p := ⟨w.heap.size + 1 + 1, kk + 1, none⟩) (by simp only []; omega)]; exact hvk⟩
            have hidx : ∀ w, (Instr.index 81 (.agg #[rw'.a.v, rw'.b.v, rw'.c.v]) (.int .i64 (kk : Int))).run Try.prog w = .ok (side kk rw').v w := fun w => lidx_c kk h rw' w
            have hS : Kept (∀ w', Below w2.heap.size w2 w' → (w'.cell? ⟨w.heap.size + 1 + 1, kk + 1, none⟩ = some (vs2 kk) ∧ w'.frozen? ⟨w.heap.size + 1 + 1, kk + 1, none⟩ = false ∧ w'.cell? ⟨w.heap.size + 1, 0, none⟩ = some (.int .u64 p) ∧ w'.cell? ⟨w.heap.size + 1, 3, none⟩ = some (.slice (some ⟨b1, o1, none⟩) m cr) ∧ w'.cell? ⟨b1, o1 + i * 3, none⟩ = some rw'.a.v ∧ w'.cell? ⟨b1, o1 + i * 3 + 1, none⟩ = some rw'.b.v ∧ w'.cell? ⟨b1, o1 + i * 3 + 2, none⟩ = some rw'.c.v)) := ⟨fun w' hw' => ⟨hCell.out w' hw', by rw [World.frozen?_of_block (hw'.block (w.heap.size + 1 + 1) (by omega))]; exact hfz, by rw [hw'.cell (p := ⟨w.heap.size + 1, 0, none⟩) (by simp only []; omega)]; exact ft0, by rw [hw'.cell (p := ⟨w.heap.size + 1, 3, none⟩) (by simp only []; omega)]; exact ft3, by rw [hw'.cell (p := ⟨b1, o1 + i * 3, none⟩) (by simp only []; omega)]; exact hr1, by rw [hw'.cell (p := ⟨b1, o1 + i * 3 + 1, none⟩) (by simp only []; omega)]; exact hr2, by rw [hw'.cell (p := ⟨b1, o1 + i * 3 + 2, none⟩) (by simp only []; omega)]; exact hr3⟩⟩
            clear hz hzz htA htm
            have hCq : ∀ q, (after w2.drew q).cell? ⟨w.heap.size + 1 + 1, kk + 1, none⟩ = some (vs2 kk) := fun q => hCell.out _ (by repeat (first | exact Below.refl _ _ | refine Below.later ?_ _ | refine Below.box ?_ _ | refine Below.drew ?_ | refine Below.put ?_ (by dsimp only; omega) _))
            have hCo : ∀ q o, ((after w2.drew q).alloc o).cell? ⟨w.heap.size + 1 + 1, kk + 1, none⟩ = some (vs2 kk) := fun q o => hCell.out _ (by repeat (first | exact Below.refl _ _ | refine Below.later ?_ _ | refine Below.box ?_ _ | refine Below.drew ?_ | refine Below.put ?_ (by dsimp only; omega) _))
            have hnb : ¬ (w.heap.size + 1 + 1 = b1) := by omega
            have hnb2 : w.heap.size + 1 + 1 ≠ b1 := by omega
            have hu90 := Try.underlying84
            have hk1 : (0 : Int) ≤ (kk : Int) := Int.natCast_nonneg _
            have hk2 : (kk : Int) + 1 < 4 := by omega
            have hk3 : (0 : Int) ≤ (kk : Int) + 1 := by omega
            have hk4 : IntKind.i64.wrap ((kk : Int) + 1) = (kk : Int) + 1 := by rw [IntKind.wrap_i64]; omega
            obtain ⟨i0, hi0, hz0, hz1, hz2'⟩ := info_parts (show (Try.prog.info? 22).map (fun i => (i.zero, i.size, i.bytes)) = some (some (.int .u64 0), 1, 8) from by kernel_rfl)
            go_wp2
            refine wp_region_noPanic ?_
            refine region_strip (S := fun w' => w'.cell? ⟨w.heap.size + 1 + 1, kk + 1, none⟩ = some (vs2 kk) ∧ w'.frozen? ⟨w.heap.size + 1 + 1, kk + 1, none⟩ = false ∧ w'.cell? ⟨w.heap.size + 1, 0, none⟩ = some (.int .u64 p) ∧ w'.cell? ⟨w.heap.size + 1, 3, none⟩ = some (.slice (some ⟨b1, o1, none⟩) m cr) ∧ w'.cell? ⟨b1, o1 + i * 3, none⟩ = some rw'.a.v ∧ w'.cell? ⟨b1, o1 + i * 3 + 1, none⟩ = some rw'.b.v ∧ w'.cell? ⟨b1, o1 + i * 3 + 2, none⟩ = some rw'.c.v) (by kernel_rfl) (by kernel_rfl) (hS.out _ (by (repeat (first | exact Below.refl _ _ | refine Below.later ?_ _ | refine Below.box ?_ _ | refine Below.drew ?_)); done)) (fun hHeld => ?_)
            simp only [initOf, lastOf]
            refine wpAnyH_take (i := 0) (oi := ?o0p) (v := ?v0p) ?hi0p (by kernel_rfl) (by kernel_rfl) (by kernel_rfl) (fun _ _ _ h => h) (Or.inl ⟨?hg0p, ?hy0p⟩) (by assumption) ?rest0p
            case hi0p => rfl
            case hg0p => rfl
            case' hy0p =>
              dsimp only [List.getElem?_toArray, List.getElem?_cons_succ, List.getElem?_cons_zero, List.getElem_cons_succ, List.getElem_cons_zero, List.getElem_toArray]
              intro w hSw
              try dsimp only at hSw
              go_simp
              try with_reducible rfl
            case' rest0p =>
              dsimp only [List.getElem?_toArray, List.getElem?_cons_succ, List.getElem?_cons_zero, List.getElem_cons_succ, List.getElem_cons_zero, List.getElem_toArray]
              try simp only [Act.put, List.setIfInBounds_toArray, List.set_cons_zero, List.set_cons_succ]
            refine wpAnyH_take (i := 1) (oi := ?o1p) (v := ?v1p) ?hi1p (by kernel_rfl) (by kernel_rfl) (by kernel_rfl) (fun _ _ _ h => h) (Or.inl ⟨?hg1p, ?hy1p⟩) (by assumption) ?rest1p
            case hi1p => rfl
            case hg1p => rfl
            case' hy1p =>
              dsimp only [List.getElem?_toArray, List.getElem?_cons_succ, List.getElem?_cons_zero, List.getElem_cons_succ, List.getElem_cons_zero, List.getElem_toArray]
              intro w hSw
              try dsimp only at hSw
              go_simp
              try with_reducible rfl
            case' rest1p =>
              dsimp only [List.getElem?_toArray, List.getElem?_cons_succ, List.getElem?_cons_zero, List.getElem_cons_succ, List.getElem_cons_zero, List.getElem_toArray]
              try simp only [Act.put, List.setIfInBounds_toArray, List.set_cons_zero, List.set_cons_succ]
            refine wpAnyH_take (i := 2) (oi := ?o2p) (v := ?v2p) ?hi2p (by kernel_rfl) (by kernel_rfl) (by kernel_rfl) (fun _ _ _ h => h) (Or.inl ⟨?hg2p, ?hy2p⟩) (by assumption) ?rest2p
            case hi2p => rfl
            case hg2p => rfl
            case' hy2p =>
              dsimp only [List.getElem?_toArray, List.getElem?_cons_succ, List.getElem?_cons_zero, List.getElem_cons_succ, List.getElem_cons_zero, List.getElem_toArray]
              intro w hSw
              try dsimp only at hSw
              go_simp
              try with_reducible rfl
            case' rest2p =>
              dsimp only [List.getElem?_toArray, List.getElem?_cons_succ, List.getElem?_cons_zero, List.getElem_cons_succ, List.getElem_cons_zero, List.getElem_toArray]
              try simp only [Act.put, List.setIfInBounds_toArray, List.set_cons_zero, List.set_cons_succ]
            refine wpAnyH_take (i := 3) (oi := ?o3p) (v := ?v3p) ?hi3p (by kernel_rfl) (by kernel_rfl) (by kernel_rfl) (fun _ _ _ h => h) (Or.inl ⟨?hg3p, ?hy3p⟩) (by assumption) ?rest3p
            case hi3p => rfl
            case hg3p => rfl
            case' hy3p =>
              dsimp only [List.getElem?_toArray, List.getElem?_cons_succ, List.getElem?_cons_zero, List.getElem_cons_succ, List.getElem_cons_zero, List.getElem_toArray]
              intro w hSw
              try dsimp only at hSw
              go_simp
              try with_reducible rfl
            case' rest3p =>
              dsimp only [List.getElem?_toArray, List.getElem?_cons_succ, List.getElem?_cons_zero, List.getElem_cons_succ, List.getElem_cons_zero, List.getElem_toArray]
              try simp only [Act.put, List.setIfInBounds_toArray, List.set_cons_zero, List.set_cons_succ]
            refine wpAnyH_take (i := 4) (oi := ?o4p) (v := ?v4p) ?hi4p (by kernel_rfl) (by kernel_rfl) (by kernel_rfl) (fun _ _ _ h => h) (Or.inl ⟨?hg4p, ?hy4p⟩) (by assumption) ?rest4p
            case hi4p => rfl
            case hg4p => rfl
            case' hy4p =>
              dsimp only [List.getElem?_toArray, List.getElem?_cons_succ, List.getElem?_cons_zero, List.getElem_cons_succ, List.getElem_cons_zero, List.getElem_toArray]
              intro w hSw
              try dsimp only at hSw
              go_simp
              try with_reducible rfl
            case' rest4p =>
              dsimp only [List.getElem?_toArray, List.getElem?_cons_succ, List.getElem?_cons_zero, List.getElem_cons_succ, List.getElem_cons_zero, List.getElem_toArray]
              try simp only [Act.put, List.setIfInBounds_toArray, List.set_cons_zero, List.set_cons_succ]
            refine wpAnyH_take (i := 5) (oi := ?o5p) (v := ?v5p) ?hi5p (by kernel_rfl) (by kernel_rfl) (by kernel_rfl) (fun _ _ _ h => h) (Or.inl ⟨?hg5p, ?hy5p⟩) (by assumption) ?rest5p
            case hi5p => rfl
            case hg5p => rfl
            case' hy5p =>
              dsimp only [List.getElem?_toArray, List.getElem?_cons_succ, List.getElem?_cons_zero, List.getElem_cons_succ, List.getElem_cons_zero, List.getElem_toArray]
              intro w hSw
              try dsimp only at hSw
              go_simp
              try with_reducible rfl
            case' rest5p =>
              dsimp only [List.getElem?_toArray, List.getElem?_cons_succ, List.getElem?_cons_zero, List.getElem_cons_succ, List.getElem_cons_zero, List.getElem_toArray]
              try simp only [Act.put, List.setIfInBounds_toArray, List.set_cons_zero, List.set_cons_succ]
            refine wpAnyH_take (i := 6) (oi := ?o6p) (v := ?v6p) ?hi6p (by kernel_rfl) (by kernel_rfl) (by kernel_rfl) (fun _ _ _ h => h) (Or.inl ⟨?hg6p, ?hy6p⟩) (by assumption) ?rest6p
            case hi6p => rfl
            case hg6p => rfl
            case' hy6p =>
              dsimp only [List.getElem?_toArray, List.getElem?_cons_succ, List.getElem?_cons_zero, List.getElem_cons_succ, List.getElem_cons_zero, List.getElem_toArray]
              intro w hSw
              try dsimp only at hSw
              go_simp
              try with_reducible rfl
            case' rest6p =>
              dsimp only [List.getElem?_toArray, List.getElem?_cons_succ, List.getElem?_cons_zero, List.getElem_cons_succ, List.getElem_cons_zero, List.getElem_toArray]
              try simp only [Act.put, List.setIfInBounds_toArray, List.set_cons_zero, List.set_cons_succ]
            refine wpAnyH_take (i := 7) (oi := ?o7p) (v := ?v7p) ?hi7p (by kernel_rfl) (by kernel_rfl) (by kernel_rfl) (fun _ _ _ h => h) (Or.inl ⟨?hg7p, ?hy7p⟩) (by assumption) ?rest7p
            case hi7p => rfl
            case hg7p => rfl
            case' hy7p =>
              dsimp only [List.getElem?_toArray, List.getElem?_cons_succ, List.getElem?_cons_zero, List.getElem_cons_succ, List.getElem_cons_zero, List.getElem_toArray]
              intro w hSw
              try dsimp only at hSw
              go_simp
              try with_reducible rfl
            case' rest7p =>
              dsimp only [List.getElem?_toArray, List.getElem?_cons_succ, List.getElem?_cons_zero, List.getElem_cons_succ, List.getElem_cons_zero, List.getElem_toArray]
              try simp only [Act.put, List.setIfInBounds_toArray, List.set_cons_zero, List.set_cons_succ]
            refine wpAnyH_take (i := 8) (oi := ?o8p) (v := ?v8p) ?hi8p (by kernel_rfl) (by kernel_rfl) (by kernel_rfl) (fun _ _ _ h => h) (Or.inl ⟨?hg8p, ?hy8p⟩) (by assumption) ?rest8p
            case hi8p => rfl
            case hg8p => rfl
            case' hy8p =>
              dsimp only [List.getElem?_toArray, List.getElem?_cons_succ, List.getElem?_cons_zero, List.getElem_cons_succ, List.getElem_cons_zero, List.getElem_toArray]
              intro w hSw
              try dsimp only at hSw
              go_simp
              try with_reducible rfl
            case' rest8p =>
              dsimp only [List.getElem?_toArray, List.getElem?_cons_succ, List.getElem?_cons_zero, List.getElem_cons_succ, List.getElem_cons_zero, List.getElem_toArray]
              try simp only [Act.put, List.setIfInBounds_toArray, List.set_cons_zero, List.set_cons_succ]
            refine wpAnyH_take (i := 9) (oi := ?o9p) (v := ?v9p) ?hi9p (by kernel_rfl) (by kernel_rfl) (by kernel_rfl) (fun _ _ _ h => h) (Or.inl ⟨?hg9p, ?hy9p⟩) (by assumption) ?rest9p
            case hi9p => rfl
            case hg9p => rfl
            case' hy9p =>
              dsimp only [List.getElem?_toArray, List.getElem?_cons_succ, List.getElem?_cons_zero, List.getElem_cons_succ, List.getElem_cons_zero, List.getElem_toArray]
              intro w hSw
              try dsimp only at hSw
              go_simp
              try with_reducible rfl
            case' rest9p =>
              dsimp only [List.getElem?_toArray, List.getElem?_cons_succ, List.getElem?_cons_zero, List.getElem_cons_succ, List.getElem_cons_zero, List.getElem_toArray]
              try simp only [Act.put, List.setIfInBounds_toArray, List.set_cons_zero, List.set_cons_succ]
            refine wpAnyH_take (i := 10) (oi := ?o10p) (v := ?v10p) ?hi10p (by kernel_rfl) (by kernel_rfl) (by kernel_rfl) (fun _ _ _ h => h) (Or.inl ⟨?hg10p, ?hy10p⟩) (by assumption) ?rest10p
            case hi10p => rfl
            case hg10p => rfl
            case' hy10p =>
              dsimp only [List.getElem?_toArray, List.getElem?_cons_succ, List.getElem?_cons_zero, List.getElem_cons_succ, List.getElem_cons_zero, List.getElem_toArray]
              intro w hSw
              try dsimp only at hSw
              go_simp
              try with_reducible rfl
            case' rest10p =>
              dsimp only [List.getElem?_toArray, List.getElem?_cons_succ, List.getElem?_cons_zero, List.getElem_cons_succ, List.getElem_cons_zero, List.getElem_toArray]
              try simp only [Act.put, List.setIfInBounds_toArray, List.set_cons_zero, List.set_cons_succ]
            refine wpAnyH_take (i := 11) (oi := ?o11p) (v := ?v11p) ?hi11p (by kernel_rfl) (by kernel_rfl) (by kernel_rfl) (fun _ _ _ h => h) (Or.inl ⟨?hg11p, ?hy11p⟩) (by assumption) ?rest11p
            case hi11p => rfl
            case hg11p => rfl
            case' hy11p =>
              dsimp only [List.getElem?_toArray, List.getElem?_cons_succ, List.getElem?_cons_zero, List.getElem_cons_succ, List.getElem_cons_zero, List.getElem_toArray]
              intro w hSw
              try dsimp only at hSw
              go_simp
              try with_reducible rfl
            case' rest11p =>
              dsimp only [List.getElem?_toArray, List.getElem?_cons_succ, List.getElem?_cons_zero, List.getElem_cons_succ, List.getElem_cons_zero, List.getElem_toArray]
              try simp only [Act.put, List.setIfInBounds_toArray, List.set_cons_zero, List.set_cons_succ]
            refine wpAnyH_take (i := 12) (oi := ?o12p) (v := ?v12p) ?hi12p (by kernel_rfl) (by kernel_rfl) (by kernel_rfl) (fun _ _ _ h => h) (Or.inl ⟨?hg12p, ?hy12p⟩) (by assumption) ?rest12p
            case hi12p => rfl
            case hg12p => rfl
            case' hy12p =>
              dsimp only [List.getElem?_toArray, List.getElem?_cons_succ, List.getElem?_cons_zero, List.getElem_cons_succ, List.getElem_cons_zero, List.getElem_toArray]
              intro w hSw
              try dsimp only at hSw
              go_simp
              try with_reducible rfl
            case' rest12p =>
              dsimp only [List.getElem?_toArray, List.getElem?_cons_succ, List.getElem?_cons_zero, List.getElem_cons_succ, List.getElem_cons_zero, List.getElem_toArray]
              try simp only [Act.put, List.setIfInBounds_toArray, List.set_cons_zero, List.set_cons_succ]
            refine wpAnyH_take (i := 14) (oi := ?o14p) (v := ?v14p) ?hi14p (by kernel_rfl) (by kernel_rfl) (by kernel_rfl) (fun _ _ _ h => h) (Or.inl ⟨?hg14p, ?hy14p⟩) (by assumption) ?rest14p
            case hi14p => rfl
            case hg14p => rfl
            case' hy14p =>
              dsimp only [List.getElem?_toArray, List.getElem?_cons_succ, List.getElem?_cons_zero, List.getElem_cons_succ, List.getElem_cons_zero, List.getElem_toArray]
              intro w hSw
              try dsimp only at hSw
              go_simp
              try with_reducible rfl
            case' rest14p =>
              dsimp only [List.getElem?_toArray, List.getElem?_cons_succ, List.getElem?_cons_zero, List.getElem_cons_succ, List.getElem_cons_zero, List.getElem_toArray]
              try simp only [Act.put, List.setIfInBounds_toArray, List.set_cons_zero, List.set_cons_succ]
            refine wpAnyH_take (i := 16) (oi := ?o16p) (v := ?v16p) ?hi16p (by kernel_rfl) (by kernel_rfl) (by kernel_rfl) (fun _ _ _ h => h) (Or.inl ⟨?hg16p, ?hy16p⟩) (by assumption) ?rest16p
            case hi16p => rfl
            case hg16p => rfl
            case' hy16p =>
              dsimp only [List.getElem?_toArray, List.getElem?_cons_succ, List.getElem?_cons_zero, List.getElem_cons_succ, List.getElem_cons_zero, List.getElem_toArray]
              intro w hSw
              try dsimp only at hSw
              go_simp
              try with_reducible rfl
            case' rest16p =>
              dsimp only [List.getElem?_toArray, List.getElem?_cons_succ, List.getElem?_cons_zero, List.getElem_cons_succ, List.getElem_cons_zero, List.getElem_toArray]
              try simp only [Act.put, List.setIfInBounds_toArray, List.set_cons_zero, List.set_cons_succ]
            refine wpAnyH_ready (rs := [13]) (by kernel_rfl) (by simp) ?_
            refine AllReadyH.cons rfl (fun K hK => ?_) AllReadyH.nil
            dsimp only [List.getElem?_toArray, List.getElem?_cons_succ, List.getElem?_cons_zero, List.getElem_cons_succ, List.getElem_cons_zero, List.getElem_toArray]
            go_simp
            (go_at_call 42; (first | with_reducible refine use1 (csd.out _) ?_ | with_reducible refine use (csd.out _) ?_); intro pw)
            go_wp2
            refine hK.out _ _ ?_ (fun hHeld => ?_)
            · (refine hS.out _ ?_; (repeat (first | exact Below.refl _ _ | refine Below.later ?_ _ | refine Below.box ?_ _ | refine Below.drew ?_)); done)
            clear hK K
            try simp only [Act.put, List.setIfInBounds_toArray, List.set_cons_zero, List.set_cons_succ]
            refine wpAnyH_ready (rs := [15]) (by kernel_rfl) (by simp) ?_
            refine AllReadyH.cons rfl (fun K hK => ?_) AllReadyH.nil
            dsimp only [List.getElem?_toArray, List.getElem?_cons_succ, List.getElem?_cons_zero, List.getElem_cons_succ, List.getElem_cons_zero, List.getElem_toArray]
            go_simp
            refine hK.out _ _ ?_ (fun hHeld => ?_)
            · (refine hS.out _ ?_; (repeat (first | exact Below.refl _ _ | refine Below.later ?_ _ | refine Below.box ?_ _ | refine Below.drew ?_)); done)
            clear hK K
            try simp only [Act.put, List.setIfInBounds_toArray, List.set_cons_zero, List.set_cons_succ]
            refine wpAnyH_ready (rs := [17]) (by kernel_rfl) (by simp) ?_
            refine AllReadyH.cons rfl (fun K hK => ?_) AllReadyH.nil
            dsimp only [List.getElem?_toArray, List.getElem?_cons_succ, List.getElem?_cons_zero, List.getElem_cons_succ, List.getElem_cons_zero, List.getElem_toArray]
            go_simp
            (go_at_call 49; (first | with_reducible refine use1 (cvl.out _ _ (by repeat (first | exact Below.refl _ _ | refine Below.later ?_ _ | refine Below.box ?_ _ | refine Below.drew ?_ | refine Below.put ?_ (by dsimp only; omega) _))) ?_ | with_reducible refine use (cvl.out _ _ (by repeat (first | exact Below.refl _ _ | refine Below.later ?_ _ | refine Below.box ?_ _ | refine Below.drew ?_ | refine Below.put ?_ (by dsimp only; omega) _))) ?_); intro pw)
            go_wp2
            refine hK.out _ _ ?_ (fun hHeld => ?_)
            · (refine hS.out _ ?_; (repeat (first | exact Below.refl _ _ | refine Below.later ?_ _ | refine Below.box ?_ _ | refine Below.drew ?_)); done)
            clear hK K
            try simp only [Act.put, List.setIfInBounds_toArray, List.set_cons_zero, List.set_cons_succ]
            refine wpAnyH_ready (rs := [18]) (by kernel_rfl) (by simp) ?_
            refine AllReadyH.cons rfl (fun K hK => ?_) AllReadyH.nil
            dsimp only [List.getElem?_toArray, List.getElem?_cons_succ, List.getElem?_cons_zero, List.getElem_cons_succ, List.getElem_cons_zero, List.getElem_toArray]
            go_simp
            refine hK.out _ _ ?_ (fun hHeld => ?_)
            · (refine hS.out _ ?_; (repeat (first | exact Below.refl _ _ | refine Below.later ?_ _ | refine Below.box ?_ _ | refine Below.drew ?_)); done)
            clear hK K
            try simp only [Act.put, List.setIfInBounds_toArray, List.set_cons_zero, List.set_cons_succ]
            refine wpAnyH_ready (rs := [19]) (by kernel_rfl) (by simp) ?_
            refine AllReadyH.cons rfl (fun K hK => ?_) AllReadyH.nil
            dsimp only [List.getElem?_toArray, List.getElem?_cons_succ, List.getElem?_cons_zero, List.getElem_cons_succ, List.getElem_cons_zero, List.getElem_toArray]
            rw [if_pos (by rfl)]
            refine wp_append_lies _ _ _ _ (by rfl) W1.heap.size 22 i0 (.int .u64 0) 1 8 Try.underlying43 hi0 hz0 hz1 hz2' rfl (by decide) (vs2 kk) i (ints (msgs p ws R kk i kk)) (by rfl) (hApp.out _ (by repeat (first | exact Below.refl _ _ | refine Below.later ?_ _ | refine Below.box ?_ _ | refine Below.drew ?_ | refine Below.put ?_ (by dsimp only; omega) _))) ⟨w2.heap.size + pw.os.size, 0, none⟩ 1 1 [.int .u64 z] (by rfl) (by rfl)
                                (World.news_of_block (cs := #[.int .u64 z]) (t := 22) (fr := (0, 0)) (by rw [show w2.heap.size + pw.os.size = (after w2.drew pw).heap.size from by simp]; exact heap_alloc_new _ _)) (by simp [Value.oneCell']) (by omega) (by simp only [maxLen]; omega) (by omega) (hAb.out _ (by repeat (first | exact Below.refl _ _ | refine Below.later ?_ _ | refine Below.box ?_ _ | refine Below.drew ?_ | refine Below.put ?_ (by dsimp only; omega) _))) _ rfl ?_
            intro g cap w3 hown hgrow hat hlt
            refine hK.out _ _ ?_ (fun hHeld => ?_)
            · go_split_ands
              refine ⟨?_, ?_, ?_, ?_, ?_, ?_, ?_⟩
              · (rw [hgrow.cell_far _ (by simp; omega) (Ne.symm n1)]; assumption)
              · (rw [hgrow.frozen_far _ (by simp; omega) (Ne.symm n1)]; assumption)
              · (rw [hgrow.cell_far _ (by simp; omega) (Ne.symm n2)]; assumption)
              · (rw [hgrow.cell_far _ (by simp; omega) (Ne.symm n2)]; assumption)
              · (rw [hgrow.cell_far _ (by simp; omega) (Ne.symm n3)]; assumption)
              · (rw [hgrow.cell_far _ (by simp; omega) (Ne.symm n3)]; assumption)
              · (rw [hgrow.cell_far _ (by simp; omega) (Ne.symm n3)]; assumption)
            clear hK K
            try simp only [Act.put, List.setIfInBounds_toArray, List.set_cons_zero, List.set_cons_succ]
            refine wpAnyH_take (i := 20) (oi := ?o20p) (v := ?v20p) ?hi20p (by kernel_rfl) (by kernel_rfl) (by kernel_rfl) (fun _ _ _ h => h) (Or.inl ⟨?hg20p, ?hy20p⟩) (by assumption) ?rest20p
            case hi20p => rfl
            case hg20p => rfl
            case' hy20p =>
              dsimp only [List.getElem?_toArray, List.getElem?_cons_succ, List.getElem?_cons_zero, List.getElem_cons_succ, List.getElem_cons_zero, List.getElem_toArray]
              intro w hSw
              try dsimp only at hSw
              go_simp
              try with_reducible rfl
            case' rest20p =>
              dsimp only [List.getElem?_toArray, List.getElem?_cons_succ, List.getElem?_cons_zero, List.getElem_cons_succ, List.getElem_cons_zero, List.getElem_toArray]
              try simp only [Act.put, List.setIfInBounds_toArray, List.set_cons_zero, List.set_cons_succ]
            refine wpAnyH_done (by kernel_rfl) ?_ _
            show wpList _ _ _ _ _ _
            go_split_ands
            go_wp2
            refine NoPanic.normal ?_
            all_goals (
              have hF2 : Kept (Fam W1 (w3.setCell ⟨w.heap.size + 1 + 1, kk + 1, none⟩ (.slice (some ⟨g, 0, none⟩) (i + 1) cap)) (w.heap.size + 1 + 1) v0 (fun j => if j = kk then .slice (some ⟨g, 0, none⟩) (i + 1) cap else vs2 j) (msgs p ws R kk (i + 1))) :=
                ⟨(Fam.step hF.out (by repeat (first | exact Below.refl _ _ | refine Below.later ?_ _ | refine Below.box ?_ _ | refine Below.drew ?_ | refine Below.put ?_ (by dsimp only; omega) _)) h hli.out hUz.out hown hgrow hat).congr fun j hj => by
                  by_cases e : j = kk
                  · subst e
                    rw [if_pos rfl, ← hms.out, ← hz2.out]; unfold msgs; rw [if_neg (by omega), if_pos rfl]
                  · rw [if_neg e]; unfold msgs; rw [if_neg e, if_neg e]⟩
              clear hF hown hgrow hat hS hApp hAb hCell cvl hCq hCo
              go_wp2
              go_roundw
              case rel => exact ⟨i + 1, _, by go_num, by omega, hF2⟩
              case measure => first | (simp [intOf]; omega) | (simp [intOf]; done))
          · have hF2 : Kept (Fam W1 w2 (w.heap.size + 1 + 1) v0 vs2 (msgs p ws R (kk + 1) 0)) := ⟨hF.out.congr fun j hj => by
              have him : i = m := by omega
              unfold msgs
              by_cases e1' : j < kk
              · rw [if_pos e1', if_pos (by omega)]
              · rw [if_neg e1']
                by_cases e2' : j = kk
                · rw [if_pos e2', if_pos (by omega), List.take_of_length_le (by rw [vl_len, e1.out]; omega)]
                · rw [if_neg e2', if_neg (by omega)]
                  split <;> simp⟩
            clear hF hB
            go_wp2
            go_roundw
            case rel => exact ⟨kk + 1, vs2, by go_num, by omega, hF2⟩
            case measure => first | (simp [intOf]; omega) | (simp [intOf]; done)
      · have hk3 : kk = 3 := by omega
        subst hk3
        have hB := (hF.out.own 0 (by omega)).below
        have hBw : Kept (Below w.heap.size w w1) := ⟨Below.next hW.out hB⟩
        have hBs := hB.size
        have row : ∀ j, j < 3 → ∃ u c, vs1 j = .slice u (vl p ws R j).length c ∧ Ls w1 u (vl p ws R j) := fun j hj => by
          have hG := hF.out.own j hj
          have em : msgs p ws R 3 0 j = vl p ws R j := by unfold msgs; rw [if_pos hj]
          rw [em] at hG
          obtain ⟨u, c, e, _⟩ := hG.form
          rw [e] at hG
          exact ⟨u, c, e, (hG.ls rfl (by rw [vl_len, e1.out]; omega) vl_U).1⟩
        obtain ⟨u0, c0, ev0, hl0⟩ := row 0 (by omega)
        obtain ⟨u1, c1, ev1, hl1⟩ := row 1 (by omega)
        obtain ⟨u2, c2, ev2, hl2⟩ := row 2 (by omega)
        obtain ⟨o', c', ek, hk0⟩ := kv0.out
        have g0 : w1.cell? ⟨w.heap.size + 1 + 1, 0, none⟩ = some (.slice (some ⟨bw, o', none⟩) (ws.drop (1 + pb)).length c') := by have := hF.out.arr.cell (i := 0) (by omega); rw [← ek]; simpa using this
        have g1 : w1.cell? ⟨w.heap.size + 1 + 1, 1, none⟩ = some (.slice u0 (vl p ws R 0).length c0) := by have := hF.out.arr.cell (i := 1) (by omega); rw [← ev0]; simpa using this
        have g2 : w1.cell? ⟨w.heap.size + 1 + 1, 2, none⟩ = some (.slice u1 (vl p ws R 1).length c1) := by have := hF.out.arr.cell (i := 2) (by omega); rw [← ev1]; simpa using this
        have g3 : w1.cell? ⟨w.heap.size + 1 + 1, 3, none⟩ = some (.slice u2 (vl p ws R 2).length c2) := by have := hF.out.arr.cell (i := 3) (by omega); rw [← ev2]; simpa using this
        have q0 : w1.cell? ⟨w.heap.size, 0, none⟩ = some (.int .u64 p) := by rw [hB.cell (p := ⟨w.heap.size, 0, none⟩) (by simp only []; omega)]; exact cl.out 0 _ rfl
        have q1 : w1.cell? ⟨w.heap.size, 1, none⟩ = some (.int .i64 (b : Int)) := by rw [hB.cell (p := ⟨w.heap.size, 1, none⟩) (by simp only []; omega)]; exact cl.out 1 _ rfl
        have q2 : w1.cell? ⟨w.heap.size, 2, none⟩ = some (.int .i64 q) := by rw [hB.cell (p := ⟨w.heap.size, 2, none⟩) (by simp only []; omega)]; exact cl.out 2 _ rfl
        have q3 : w1.cell? ⟨w.heap.size, 3, none⟩ = some (.int .i64 k) := by rw [hB.cell (p := ⟨w.heap.size, 3, none⟩) (by simp only []; omega)]; exact cl.out 3 _ rfl
        have q4 : w1.cell? ⟨w.heap.size, 4, none⟩ = some (.int .i64 n) := by rw [hB.cell (p := ⟨w.heap.size, 4, none⟩) (by simp only []; omega)]; exact cl.out 4 _ rfl
        have q5 : w1.cell? ⟨w.heap.size, 5, none⟩ = some (.int .i64 s) := by rw [hB.cell (p := ⟨w.heap.size, 5, none⟩) (by simp only []; omega)]; exact cl.out 5 _ rfl
        have q6 : w1.cell? ⟨w.heap.size, 6, none⟩ = some (.int .i64 r) := by rw [hB.cell (p := ⟨w.heap.size, 6, none⟩) (by simp only []; omega)]; exact cl.out 6 _ rfl
        have q7 : w1.cell? ⟨w.heap.size, 7, none⟩ = some (.int .i64 (pf 0 : Nat)) := by rw [hB.cell (p := ⟨w.heap.size, 7, none⟩) (by simp only []; omega)]; exact cl.out 7 _ rfl
        have q8 : w1.cell? ⟨w.heap.size, 8, none⟩ = some (.int .i64 (pf 1 : Nat)) := by rw [hB.cell (p := ⟨w.heap.size, 8, none⟩) (by simp only []; omega)]; exact cl.out 8 _ rfl
        have q9 : w1.cell? ⟨w.heap.size, 9, none⟩ = some (.int .i64 (pf 2 : Nat)) := by rw [hB.cell (p := ⟨w.heap.size, 9, none⟩) (by simp only []; omega)]; exact cl.out 9 _ rfl
        have q10 : w1.cell? ⟨w.heap.size, 10, none⟩ = some (.int .i64 (pf 3 : Nat)) := by rw [hB.cell (p := ⟨w.heap.size, 10, none⟩) (by simp only []; omega)]; exact cl.out 10 _ rfl
        have cc : Kept (Calls Try.prog 45 #[.agg #[.int .u64 p, .int .i64 (b : Int), .int .i64 q, .int .i64 k, .int .i64 n, .int .i64 s, .int .i64 r, .int .i64 (pf 0 : Nat), .int .i64 (pf 1 : Nat), .int .i64 (pf 2 : Nat), .int .i64 (pf 3 : Nat)],
            .agg #[.slice (some ⟨bw, o', none⟩) (ws.drop (1 + pb)).length c', .slice u0 (vl p ws R 0).length c0, .slice u1 (vl p ws R 1).length c1, .slice u2 (vl p ws R 2).length c2]] w1 (GivesMat (cuts b pf (fun j => if j = 0 then ws.drop (1 + pb) else vl p ws R (j - 1)) 4) w1)) := ⟨
          cut_c b pf (fun j => if j = 0 then some ⟨bw, o', none⟩ else if j = 1 then u0 else if j = 2 then u1 else u2) (fun j => if j = 0 then c' else if j = 1 then c0 else if j = 2 then c1 else c2) (fun j => if j = 0 then ws.drop (1 + pb) else vl p ws R (j - 1)) p q k n s r w1 hb kp.out (fun j hj => by
            match j, hj with
            | 0, _ => exact hk0.below (Nat.le_refl _) hBw.out
            | 1, _ => exact hl0
            | 2, _ => exact hl1
            | 3, _ => exact hl2)⟩
        clear hF hl0 hl1 hl2 hk0 ev0 ev1 ev2 row hB ek
        generalize (ws.drop (1 + pb)).length = d0 at *
        generalize (vl p ws R 0).length = d1 at *
        generalize (vl p ws R 1).length = d2 at *
        generalize (vl p ws R 2).length = d3 at *
        go_wp2_with (first | (go_at_call 45; refine cc.out.mono ?_; rintro e w4 ⟨vm, bsm, rfl, hM⟩))
        have hM : Kept (Mat w1 w4 vm bsm (cuts b pf (fun j => if j = 0 then ws.drop (1 + pb) else vl p ws R (j - 1)) 4)) := ⟨hM⟩
        go_wp2
        go_ret
        exact ⟨vm, bsm, rfl, hM.out.base hBw.out⟩
  · generalize hW1 : (w.alloc (.cells #[.int .u64 p, .int .i64 (b : Int), .int .i64 q, .int .i64 k, .int .i64 n, .int .i64 s, .int .i64 r, .int .i64 (pf 0 : Nat), .int .i64 (pf 1 : Nat), .int .i64 (pf 2 : Nat), .int .i64 (pf 3 : Nat)] 36)).alloc
      (.cells #[.int .u64 p, .int .i64 (pb : Int), .int .i64 vs, .slice ur m cr] 25) = W1
    have hW : Kept (Below w.heap.size w W1) := ⟨by rw [← hW1]; exact (by repeat (first | exact Below.refl _ _ | refine Below.later ?_ _ | refine Below.box ?_ _ | refine Below.drew ?_ | refine Below.put ?_ (by dsimp only; omega) _))⟩
    have hWs : W1.heap.size = w.heap.size + 1 + 1 := by rw [← hW1]; simp
    have cl : Kept (∀ i x, (#[Value.int .u64 p, .int .i64 (b : Int), .int .i64 q, .int .i64 k, .int .i64 n, .int .i64 s, .int .i64 r, .int .i64 (pf 0 : Nat), .int .i64 (pf 1 : Nat), .int .i64 (pf 2 : Nat), .int .i64 (pf 3 : Nat)] : Array Value)[i]? = some x → W1.cell? ⟨w.heap.size, i, none⟩ = some x) := ⟨fun i x hx => by
      rw [← hW1, World.cell?_alloc_lt _ _ _ (by simp), World.cell?_alloc_new]; exact hx⟩
    have ct : Kept (∀ i x, (#[.int .u64 p, .int .i64 (pb : Int), .int .i64 vs, .slice ur m cr] : Array Value)[i]? = some x → W1.cell? ⟨w.heap.size + 1, i, none⟩ = some x) := ⟨fun i x hx => by
      rw [← hW1, show w.heap.size + 1 = (w.alloc (.cells #[.int .u64 p, .int .i64 (b : Int), .int .i64 q, .int .i64 k, .int .i64 n, .int .i64 s, .int .i64 r, .int .i64 (pf 0 : Nat), .int .i64 (pf 1 : Nat), .int .i64 (pf 2 : Nat), .int .i64 (pf 3 : Nat)] 36)).heap.size from by simp, World.cell?_alloc_new]; exact hx⟩
    clear hW1
    go_loopw [8] (fun vk wr => ∃ (kk : Nat) (vs : Nat → Value), vk = .int .i64 (kk : Int) ∧ kk ≤ 3 ∧ Kept (Fam W1 wr (w.heap.size + 1 + 1) v0 vs (msgs p ws R kk 0))) (fun vk _ => (3 - intOf vk).toNat)
    case atStart =>
      refine ⟨0, fun _ => .slice none 0 0, rfl, by omega, ⟨⟨fun j hj => ?_, fun j hj => by simp [Value.ownBlock], fun i j b _ _ _ h => by simp [Value.ownBlock] at h, ?_, by omega, fun j hj x hx => ?_⟩⟩⟩
      · have e : msgs p ws R 0 0 j = [] := by unfold msgs; split; omega; split <;> simp
        rw [e]
        exact (Grown.nil0 _ W1).keep (by repeat (first | exact Below.refl _ _ | refine Below.later ?_ _ | refine Below.box ?_ _ | refine Below.drew ?_ | refine Below.put ?_ (by dsimp only; omega) _))
      · have := World.rowIs_alloc W1 #[v0, .slice none 0 0, .slice none 0 0, .slice none 0 0] 84 (fun i => if i = 0 then v0 else .slice none 0 0) (fun i hi => by
          match i, hi with
          | 0, _ => rfl
          | 1, _ => rfl
          | 2, _ => rfl
          | 3, _ => rfl)
        rw [hWs] at this
        exact this
      · have e : msgs p ws R 0 0 j = [] := by unfold msgs; split; omega; split <;> simp
        rw [e] at hx; simp at hx
    case round =>
      obtain ⟨kk, vs1, rfl, hk, hF⟩ := hrel
      obtain ⟨w1, rfl⟩ : ∃ x, x = wr := ⟨wr, rfl⟩
      by_cases h : kk < 3
      · have hkI : (kk : Int) < 3 := by omega
        go_wp2
        go_loopw [9] (fun vi wr => ∃ (i : Nat) (vs : Nat → Value), vi = .int .i64 (i : Int) ∧ i ≤ m ∧ Kept (Fam W1 wr (w.heap.size + 1 + 1) v0 vs (msgs p ws R kk i))) (fun vi _ => ((m : Int) - intOf vi).toNat)
        case atStart => exact ⟨0, vs1, rfl, by omega, hF⟩
        case round =>
          clear hF
          obtain ⟨i, vs2, rfl, hi, hF⟩ := hrel
          obtain ⟨w2, rfl⟩ : ∃ x, x = wr := ⟨wr, rfl⟩
          have hB := (hF.out.own 0 (by omega)).below
          have hBs := hB.size
          have ft0 : w2.cell? ⟨w.heap.size + 1, 0, none⟩ = some (.int .u64 p) := by rw [hB.cell (p := ⟨w.heap.size + 1, 0, none⟩) (by simp only []; omega)]; exact ct.out 0 _ rfl
          have ft3 : w2.cell? ⟨w.heap.size + 1, 3, none⟩ = some (.slice ur m cr) := by rw [hB.cell (p := ⟨w.heap.size + 1, 3, none⟩) (by simp only []; omega)]; exact ct.out 3 _ rfl
          have hlt1 : w.heap.size + 1 < w2.heap.size := by omega
          have hBvlt : (w.heap.size + 1 + 1) < w2.heap.size := hF.out.arr.lt
          by_cases h2 : i < m
          · obtain ⟨b1, o1, rw', rfl, hx1, hb1, hc1, hc2, hc3, ha, hb', hc'⟩ := kR.out i h2
            have hBw : Kept (Below w.heap.size w w2) := ⟨Below.next hW.out hB⟩
            have hr1 : w2.cell? ⟨b1, o1 + i * 3, none⟩ = some rw'.a.v := by rw [hBw.out.cell (p := ⟨b1, o1 + i * 3, none⟩) hb1]; exact hc1
            have hr2 : w2.cell? ⟨b1, o1 + i * 3 + 1, none⟩ = some rw'.b.v := by rw [hBw.out.cell (p := ⟨b1, o1 + i * 3 + 1, none⟩) hb1]; exact hc2
            have hr3 : w2.cell? ⟨b1, o1 + i * 3 + 2, none⟩ = some rw'.c.v := by rw [hBw.out.cell (p := ⟨b1, o1 + i * 3 + 2, none⟩) hb1]; exact hc3
            have hb1w : b1 < w2.heap.size := by omega
            have hz : Kept ((vl p ws R kk).take (i + 1) = (vl p ws R kk).take i ++ [valL p ws (side kk rw').l]) := ⟨by
              rw [List.take_add_one, vl, List.getElem?_map, hx1]; rfl⟩
            have htA : Kept (Tm w rw'.a.u rw'.a.l ∧ Tm w rw'.b.u rw'.b.l ∧ Tm w rw'.c.u rw'.c.l) := ⟨ha, hb', hc'⟩
            have csd : Kept (∀ w, Calls Try.prog 42 #[.agg #[rw'.a.v, rw'.b.v, rw'.c.v]] w (Gives (.agg #[rw'.a.v, rw'.b.v, rw'.c.v]) w)) := ⟨fun w => sides_c rw' w⟩
            have hb1s : b1 < w.heap.size := hb1
            have hi0I : (0 : Int) ≤ (i : Int) := Int.natCast_nonneg _
            have hi1I : (i : Int) < (m : Int) := by omega
            clear hc1 hc2 hc3 ha hb' hc' hx1 hb1 hB
            have hvk : w2.cell? ⟨w.heap.size + 1 + 1, kk + 1, none⟩ = some (vs2 kk) := by have := hF.out.arr.cell (i := kk + 1) (by omega); simpa using this
            have hfz : w2.frozen? ⟨w.heap.size + 1 + 1, kk + 1, none⟩ = false := hF.out.arr.frozen (kk + 1)
            have n1 : (vs2 kk).ownBlock ≠ some (w.heap.size + 1 + 1) := hF.out.off kk (by omega)
            have n0 : ∀ b', b' < w.heap.size + 1 + 1 → (vs2 kk).ownBlock ≠ some b' := fun b' hb' e => by have := ((hF.out.own kk (by omega)).own.lt b' e).1; omega
            have n2 := n0 (w.heap.size + 1) (by omega)
            have n3 := n0 b1 (by omega)
            have hli : (msgs p ws R kk i kk).length = i := by unfold msgs; rw [if_neg (by omega), if_pos rfl, List.length_take, vl_len, e1.out]; omega
            have hms : Kept ((vl p ws R kk).take i = msgs p ws R kk i kk) := ⟨by unfold msgs; rw [if_neg (by omega), if_pos rfl]⟩
            obtain ⟨z, hzz⟩ : ∃ z, valL p ws (side kk rw').l = z := ⟨_, rfl⟩
            have htm : Tm w (side kk rw').u (side kk rw').l := by
              unfold side; split
              · exact htA.out.1
              · split
                · exact htA.out.2.1
                · exact htA.out.2.2
            have cvl : Kept (∀ c w', Below w2.heap.size w2 w' → Calls Try.prog 49 #[.int .u64 p, (side kk rw').v, .slice (some ⟨bw, ow, none⟩) n' c] w' (Gives (.int .u64 z) w')) := ⟨fun c w' hw' => by
              have := rvalue_c p (side kk rw').u (side kk rw').c (side kk rw').l (some ⟨bw, ow, none⟩) c ws w' ((htm.below (Nat.le_refl _) hBw.out).below (Nat.le_refl _) hw') ((kw.out.below (Nat.le_refl _) hBw.out).below (Nat.le_refl _) hw')
              rw [e2.out] at this
              rw [← hzz]; exact this⟩
            have hUz : Kept (U z) := ⟨by rw [← hzz]; exact valL_U⟩
            have hz2 : Kept ((vl p ws R kk).take (i + 1) = (vl p ws R kk).take i ++ [z]) := ⟨by rw [hz.out, hzz]⟩
            have hApp : Kept (∀ w', Below w2.heap.size w2 w' → w'.ownsRow W1.heap.size 22 1 (vs2 kk) i (ints (msgs p ws R kk i kk))) := ⟨fun w' hw' => by
              have := ((hF.out.own kk (by omega)).keep hw').own
              rw [hli] at this; exact this⟩
            have hAb : Kept (∀ w', Below w2.heap.size w2 w' → W1.heap.size ≤ w'.heap.size) := ⟨fun w' hw' => Nat.le_trans hBs hw'.size⟩
            have hli : Kept ((msgs p ws R kk i kk).length = i) := ⟨hli⟩
            have n0 : Kept (∀ b', b' < w.heap.size + 1 + 1 → (vs2 kk).ownBlock ≠ some b') := ⟨n0⟩
            have hCell : Kept (∀ w', Below w2.heap.size w2 w' → w'.cell? ⟨w.heap.size + 1 + 1, kk + 1, none⟩ = some (vs2 kk)) := ⟨fun w' hw' => by rw [hw'.cell (p := ⟨w.heap.size + 1 + 1, kk + 1, none⟩) (by simp only []; omega)]; exact hvk⟩
            have hidx : ∀ w, (Instr.index 81 (.agg #[rw'.a.v, rw'.b.v, rw'.c.v]) (.int .i64 (kk : Int))).run Try.prog w = .ok (side kk rw').v w := fun w => lidx_c kk h rw' w
            have hS : Kept (∀ w', Below w2.heap.size w2 w' → (w'.cell? ⟨w.heap.size + 1 + 1, kk + 1, none⟩ = some (vs2 kk) ∧ w'.frozen? ⟨w.heap.size + 1 + 1, kk + 1, none⟩ = false ∧ w'.cell? ⟨w.heap.size + 1, 0, none⟩ = some (.int .u64 p) ∧ w'.cell? ⟨w.heap.size + 1, 3, none⟩ = some (.slice (some ⟨b1, o1, none⟩) m cr) ∧ w'.cell? ⟨b1, o1 + i * 3, none⟩ = some rw'.a.v ∧ w'.cell? ⟨b1, o1 + i * 3 + 1, none⟩ = some rw'.b.v ∧ w'.cell? ⟨b1, o1 + i * 3 + 2, none⟩ = some rw'.c.v)) := ⟨fun w' hw' => ⟨hCell.out w' hw', by rw [World.frozen?_of_block (hw'.block (w.heap.size + 1 + 1) (by omega))]; exact hfz, by rw [hw'.cell (p := ⟨w.heap.size + 1, 0, none⟩) (by simp only []; omega)]; exact ft0, by rw [hw'.cell (p := ⟨w.heap.size + 1, 3, none⟩) (by simp only []; omega)]; exact ft3, by rw [hw'.cell (p := ⟨b1, o1 + i * 3, none⟩) (by simp only []; omega)]; exact hr1, by rw [hw'.cell (p := ⟨b1, o1 + i * 3 + 1, none⟩) (by simp only []; omega)]; exact hr2, by rw [hw'.cell (p := ⟨b1, o1 + i * 3 + 2, none⟩) (by simp only []; omega)]; exact hr3⟩⟩
            clear hz hzz htA htm
            have hCq : ∀ q, (after w2.drew q).cell? ⟨w.heap.size + 1 + 1, kk + 1, none⟩ = some (vs2 kk) := fun q => hCell.out _ (by repeat (first | exact Below.refl _ _ | refine Below.later ?_ _ | refine Below.box ?_ _ | refine Below.drew ?_ | refine Below.put ?_ (by dsimp only; omega) _))
            have hCo : ∀ q o, ((after w2.drew q).alloc o).cell? ⟨w.heap.size + 1 + 1, kk + 1, none⟩ = some (vs2 kk) := fun q o => hCell.out _ (by repeat (first | exact Below.refl _ _ | refine Below.later ?_ _ | refine Below.box ?_ _ | refine Below.drew ?_ | refine Below.put ?_ (by dsimp only; omega) _))
            have hnb : ¬ (w.heap.size + 1 + 1 = b1) := by omega
            have hnb2 : w.heap.size + 1 + 1 ≠ b1 := by omega
            have hu90 := Try.underlying84
            have hk1 : (0 : Int) ≤ (kk : Int) := Int.natCast_nonneg _
            have hk2 : (kk : Int) + 1 < 4 := by omega
            have hk3 : (0 : Int) ≤ (kk : Int) + 1 := by omega
            have hk4 : IntKind.i64.wrap ((kk : Int) + 1) = (kk : Int) + 1 := by rw [IntKind.wrap_i64]; omega
            obtain ⟨i0, hi0, hz0, hz1, hz2'⟩ := info_parts (show (Try.prog.info? 22).map (fun i => (i.zero, i.size, i.bytes)) = some (some (.int .u64 0), 1, 8) from by kernel_rfl)
            go_wp2
            refine wp_region_noPanic ?_
            refine region_strip (S := fun w' => w'.cell? ⟨w.heap.size + 1 + 1, kk + 1, none⟩ = some (vs2 kk) ∧ w'.frozen? ⟨w.heap.size + 1 + 1, kk + 1, none⟩ = false ∧ w'.cell? ⟨w.heap.size + 1, 0, none⟩ = some (.int .u64 p) ∧ w'.cell? ⟨w.heap.size + 1, 3, none⟩ = some (.slice (some ⟨b1, o1, none⟩) m cr) ∧ w'.cell? ⟨b1, o1 + i * 3, none⟩ = some rw'.a.v ∧ w'.cell? ⟨b1, o1 + i * 3 + 1, none⟩ = some rw'.b.v ∧ w'.cell? ⟨b1, o1 + i * 3 + 2, none⟩ = some rw'.c.v) (by kernel_rfl) (by kernel_rfl) (hS.out _ (by (repeat (first | exact Below.refl _ _ | refine Below.later ?_ _ | refine Below.box ?_ _ | refine Below.drew ?_)); done)) (fun hHeld => ?_)
            simp only [initOf, lastOf]
            refine wpAnyH_take (i := 0) (oi := ?o0n) (v := ?v0n) ?hi0n (by kernel_rfl) (by kernel_rfl) (by kernel_rfl) (fun _ _ _ h => h) (Or.inl ⟨?hg0n, ?hy0n⟩) (by assumption) ?rest0n
            case hi0n => rfl
            case hg0n => rfl
            case' hy0n =>
              dsimp only [List.getElem?_toArray, List.getElem?_cons_succ, List.getElem?_cons_zero, List.getElem_cons_succ, List.getElem_cons_zero, List.getElem_toArray]
              intro w hSw
              try dsimp only at hSw
              go_simp
              try with_reducible rfl
            case' rest0n =>
              dsimp only [List.getElem?_toArray, List.getElem?_cons_succ, List.getElem?_cons_zero, List.getElem_cons_succ, List.getElem_cons_zero, List.getElem_toArray]
              try simp only [Act.put, List.setIfInBounds_toArray, List.set_cons_zero, List.set_cons_succ]
            refine wpAnyH_take (i := 1) (oi := ?o1n) (v := ?v1n) ?hi1n (by kernel_rfl) (by kernel_rfl) (by kernel_rfl) (fun _ _ _ h => h) (Or.inl ⟨?hg1n, ?hy1n⟩) (by assumption) ?rest1n
            case hi1n => rfl
            case hg1n => rfl
            case' hy1n =>
              dsimp only [List.getElem?_toArray, List.getElem?_cons_succ, List.getElem?_cons_zero, List.getElem_cons_succ, List.getElem_cons_zero, List.getElem_toArray]
              intro w hSw
              try dsimp only at hSw
              go_simp
              try with_reducible rfl
            case' rest1n =>
              dsimp only [List.getElem?_toArray, List.getElem?_cons_succ, List.getElem?_cons_zero, List.getElem_cons_succ, List.getElem_cons_zero, List.getElem_toArray]
              try simp only [Act.put, List.setIfInBounds_toArray, List.set_cons_zero, List.set_cons_succ]
            refine wpAnyH_take (i := 2) (oi := ?o2n) (v := ?v2n) ?hi2n (by kernel_rfl) (by kernel_rfl) (by kernel_rfl) (fun _ _ _ h => h) (Or.inl ⟨?hg2n, ?hy2n⟩) (by assumption) ?rest2n
            case hi2n => rfl
            case hg2n => rfl
            case' hy2n =>
              dsimp only [List.getElem?_toArray, List.getElem?_cons_succ, List.getElem?_cons_zero, List.getElem_cons_succ, List.getElem_cons_zero, List.getElem_toArray]
              intro w hSw
              try dsimp only at hSw
              go_simp
              try with_reducible rfl
            case' rest2n =>
              dsimp only [List.getElem?_toArray, List.getElem?_cons_succ, List.getElem?_cons_zero, List.getElem_cons_succ, List.getElem_cons_zero, List.getElem_toArray]
              try simp only [Act.put, List.setIfInBounds_toArray, List.set_cons_zero, List.set_cons_succ]
            refine wpAnyH_take (i := 3) (oi := ?o3n) (v := ?v3n) ?hi3n (by kernel_rfl) (by kernel_rfl) (by kernel_rfl) (fun _ _ _ h => h) (Or.inl ⟨?hg3n, ?hy3n⟩) (by assumption) ?rest3n
            case hi3n => rfl
            case hg3n => rfl
            case' hy3n =>
              dsimp only [List.getElem?_toArray, List.getElem?_cons_succ, List.getElem?_cons_zero, List.getElem_cons_succ, List.getElem_cons_zero, List.getElem_toArray]
              intro w hSw
              try dsimp only at hSw
              go_simp
              try with_reducible rfl
            case' rest3n =>
              dsimp only [List.getElem?_toArray, List.getElem?_cons_succ, List.getElem?_cons_zero, List.getElem_cons_succ, List.getElem_cons_zero, List.getElem_toArray]
              try simp only [Act.put, List.setIfInBounds_toArray, List.set_cons_zero, List.set_cons_succ]
            refine wpAnyH_take (i := 4) (oi := ?o4n) (v := ?v4n) ?hi4n (by kernel_rfl) (by kernel_rfl) (by kernel_rfl) (fun _ _ _ h => h) (Or.inl ⟨?hg4n, ?hy4n⟩) (by assumption) ?rest4n
            case hi4n => rfl
            case hg4n => rfl
            case' hy4n =>
              dsimp only [List.getElem?_toArray, List.getElem?_cons_succ, List.getElem?_cons_zero, List.getElem_cons_succ, List.getElem_cons_zero, List.getElem_toArray]
              intro w hSw
              try dsimp only at hSw
              go_simp
              try with_reducible rfl
            case' rest4n =>
              dsimp only [List.getElem?_toArray, List.getElem?_cons_succ, List.getElem?_cons_zero, List.getElem_cons_succ, List.getElem_cons_zero, List.getElem_toArray]
              try simp only [Act.put, List.setIfInBounds_toArray, List.set_cons_zero, List.set_cons_succ]
            refine wpAnyH_take (i := 5) (oi := ?o5n) (v := ?v5n) ?hi5n (by kernel_rfl) (by kernel_rfl) (by kernel_rfl) (fun _ _ _ h => h) (Or.inl ⟨?hg5n, ?hy5n⟩) (by assumption) ?rest5n
            case hi5n => rfl
            case hg5n => rfl
            case' hy5n =>
              dsimp only [List.getElem?_toArray, List.getElem?_cons_succ, List.getElem?_cons_zero, List.getElem_cons_succ, List.getElem_cons_zero, List.getElem_toArray]
              intro w hSw
              try dsimp only at hSw
              go_simp
              try with_reducible rfl
            case' rest5n =>
              dsimp only [List.getElem?_toArray, List.getElem?_cons_succ, List.getElem?_cons_zero, List.getElem_cons_succ, List.getElem_cons_zero, List.getElem_toArray]
              try simp only [Act.put, List.setIfInBounds_toArray, List.set_cons_zero, List.set_cons_succ]
            refine wpAnyH_take (i := 6) (oi := ?o6n) (v := ?v6n) ?hi6n (by kernel_rfl) (by kernel_rfl) (by kernel_rfl) (fun _ _ _ h => h) (Or.inl ⟨?hg6n, ?hy6n⟩) (by assumption) ?rest6n
            case hi6n => rfl
            case hg6n => rfl
            case' hy6n =>
              dsimp only [List.getElem?_toArray, List.getElem?_cons_succ, List.getElem?_cons_zero, List.getElem_cons_succ, List.getElem_cons_zero, List.getElem_toArray]
              intro w hSw
              try dsimp only at hSw
              go_simp
              try with_reducible rfl
            case' rest6n =>
              dsimp only [List.getElem?_toArray, List.getElem?_cons_succ, List.getElem?_cons_zero, List.getElem_cons_succ, List.getElem_cons_zero, List.getElem_toArray]
              try simp only [Act.put, List.setIfInBounds_toArray, List.set_cons_zero, List.set_cons_succ]
            refine wpAnyH_take (i := 7) (oi := ?o7n) (v := ?v7n) ?hi7n (by kernel_rfl) (by kernel_rfl) (by kernel_rfl) (fun _ _ _ h => h) (Or.inl ⟨?hg7n, ?hy7n⟩) (by assumption) ?rest7n
            case hi7n => rfl
            case hg7n => rfl
            case' hy7n =>
              dsimp only [List.getElem?_toArray, List.getElem?_cons_succ, List.getElem?_cons_zero, List.getElem_cons_succ, List.getElem_cons_zero, List.getElem_toArray]
              intro w hSw
              try dsimp only at hSw
              go_simp
              try with_reducible rfl
            case' rest7n =>
              dsimp only [List.getElem?_toArray, List.getElem?_cons_succ, List.getElem?_cons_zero, List.getElem_cons_succ, List.getElem_cons_zero, List.getElem_toArray]
              try simp only [Act.put, List.setIfInBounds_toArray, List.set_cons_zero, List.set_cons_succ]
            refine wpAnyH_take (i := 8) (oi := ?o8n) (v := ?v8n) ?hi8n (by kernel_rfl) (by kernel_rfl) (by kernel_rfl) (fun _ _ _ h => h) (Or.inl ⟨?hg8n, ?hy8n⟩) (by assumption) ?rest8n
            case hi8n => rfl
            case hg8n => rfl
            case' hy8n =>
              dsimp only [List.getElem?_toArray, List.getElem?_cons_succ, List.getElem?_cons_zero, List.getElem_cons_succ, List.getElem_cons_zero, List.getElem_toArray]
              intro w hSw
              try dsimp only at hSw
              go_simp
              try with_reducible rfl
            case' rest8n =>
              dsimp only [List.getElem?_toArray, List.getElem?_cons_succ, List.getElem?_cons_zero, List.getElem_cons_succ, List.getElem_cons_zero, List.getElem_toArray]
              try simp only [Act.put, List.setIfInBounds_toArray, List.set_cons_zero, List.set_cons_succ]
            refine wpAnyH_take (i := 9) (oi := ?o9n) (v := ?v9n) ?hi9n (by kernel_rfl) (by kernel_rfl) (by kernel_rfl) (fun _ _ _ h => h) (Or.inl ⟨?hg9n, ?hy9n⟩) (by assumption) ?rest9n
            case hi9n => rfl
            case hg9n => rfl
            case' hy9n =>
              dsimp only [List.getElem?_toArray, List.getElem?_cons_succ, List.getElem?_cons_zero, List.getElem_cons_succ, List.getElem_cons_zero, List.getElem_toArray]
              intro w hSw
              try dsimp only at hSw
              go_simp
              try with_reducible rfl
            case' rest9n =>
              dsimp only [List.getElem?_toArray, List.getElem?_cons_succ, List.getElem?_cons_zero, List.getElem_cons_succ, List.getElem_cons_zero, List.getElem_toArray]
              try simp only [Act.put, List.setIfInBounds_toArray, List.set_cons_zero, List.set_cons_succ]
            refine wpAnyH_take (i := 10) (oi := ?o10n) (v := ?v10n) ?hi10n (by kernel_rfl) (by kernel_rfl) (by kernel_rfl) (fun _ _ _ h => h) (Or.inl ⟨?hg10n, ?hy10n⟩) (by assumption) ?rest10n
            case hi10n => rfl
            case hg10n => rfl
            case' hy10n =>
              dsimp only [List.getElem?_toArray, List.getElem?_cons_succ, List.getElem?_cons_zero, List.getElem_cons_succ, List.getElem_cons_zero, List.getElem_toArray]
              intro w hSw
              try dsimp only at hSw
              go_simp
              try with_reducible rfl
            case' rest10n =>
              dsimp only [List.getElem?_toArray, List.getElem?_cons_succ, List.getElem?_cons_zero, List.getElem_cons_succ, List.getElem_cons_zero, List.getElem_toArray]
              try simp only [Act.put, List.setIfInBounds_toArray, List.set_cons_zero, List.set_cons_succ]
            refine wpAnyH_take (i := 11) (oi := ?o11n) (v := ?v11n) ?hi11n (by kernel_rfl) (by kernel_rfl) (by kernel_rfl) (fun _ _ _ h => h) (Or.inl ⟨?hg11n, ?hy11n⟩) (by assumption) ?rest11n
            case hi11n => rfl
            case hg11n => rfl
            case' hy11n =>
              dsimp only [List.getElem?_toArray, List.getElem?_cons_succ, List.getElem?_cons_zero, List.getElem_cons_succ, List.getElem_cons_zero, List.getElem_toArray]
              intro w hSw
              try dsimp only at hSw
              go_simp
              try with_reducible rfl
            case' rest11n =>
              dsimp only [List.getElem?_toArray, List.getElem?_cons_succ, List.getElem?_cons_zero, List.getElem_cons_succ, List.getElem_cons_zero, List.getElem_toArray]
              try simp only [Act.put, List.setIfInBounds_toArray, List.set_cons_zero, List.set_cons_succ]
            refine wpAnyH_take (i := 12) (oi := ?o12n) (v := ?v12n) ?hi12n (by kernel_rfl) (by kernel_rfl) (by kernel_rfl) (fun _ _ _ h => h) (Or.inl ⟨?hg12n, ?hy12n⟩) (by assumption) ?rest12n
            case hi12n => rfl
            case hg12n => rfl
            case' hy12n =>
              dsimp only [List.getElem?_toArray, List.getElem?_cons_succ, List.getElem?_cons_zero, List.getElem_cons_succ, List.getElem_cons_zero, List.getElem_toArray]
              intro w hSw
              try dsimp only at hSw
              go_simp
              try with_reducible rfl
            case' rest12n =>
              dsimp only [List.getElem?_toArray, List.getElem?_cons_succ, List.getElem?_cons_zero, List.getElem_cons_succ, List.getElem_cons_zero, List.getElem_toArray]
              try simp only [Act.put, List.setIfInBounds_toArray, List.set_cons_zero, List.set_cons_succ]
            refine wpAnyH_take (i := 14) (oi := ?o14n) (v := ?v14n) ?hi14n (by kernel_rfl) (by kernel_rfl) (by kernel_rfl) (fun _ _ _ h => h) (Or.inl ⟨?hg14n, ?hy14n⟩) (by assumption) ?rest14n
            case hi14n => rfl
            case hg14n => rfl
            case' hy14n =>
              dsimp only [List.getElem?_toArray, List.getElem?_cons_succ, List.getElem?_cons_zero, List.getElem_cons_succ, List.getElem_cons_zero, List.getElem_toArray]
              intro w hSw
              try dsimp only at hSw
              go_simp
              try with_reducible rfl
            case' rest14n =>
              dsimp only [List.getElem?_toArray, List.getElem?_cons_succ, List.getElem?_cons_zero, List.getElem_cons_succ, List.getElem_cons_zero, List.getElem_toArray]
              try simp only [Act.put, List.setIfInBounds_toArray, List.set_cons_zero, List.set_cons_succ]
            refine wpAnyH_take (i := 16) (oi := ?o16n) (v := ?v16n) ?hi16n (by kernel_rfl) (by kernel_rfl) (by kernel_rfl) (fun _ _ _ h => h) (Or.inl ⟨?hg16n, ?hy16n⟩) (by assumption) ?rest16n
            case hi16n => rfl
            case hg16n => rfl
            case' hy16n =>
              dsimp only [List.getElem?_toArray, List.getElem?_cons_succ, List.getElem?_cons_zero, List.getElem_cons_succ, List.getElem_cons_zero, List.getElem_toArray]
              intro w hSw
              try dsimp only at hSw
              go_simp
              try with_reducible rfl
            case' rest16n =>
              dsimp only [List.getElem?_toArray, List.getElem?_cons_succ, List.getElem?_cons_zero, List.getElem_cons_succ, List.getElem_cons_zero, List.getElem_toArray]
              try simp only [Act.put, List.setIfInBounds_toArray, List.set_cons_zero, List.set_cons_succ]
            refine wpAnyH_ready (rs := [13]) (by kernel_rfl) (by simp) ?_
            refine AllReadyH.cons rfl (fun K hK => ?_) AllReadyH.nil
            dsimp only [List.getElem?_toArray, List.getElem?_cons_succ, List.getElem?_cons_zero, List.getElem_cons_succ, List.getElem_cons_zero, List.getElem_toArray]
            go_simp
            (go_at_call 42; (first | with_reducible refine use1 (csd.out _) ?_ | with_reducible refine use (csd.out _) ?_); intro pw)
            go_wp2
            refine hK.out _ _ ?_ (fun hHeld => ?_)
            · (refine hS.out _ ?_; (repeat (first | exact Below.refl _ _ | refine Below.later ?_ _ | refine Below.box ?_ _ | refine Below.drew ?_)); done)
            clear hK K
            try simp only [Act.put, List.setIfInBounds_toArray, List.set_cons_zero, List.set_cons_succ]
            refine wpAnyH_ready (rs := [15]) (by kernel_rfl) (by simp) ?_
            refine AllReadyH.cons rfl (fun K hK => ?_) AllReadyH.nil
            dsimp only [List.getElem?_toArray, List.getElem?_cons_succ, List.getElem?_cons_zero, List.getElem_cons_succ, List.getElem_cons_zero, List.getElem_toArray]
            go_simp
            refine hK.out _ _ ?_ (fun hHeld => ?_)
            · (refine hS.out _ ?_; (repeat (first | exact Below.refl _ _ | refine Below.later ?_ _ | refine Below.box ?_ _ | refine Below.drew ?_)); done)
            clear hK K
            try simp only [Act.put, List.setIfInBounds_toArray, List.set_cons_zero, List.set_cons_succ]
            refine wpAnyH_ready (rs := [17]) (by kernel_rfl) (by simp) ?_
            refine AllReadyH.cons rfl (fun K hK => ?_) AllReadyH.nil
            dsimp only [List.getElem?_toArray, List.getElem?_cons_succ, List.getElem?_cons_zero, List.getElem_cons_succ, List.getElem_cons_zero, List.getElem_toArray]
            go_simp
            (go_at_call 49; (first | with_reducible refine use1 (cvl.out _ _ (by repeat (first | exact Below.refl _ _ | refine Below.later ?_ _ | refine Below.box ?_ _ | refine Below.drew ?_ | refine Below.put ?_ (by dsimp only; omega) _))) ?_ | with_reducible refine use (cvl.out _ _ (by repeat (first | exact Below.refl _ _ | refine Below.later ?_ _ | refine Below.box ?_ _ | refine Below.drew ?_ | refine Below.put ?_ (by dsimp only; omega) _))) ?_); intro pw)
            go_wp2
            refine hK.out _ _ ?_ (fun hHeld => ?_)
            · (refine hS.out _ ?_; (repeat (first | exact Below.refl _ _ | refine Below.later ?_ _ | refine Below.box ?_ _ | refine Below.drew ?_)); done)
            clear hK K
            try simp only [Act.put, List.setIfInBounds_toArray, List.set_cons_zero, List.set_cons_succ]
            refine wpAnyH_ready (rs := [18]) (by kernel_rfl) (by simp) ?_
            refine AllReadyH.cons rfl (fun K hK => ?_) AllReadyH.nil
            dsimp only [List.getElem?_toArray, List.getElem?_cons_succ, List.getElem?_cons_zero, List.getElem_cons_succ, List.getElem_cons_zero, List.getElem_toArray]
            go_simp
            refine hK.out _ _ ?_ (fun hHeld => ?_)
            · (refine hS.out _ ?_; (repeat (first | exact Below.refl _ _ | refine Below.later ?_ _ | refine Below.box ?_ _ | refine Below.drew ?_)); done)
            clear hK K
            try simp only [Act.put, List.setIfInBounds_toArray, List.set_cons_zero, List.set_cons_succ]
            refine wpAnyH_ready (rs := [19]) (by kernel_rfl) (by simp) ?_
            refine AllReadyH.cons rfl (fun K hK => ?_) AllReadyH.nil
            dsimp only [List.getElem?_toArray, List.getElem?_cons_succ, List.getElem?_cons_zero, List.getElem_cons_succ, List.getElem_cons_zero, List.getElem_toArray]
            rw [if_pos (by rfl)]
            refine wp_append_lies _ _ _ _ (by rfl) W1.heap.size 22 i0 (.int .u64 0) 1 8 Try.underlying43 hi0 hz0 hz1 hz2' rfl (by decide) (vs2 kk) i (ints (msgs p ws R kk i kk)) (by rfl) (hApp.out _ (by repeat (first | exact Below.refl _ _ | refine Below.later ?_ _ | refine Below.box ?_ _ | refine Below.drew ?_ | refine Below.put ?_ (by dsimp only; omega) _))) ⟨w2.heap.size + pw.os.size, 0, none⟩ 1 1 [.int .u64 z] (by rfl) (by rfl)
                                (World.news_of_block (cs := #[.int .u64 z]) (t := 22) (fr := (0, 0)) (by rw [show w2.heap.size + pw.os.size = (after w2.drew pw).heap.size from by simp]; exact heap_alloc_new _ _)) (by simp [Value.oneCell']) (by omega) (by simp only [maxLen]; omega) (by omega) (hAb.out _ (by repeat (first | exact Below.refl _ _ | refine Below.later ?_ _ | refine Below.box ?_ _ | refine Below.drew ?_ | refine Below.put ?_ (by dsimp only; omega) _))) _ rfl ?_
            intro g cap w3 hown hgrow hat hlt
            refine hK.out _ _ ?_ (fun hHeld => ?_)
            · go_split_ands
              refine ⟨?_, ?_, ?_, ?_, ?_, ?_, ?_⟩
              · (rw [hgrow.cell_far _ (by simp; omega) (Ne.symm n1)]; assumption)
              · (rw [hgrow.frozen_far _ (by simp; omega) (Ne.symm n1)]; assumption)
              · (rw [hgrow.cell_far _ (by simp; omega) (Ne.symm n2)]; assumption)
              · (rw [hgrow.cell_far _ (by simp; omega) (Ne.symm n2)]; assumption)
              · (rw [hgrow.cell_far _ (by simp; omega) (Ne.symm n3)]; assumption)
              · (rw [hgrow.cell_far _ (by simp; omega) (Ne.symm n3)]; assumption)
              · (rw [hgrow.cell_far _ (by simp; omega) (Ne.symm n3)]; assumption)
            clear hK K
            try simp only [Act.put, List.setIfInBounds_toArray, List.set_cons_zero, List.set_cons_succ]
            refine wpAnyH_take (i := 20) (oi := ?o20n) (v := ?v20n) ?hi20n (by kernel_rfl) (by kernel_rfl) (by kernel_rfl) (fun _ _ _ h => h) (Or.inl ⟨?hg20n, ?hy20n⟩) (by assumption) ?rest20n
            case hi20n => rfl
            case hg20n => rfl
            case' hy20n =>
              dsimp only [List.getElem?_toArray, List.getElem?_cons_succ, List.getElem?_cons_zero, List.getElem_cons_succ, List.getElem_cons_zero, List.getElem_toArray]
              intro w hSw
              try dsimp only at hSw
              go_simp
              try with_reducible rfl
            case' rest20n =>
              dsimp only [List.getElem?_toArray, List.getElem?_cons_succ, List.getElem?_cons_zero, List.getElem_cons_succ, List.getElem_cons_zero, List.getElem_toArray]
              try simp only [Act.put, List.setIfInBounds_toArray, List.set_cons_zero, List.set_cons_succ]
            refine wpAnyH_done (by kernel_rfl) ?_ _
            show wpList _ _ _ _ _ _
            go_split_ands
            go_wp2
            refine NoPanic.normal ?_
            all_goals (
              have hF2 : Kept (Fam W1 (w3.setCell ⟨w.heap.size + 1 + 1, kk + 1, none⟩ (.slice (some ⟨g, 0, none⟩) (i + 1) cap)) (w.heap.size + 1 + 1) v0 (fun j => if j = kk then .slice (some ⟨g, 0, none⟩) (i + 1) cap else vs2 j) (msgs p ws R kk (i + 1))) :=
                ⟨(Fam.step hF.out (by repeat (first | exact Below.refl _ _ | refine Below.later ?_ _ | refine Below.box ?_ _ | refine Below.drew ?_ | refine Below.put ?_ (by dsimp only; omega) _)) h hli.out hUz.out hown hgrow hat).congr fun j hj => by
                  by_cases e : j = kk
                  · subst e
                    rw [if_pos rfl, ← hms.out, ← hz2.out]; unfold msgs; rw [if_neg (by omega), if_pos rfl]
                  · rw [if_neg e]; unfold msgs; rw [if_neg e, if_neg e]⟩
              clear hF hown hgrow hat hS hApp hAb hCell cvl hCq hCo
              go_wp2
              go_roundw
              case rel => exact ⟨i + 1, _, by go_num, by omega, hF2⟩
              case measure => first | (simp [intOf]; omega) | (simp [intOf]; done))
          · have hF2 : Kept (Fam W1 w2 (w.heap.size + 1 + 1) v0 vs2 (msgs p ws R (kk + 1) 0)) := ⟨hF.out.congr fun j hj => by
              have him : i = m := by omega
              unfold msgs
              by_cases e1' : j < kk
              · rw [if_pos e1', if_pos (by omega)]
              · rw [if_neg e1']
                by_cases e2' : j = kk
                · rw [if_pos e2', if_pos (by omega), List.take_of_length_le (by rw [vl_len, e1.out]; omega)]
                · rw [if_neg e2', if_neg (by omega)]
                  split <;> simp⟩
            clear hF hB
            go_wp2
            go_roundw
            case rel => exact ⟨kk + 1, vs2, by go_num, by omega, hF2⟩
            case measure => first | (simp [intOf]; omega) | (simp [intOf]; done)
      · have hk3 : kk = 3 := by omega
        subst hk3
        have hB := (hF.out.own 0 (by omega)).below
        have hBw : Kept (Below w.heap.size w w1) := ⟨Below.next hW.out hB⟩
        have hBs := hB.size
        have row : ∀ j, j < 3 → ∃ u c, vs1 j = .slice u (vl p ws R j).length c ∧ Ls w1 u (vl p ws R j) := fun j hj => by
          have hG := hF.out.own j hj
          have em : msgs p ws R 3 0 j = vl p ws R j := by unfold msgs; rw [if_pos hj]
          rw [em] at hG
          obtain ⟨u, c, e, _⟩ := hG.form
          rw [e] at hG
          exact ⟨u, c, e, (hG.ls rfl (by rw [vl_len, e1.out]; omega) vl_U).1⟩
        obtain ⟨u0, c0, ev0, hl0⟩ := row 0 (by omega)
        obtain ⟨u1, c1, ev1, hl1⟩ := row 1 (by omega)
        obtain ⟨u2, c2, ev2, hl2⟩ := row 2 (by omega)
        obtain ⟨o', c', ek, hk0⟩ := kv0.out
        have g0 : w1.cell? ⟨w.heap.size + 1 + 1, 0, none⟩ = some (.slice (some ⟨bw, o', none⟩) (ws.drop (1 + pb)).length c') := by have := hF.out.arr.cell (i := 0) (by omega); rw [← ek]; simpa using this
        have g1 : w1.cell? ⟨w.heap.size + 1 + 1, 1, none⟩ = some (.slice u0 (vl p ws R 0).length c0) := by have := hF.out.arr.cell (i := 1) (by omega); rw [← ev0]; simpa using this
        have g2 : w1.cell? ⟨w.heap.size + 1 + 1, 2, none⟩ = some (.slice u1 (vl p ws R 1).length c1) := by have := hF.out.arr.cell (i := 2) (by omega); rw [← ev1]; simpa using this
        have g3 : w1.cell? ⟨w.heap.size + 1 + 1, 3, none⟩ = some (.slice u2 (vl p ws R 2).length c2) := by have := hF.out.arr.cell (i := 3) (by omega); rw [← ev2]; simpa using this
        have q0 : w1.cell? ⟨w.heap.size, 0, none⟩ = some (.int .u64 p) := by rw [hB.cell (p := ⟨w.heap.size, 0, none⟩) (by simp only []; omega)]; exact cl.out 0 _ rfl
        have q1 : w1.cell? ⟨w.heap.size, 1, none⟩ = some (.int .i64 (b : Int)) := by rw [hB.cell (p := ⟨w.heap.size, 1, none⟩) (by simp only []; omega)]; exact cl.out 1 _ rfl
        have q2 : w1.cell? ⟨w.heap.size, 2, none⟩ = some (.int .i64 q) := by rw [hB.cell (p := ⟨w.heap.size, 2, none⟩) (by simp only []; omega)]; exact cl.out 2 _ rfl
        have q3 : w1.cell? ⟨w.heap.size, 3, none⟩ = some (.int .i64 k) := by rw [hB.cell (p := ⟨w.heap.size, 3, none⟩) (by simp only []; omega)]; exact cl.out 3 _ rfl
        have q4 : w1.cell? ⟨w.heap.size, 4, none⟩ = some (.int .i64 n) := by rw [hB.cell (p := ⟨w.heap.size, 4, none⟩) (by simp only []; omega)]; exact cl.out 4 _ rfl
        have q5 : w1.cell? ⟨w.heap.size, 5, none⟩ = some (.int .i64 s) := by rw [hB.cell (p := ⟨w.heap.size, 5, none⟩) (by simp only []; omega)]; exact cl.out 5 _ rfl
        have q6 : w1.cell? ⟨w.heap.size, 6, none⟩ = some (.int .i64 r) := by rw [hB.cell (p := ⟨w.heap.size, 6, none⟩) (by simp only []; omega)]; exact cl.out 6 _ rfl
        have q7 : w1.cell? ⟨w.heap.size, 7, none⟩ = some (.int .i64 (pf 0 : Nat)) := by rw [hB.cell (p := ⟨w.heap.size, 7, none⟩) (by simp only []; omega)]; exact cl.out 7 _ rfl
        have q8 : w1.cell? ⟨w.heap.size, 8, none⟩ = some (.int .i64 (pf 1 : Nat)) := by rw [hB.cell (p := ⟨w.heap.size, 8, none⟩) (by simp only []; omega)]; exact cl.out 8 _ rfl
        have q9 : w1.cell? ⟨w.heap.size, 9, none⟩ = some (.int .i64 (pf 2 : Nat)) := by rw [hB.cell (p := ⟨w.heap.size, 9, none⟩) (by simp only []; omega)]; exact cl.out 9 _ rfl
        have q10 : w1.cell? ⟨w.heap.size, 10, none⟩ = some (.int .i64 (pf 3 : Nat)) := by rw [hB.cell (p := ⟨w.heap.size, 10, none⟩) (by simp only []; omega)]; exact cl.out 10 _ rfl
        have cc : Kept (Calls Try.prog 45 #[.agg #[.int .u64 p, .int .i64 (b : Int), .int .i64 q, .int .i64 k, .int .i64 n, .int .i64 s, .int .i64 r, .int .i64 (pf 0 : Nat), .int .i64 (pf 1 : Nat), .int .i64 (pf 2 : Nat), .int .i64 (pf 3 : Nat)],
            .agg #[.slice (some ⟨bw, o', none⟩) (ws.drop (1 + pb)).length c', .slice u0 (vl p ws R 0).length c0, .slice u1 (vl p ws R 1).length c1, .slice u2 (vl p ws R 2).length c2]] w1 (GivesMat (cuts b pf (fun j => if j = 0 then ws.drop (1 + pb) else vl p ws R (j - 1)) 4) w1)) := ⟨
          cut_c b pf (fun j => if j = 0 then some ⟨bw, o', none⟩ else if j = 1 then u0 else if j = 2 then u1 else u2) (fun j => if j = 0 then c' else if j = 1 then c0 else if j = 2 then c1 else c2) (fun j => if j = 0 then ws.drop (1 + pb) else vl p ws R (j - 1)) p q k n s r w1 hb kp.out (fun j hj => by
            match j, hj with
            | 0, _ => exact hk0.below (Nat.le_refl _) hBw.out
            | 1, _ => exact hl0
            | 2, _ => exact hl1
            | 3, _ => exact hl2)⟩
        clear hF hl0 hl1 hl2 hk0 ev0 ev1 ev2 row hB ek
        generalize (ws.drop (1 + pb)).length = d0 at *
        generalize (vl p ws R 0).length = d1 at *
        generalize (vl p ws R 1).length = d2 at *
        generalize (vl p ws R 2).length = d3 at *
        go_wp2_with (first | (go_at_call 45; refine cc.out.mono ?_; rintro e w4 ⟨vm, bsm, rfl, hM⟩))
        have hM : Kept (Mat w1 w4 vm bsm (cuts b pf (fun j => if j = 0 then ws.drop (1 + pb) else vl p ws R (j - 1)) 4)) := ⟨hM⟩
        go_wp2
        go_ret
        exact ⟨vm, bsm, rfl, hM.out.base hBw.out⟩
end Go.Proofs.Ytpkjlnelkacbgaa
