/- The reference's Coefs. -/
import Derived.Test.YtpkjlnelkacbgaaHCof
import Derived.Test.YtpkjlnelkacbgaaHRtg
import Derived.Test.YtpkjlnelkacbgaaHQfr
namespace Go.Proofs.Ytpkjlnelkacbgaa
open Go.RowKit Go.Sort

set_option maxRecDepth 100000
/-- The four lists while they grow. -/
def cfV (p rho : Int) (m kk i : Nat) (k : Nat) : List Int := if k = 0 then [] else if k ≤ kk then (List.range m).map (fun i => rho ^ ((k - 1) * m + i) % p) else if k = kk + 1 then (List.range i).map (fun i => rho ^ ((k - 1) * m + i) % p) else []
def cfK (rho : Int) (R : List Rw) (m k : Nat) (x : Int) : Int := fsum (fun i => cfA rho R m k i x) m
theorem cfS_eq (rho : Int) (R : List Rw) (m : Nat) (x : Int) : cfS rho R m x = fsum (fun k => cfK rho R m k x) 3 := by
  unfold cfS cfI cfK
  rw [fsum_swap]
def secP (rho pub : Int) (R : List Rw) (m kk i v : Nat) : Int := fsum (fun k => cfK rho R m k ((v : Int) + 1 + pub)) kk + fsum (fun i => cfA rho R m kk i ((v : Int) + 1 + pub)) i
theorem powL_seg {p rho : Int} {m k : Nat} (hk : k < 3) : ((powL p rho (3 * m)).drop (k * m)).take m = (List.range m).map (fun i => rho ^ (k * m + i) % p) := by
  have h : k * m + m ≤ 3 * m := by
    have : (k + 1) * m ≤ 3 * m := Nat.mul_le_mul_right _ (by omega)
    rw [Nat.add_mul, Nat.one_mul] at this; exact this
  apply List.ext_getElem?
  intro i
  rw [List.getElem?_take]
  by_cases hi : i < m
  · rw [if_pos hi, List.getElem?_drop, powL_at (by omega), List.getElem?_map, List.getElem?_range hi]; rfl
  · rw [if_neg hi, List.getElem?_eq_none (by simp; omega)]
@[go_sem] theorem cell_far (w : World) (b o b' o' : Nat) (v : Value) (h : b ≠ b') : (w.setCell ⟨b, o, none⟩ v).cell? ⟨b', o', none⟩ = w.cell? ⟨b', o', none⟩ := World.cell?_setCell_other _ _ _ _ (fun e => h (by have := congrArg Addr.block e; first | exact this | exact this.symm))
structure Cst (W1 wr : World) (VB SB S : Nat) (v' : Nat → Value) (L : Nat → List Int) (f : Nat → Int) : Prop where
  fr : Qfr (fun k => k ≠ 0) W1 wr VB v' L
  v0 : v' 0 = .slice (some ⟨SB, 0, none⟩) S S
  off : ∀ k, k < 4 → k ≠ 0 → (v' k).ownBlock ≠ some SB
  row : Row W1 wr SB S f
  ne : VB ≠ SB
theorem Cst.below {W1 wr : World} {VB SB S : Nat} {v' : Nat → Value} {L : Nat → List Int} {f : Nat → Int} (h : Cst W1 wr VB SB S v' L f) : Below W1.heap.size W1 wr := h.row.below
theorem Cst.go {W1 wr w' : World} {VB SB S : Nat} {v' : Nat → Value} {L : Nat → List Int} {f : Nat → Int} (h : Cst W1 wr VB SB S v' L f) (hb : Below wr.heap.size wr w') : Cst W1 w' VB SB S v' L f := ⟨h.fr.keep hb, h.v0, h.off, h.row.go hb, h.ne⟩
theorem Cst.f {W1 wr : World} {VB SB S : Nat} {v' : Nat → Value} {L L' : Nat → List Int} {f g : Nat → Int} (h : Cst W1 wr VB SB S v' L f) (eL : ∀ k, k < 4 → L k = L' k) (e : ∀ i, i < S → f i = g i) : Cst W1 wr VB SB S v' L' g := ⟨h.fr.congr eL, h.v0, h.off, h.row.congr e, h.ne⟩
theorem Cst.put {W1 wr : World} {VB SB S : Nat} {v' : Nat → Value} {L : Nat → List Int} {f : Nat → Int} (h : Cst W1 wr VB SB S v' L f) (D : Nat) (A : Int) : Cst W1 (wr.setCell ⟨SB, D, none⟩ (.int .u64 A)) VB SB S v' L (fun i => if i = D then A else f i) :=
  ⟨h.fr.aside h.row.ge h.ne (fun k hk hI => h.off k hk hI) _, h.v0, h.off, h.row.put D A, h.ne⟩
theorem Cst.step {W1 w w2 : World} {VB SB S : Nat} {v' : Nat → Value} {L : Nat → List Int} {f : Nat → Int} (h : Cst W1 w VB SB S v' L f) {k n : Nat} {l2 : List Int} {v3 : Value} (hk : k < 4) (hk0 : k ≠ 0) (hU : ∀ x ∈ l2, U x)
    (hG : Grown 22 W1 w2 v3 n ((L k ++ l2).map fun z => Value.int .u64 z)) (hkeep : ∀ j, j < w.heap.size → (v' k).ownBlock ≠ some j → w2.heap[j]? = w.heap[j]?) (hat : v3.ownBlock = (v' k).ownBlock ∨ v3.ownBlock = some w.heap.size) :
    Cst W1 (w2.setCell ⟨VB, k, none⟩ v3) VB SB S (fun j => if j = k then v3 else v' j) (fun j => if j = k then L k ++ l2 else L j) f := by
  have hlt := h.row.row.lt
  refine ⟨h.fr.step hk hk0 hU hG hkeep hat, by rw [if_neg (Ne.symm hk0)]; exact h.v0, fun j hj hj0 => ?_, ⟨Below.put hG.below h.fr.ge _, ?_, h.row.ge⟩, h.ne⟩
  · by_cases e : j = k
    · rw [if_pos e]
      intro e2
      rcases hat with e3 | e3
      · exact h.off k hk hk0 (by rw [← e3]; exact e2)
      · rw [e3] at e2; injection e2 with e2; omega
    · rw [if_neg e]; exact h.off j hj hj0
  · exact (h.row.row.of_block (hkeep SB hlt (h.off k hk hk0))).setOther (Ne.symm h.ne) _

set_option maxHeartbeats 8000000 in
theorem rcoefs_c (B P0 P1 S : Nat) (p q k n r pub vs rho : Int) (u : Option Addr) (c : Nat) (R : List Rw) (w : World) (hv : vld p = true) (hb : 1 ≤ B ∧ B ≤ 256) (hm16 : R.length ≤ 16384) (hpub : 0 ≤ pub) (hs : (S : Int) = vs - 1 - pub) (hvs : vs ≤ 65536)
    (hP0 : P0 ≤ 70000) (hP1 : P1 ≤ 70000) (hR : Rws w u R) (hrho : U rho) (hvar : ∀ r ∈ R, ∀ k, k < 3 → ∀ t ∈ (side k r).l, 0 ≤ t.1 ∧ t.1 < vs) :
    Calls Try.prog 20 #[.agg #[.int .u64 p, .int .i64 (B : Int), .int .i64 q, .int .i64 k, .int .i64 n, .int .i64 (S : Int), .int .i64 r, .int .i64 (P0 : Nat), .int .i64 (P1 : Nat), .int .i64 (P1 : Nat), .int .i64 (P1 : Nat)], .agg #[.int .u64 p, .int .i64 pub, .int .i64 vs, .slice u R.length c], .int .u64 rho] w (GivesMat (cuts B (fun i => if i = 0 then P0 else P1) (cofL p rho pub R S) 4) w) := by
  obtain ⟨m, hm⟩ : ∃ m, R.length = m := ⟨_, rfl⟩
  have hp0 := vld_pos hv
  have kR : Kept (Rws w u R) := ⟨hR⟩
  have e1 : Kept (R.length = m) := ⟨hm⟩
  have kv : Kept (vld p = true) := ⟨hv⟩
  have kvar : Kept (∀ r ∈ R, ∀ k, k < 3 → ∀ t ∈ (side k r).l, 0 ≤ t.1 ∧ t.1 < vs) := ⟨hvar⟩
  have hS6 : S ≤ 65536 := by omega
  have hpub6 : pub ≤ 65536 := by omega
  rw [hm] at hm16 ⊢
  clear hR hm hvar hv
  have hs' : Kept ((S : Int) = vs - 1 - pub) := ⟨hs⟩
  clear hs
  have hmk := run_make_row' (P := Try.prog) 43 22 (.int .u64 0) 8 Try.underlying43 (by kernel_rfl) rfl .i64 .i64 S (by omega) (by omega)
  go_enter Try.func20, Try.ntmps20
  go_wp2
  obtain ⟨W1, hW1⟩ : ∃ W1, W1 = (w.alloc (.cells #[.int .u64 p, .int .i64 (B : Int), .int .i64 q, .int .i64 k, .int .i64 n, .int .i64 (S : Int), .int .i64 r, .int .i64 (P0 : Nat), .int .i64 (P1 : Nat), .int .i64 (P1 : Nat), .int .i64 (P1 : Nat)] 36)).alloc (.cells #[.int .u64 p, .int .i64 pub, .int .i64 vs, .slice u m c] 25) := ⟨_, rfl⟩
  rw [← hW1]
  have hWs : W1.heap.size = w.heap.size + 1 + 1 := by rw [hW1]; simp
  have hB1 : Kept (Below w.heap.size w W1) := ⟨by rw [hW1]; exact (by repeat (first | exact Below.refl _ _ | refine Below.later ?_ _ | refine Below.box ?_ _ | refine Below.drew ?_ | refine Below.put ?_ (by dsimp only; omega) _))⟩
  have kall : Kept (∀ w', Below W1.heap.size W1 w' → (∀ i x, (#[Value.int .u64 p, .int .i64 (B : Int), .int .i64 q, .int .i64 k, .int .i64 n, .int .i64 (S : Int), .int .i64 r, .int .i64 (P0 : Nat), .int .i64 (P1 : Nat), .int .i64 (P1 : Nat), .int .i64 (P1 : Nat)] : Array Value)[i]? = some x → w'.cell? ⟨w.heap.size, i, none⟩ = some x) ∧ w'.cell? ⟨w.heap.size + 1, 0, none⟩ = some (.int .u64 p) ∧ w'.cell? ⟨w.heap.size + 1, 1, none⟩ = some (.int .i64 pub) ∧ w'.cell? ⟨w.heap.size + 1, 3, none⟩ = some (.slice u m c) ∧ w.heap.size < w'.heap.size ∧ w.heap.size + 1 < w'.heap.size) := ⟨fun w' hw => by
    have := hw.size
    refine ⟨fun i x hx => ?_, ?_, ?_, ?_, by omega, by omega⟩
    · rw [hw.cell (p := ⟨w.heap.size, i, none⟩) (by simp only []; omega), hW1, World.cell?_alloc_lt _ _ _ (by simp), World.cell?_alloc_new]; exact hx
    · rw [hw.cell (p := ⟨w.heap.size + 1, 0, none⟩) (by simp only []; omega), hW1]; simp [go_sem]
    · rw [hw.cell (p := ⟨w.heap.size + 1, 1, none⟩) (by simp only []; omega), hW1]; simp [go_sem]
    · rw [hw.cell (p := ⟨w.heap.size + 1, 3, none⟩) (by simp only []; omega), hW1]; simp [go_sem]⟩
  clear hW1
  obtain ⟨VB, hVB⟩ : ∃ VB, VB = w.heap.size + 1 + 1 := ⟨_, rfl⟩
  rw [← hVB] at hWs ⊢
  obtain ⟨SB, hSB⟩ : ∃ SB, SB = VB + 1 := ⟨_, rfl⟩
  rw [← hSB]
  have hC0 : Kept (Cst W1 ((W1.alloc (.cells #[.slice (some ⟨SB, 0, none⟩) S S, .slice none 0 0, .slice none 0 0, .slice none 0 0] 84)).alloc (.cells (madeCells #[.int .u64 0] S) 22)) VB SB S (fun k => if k = 0 then .slice (some ⟨SB, 0, none⟩) S S else .slice none 0 0) (cfV p rho m 0 0) (fun _ => 0)) := ⟨by
    have e0 : ∀ j, j ≠ 0 → cfV p rho m 0 0 j = [] := fun j hj => by unfold cfV; rw [if_neg hj, if_neg (by omega)]; split <;> simp
    refine ⟨⟨fun j hj hI => ?_, fun j hj hI => by rw [if_neg hI]; simp [Value.ownBlock], fun i j b _ _ hI _ _ h => by rw [if_neg hI] at h; simp [Value.ownBlock] at h, ?_, by omega, fun j hj hI x hx => ?_⟩, rfl, fun j hj hI => by rw [if_neg hI]; simp [Value.ownBlock], ⟨(by repeat (first | exact Below.refl _ _ | refine Below.later ?_ _ | refine Below.box ?_ _ | refine Below.drew ?_ | refine Below.put ?_ (by dsimp only; omega) _)), ?_, by omega⟩, by omega⟩
    · rw [e0 j hI, if_neg hI]
      exact (Grown.nil0 _ W1).keep (by repeat (first | exact Below.refl _ _ | refine Below.later ?_ _ | refine Below.box ?_ _ | refine Below.drew ?_ | refine Below.put ?_ (by dsimp only; omega) _))
    · refine World.rowIs.alloc ?_ _
      rw [← hWs]
      exact World.rowIs_alloc W1 #[.slice (some ⟨SB, 0, none⟩) S S, .slice none 0 0, .slice none 0 0, .slice none 0 0] 84 (fun k => if k = 0 then .slice (some ⟨SB, 0, none⟩) S S else .slice none 0 0) (fun i hi => by
        match i, hi with
        | 0, _ => rfl
        | 1, _ => rfl
        | 2, _ => rfl
        | 3, _ => rfl)
    · rw [e0 j hI] at hx; simp at hx
    · have := World.rowIs_made (W1.alloc (.cells #[.slice (some ⟨SB, 0, none⟩) S S, .slice none 0 0, .slice none 0 0, .slice none 0 0] 84)) (.int .u64 0) S 22
      rw [World.size_alloc, hWs, ← hSB] at this
      exact this⟩
  have hlen : Kept (∀ kk i k, i ≤ m → (cfV p rho m kk i k).length ≤ m) := ⟨fun kk i k hi => by unfold cfV; split; simp; split; simp; split <;> simp; exact hi⟩
  have hVw : w.heap.size + 1 < VB := by omega
  clear hVB hSB
  go_loopw [8, 9] (fun vx vk wr => ∃ (kk : Nat) (x : Int) (v' : Nat → Value), vx = .int .u64 x ∧ vk = .int .i64 (kk : Int) ∧ kk ≤ 3 ∧ U x ∧ Kept (x = rho ^ (kk * m) % p) ∧ Kept (Cst W1 wr VB SB S v' (cfV p rho m kk 0) (fun v => (-(secP rho pub R m kk 0 v)) % p))) (fun _ vk _ => (3 - intOf vk).toNat)
  case atStart => exact ⟨0, 1, _, rfl, rfl, by omega, ⟨by decide, by decide⟩, ⟨by rw [Nat.zero_mul, Int.pow_zero]; exact (Int.emod_eq_of_lt (by omega) (by omega)).symm⟩, ⟨hC0.out.f (fun _ _ => rfl) (fun v _ => by simp [secP, fsum])⟩⟩
  case round =>
    clear hC0 hmk
    obtain ⟨kk, x, v', rfl, rfl, hk, hUx, hx, hC⟩ := hrel
    obtain ⟨w1, rfl⟩ : ∃ x, x = wr := ⟨wr, rfl⟩
    by_cases h : kk < 3
    · have hkI : (kk : Int) < 3 := by omega
      obtain ⟨k1, hk1⟩ : ∃ k1, kk + 1 = k1 := ⟨_, rfl⟩
      have hk1I : (kk : Int) + 1 = (k1 : Int) := by omega
      have hk14 : k1 < 4 := by omega
      have hk10 : k1 ≠ 0 := by omega
      have kk1 : Kept (kk + 1 = k1) := ⟨hk1⟩
      clear hk1
      go_wp2
      go_loopw [8, 10] (fun vx vi wr => ∃ (i : Nat) (x : Int) (v' : Nat → Value), vx = .int .u64 x ∧ vi = .int .i64 (i : Int) ∧ i ≤ m ∧ U x ∧ Kept (x = rho ^ (kk * m + i) % p) ∧ Kept (Cst W1 wr VB SB S v' (cfV p rho m kk i) (fun v => (-(secP rho pub R m kk i v)) % p))) (fun _ vi _ => ((m : Int) - intOf vi).toNat)
      case atStart => exact ⟨0, x, v', rfl, rfl, by omega, hUx, ⟨by rw [hx.out]; rfl⟩, hC⟩
      case round =>
        clear hC hx hUx
        obtain ⟨i, x, v2, rfl, rfl, hi, hUx, hx, hC⟩ := hrel
        obtain ⟨w2, rfl⟩ : ∃ x, x = wr := ⟨wr, rfl⟩
        have hB := hC.out.below
        obtain ⟨_, s0, s1, s3, lt0, lt1⟩ := kall.out w2 hB
        have hBw : Kept (Below w.heap.size w w2) := ⟨Below.next hB1.out hB⟩
        by_cases h2 : i < m
        · obtain ⟨b1, o1, rw', rfl, hx1, hb1, hc1, hc2, hc3, ha, hb', hc'⟩ := kR.out.get e1.out i h2
          have hRi : R.getD i rw0 = rw' := by rw [List.getD, hx1]; rfl
          have hmem := List.mem_of_getElem? hx1
          have hvk : w2.cell? ⟨VB, k1, none⟩ = some (v2 k1) := hC.out.fr.arr.cell hk14
          have hfk : w2.frozen? ⟨VB, k1, none⟩ = false := hC.out.fr.arr.frozen k1
          have hVlt : VB < w2.heap.size := hC.out.fr.arr.lt
          obtain ⟨nl, hnl⟩ : ∃ nl, (cfV p rho m kk i k1).length = nl := ⟨_, rfl⟩
          have hnl6 : nl ≤ 16384 := by rw [← hnl]; have := hlen.out kk i k1 hi; omega
          have hGk : Kept (Grown 22 W1 w2 (v2 k1) nl ((cfV p rho m kk i k1).map fun z => Value.int .u64 z)) := ⟨by rw [← hnl]; exact hC.out.fr.own k1 hk14 hk10⟩
          have hnl' := (⟨hnl⟩ : Kept _)
          clear hnl hB
          go_wp2_with (first | (at_builtin; refine wpList_pushL (W := W1) rfl _ _ rfl _ (cfV p rho m kk i k1) nl hnl'.out (hGk.out.box _) rfl (some ⟨w2.heap.size, 0, none⟩) [x] 1 1 rfl rfl (Ls.new w2 _ _ [x] rfl (by simp) (by intro y hy; rw [List.mem_singleton] at hy; subst hy; exact hUx)) (by intro e; cases e) (by omega) ?_; intro v3 w3 hG hkeep hsz hat; refine Stop.out ?_))
          refine ⟨?_⟩
          have hst : Kept (Cst W1 (w3.setCell ⟨VB, k1, none⟩ v3) VB SB S (fun j => if j = k1 then v3 else v2 j) (cfV p rho m kk (i + 1)) (fun v => (-(secP rho pub R m kk i v)) % p)) := ⟨((hC.out.go ((Below.refl _ w2).alloc (Nat.le_refl _) _)).step hk14 hk10 (fun y hy => by rw [List.mem_singleton] at hy; subst hy; exact hUx) hG hkeep hat).f (fun j hj => by
            have hk1 := kk1.out
            by_cases e : j = k1
            · subst e
              rw [if_pos rfl]
              unfold cfV
              rw [if_neg (by omega), if_neg (by omega), if_pos (by omega), if_neg (by omega), if_neg (by omega), if_pos (by omega), List.range_succ, List.map_append, hx.out, show j - 1 = kk by omega]; rfl
            · rw [if_neg e]; unfold cfV
              by_cases e0 : j = 0
              · simp [e0]
              · rw [if_neg e0, if_neg e0]
                by_cases e1 : j ≤ kk
                · rw [if_pos e1, if_pos e1]
                · rw [if_neg e1, if_neg e1, if_neg (by omega), if_neg (by omega)]) (fun _ _ => rfl)⟩
          have hB3 := hG.below
          have hk3b : ∀ j, j < w2.heap.size → (v2 k1).ownBlock ≠ some j → w3.heap[j]? = w2.heap[j]? := fun j hj hne => by
            rw [hkeep j (by rw [World.size_alloc]; omega) hne, Go.Deep.blk_alloc_lt _ _ _ hj]
          have h3i : w3.cell? ⟨VB, k1, none⟩ = some (v2 k1) := by
            rw [World.cell?_of_block (w := w2) (a := ⟨VB, k1, none⟩) (hk3b VB hVlt (hC.out.fr.off k1 hk14 hk10))]; exact hvk
          have h3f : w3.frozen? ⟨VB, k1, none⟩ = false := by
            rw [World.frozen?_of_block (hk3b VB hVlt (hC.out.fr.off k1 hk14 hk10))]; exact hfk
          have hV3 : VB < w3.heap.size := by rw [World.size_alloc] at hsz; omega
          obtain ⟨x3, y3, z3, rfl⟩ : ∃ x y z, v3 = .slice x y z := by
            obtain ⟨x, y, e, _⟩ := hG.form
            exact ⟨_, _, _, e⟩
          obtain ⟨_, r0, r1, r3, lt2, lt3⟩ := kall.out w3 hB3
          have hBw3 : Below w.heap.size w w3 := Below.next hB1.out hB3
          have c1 : w3.cell? ⟨b1, o1 + i * 3, none⟩ = some rw'.a.v := by rw [hBw3.cell (p := ⟨b1, o1 + i * 3, none⟩) hb1]; exact hc1
          have c2 : w3.cell? ⟨b1, o1 + i * 3 + 1, none⟩ = some rw'.b.v := by rw [hBw3.cell (p := ⟨b1, o1 + i * 3 + 1, none⟩) hb1]; exact hc2
          have c3 : w3.cell? ⟨b1, o1 + i * 3 + 2, none⟩ = some rw'.c.v := by rw [hBw3.cell (p := ⟨b1, o1 + i * 3 + 2, none⟩) hb1]; exact hc3
          have hb1w : b1 < w3.heap.size := by have := hBw3.size; omega
          have hn1 : VB ≠ w.heap.size + 1 := by omega
          have hn2 : VB ≠ b1 := by omega
          have csd : Kept (∀ w, Calls Try.prog 42 #[.agg #[rw'.a.v, rw'.b.v, rw'.c.v]] w (Gives (.agg #[rw'.a.v, rw'.b.v, rw'.c.v]) w)) := ⟨fun w => sides_c rw' w⟩
          obtain ⟨tu, htu⟩ : ∃ y, (side kk rw').u = y := ⟨_, rfl⟩
          obtain ⟨tc, htc⟩ : ∃ y, (side kk rw').c = y := ⟨_, rfl⟩
          obtain ⟨tl, htl⟩ : ∃ y, (side kk rw').l = y := ⟨_, rfl⟩
          obtain ⟨tn, htn⟩ : ∃ y, tl.length = y := ⟨_, rfl⟩
          have hidx : ∀ w, (Instr.index 81 (.agg #[rw'.a.v, rw'.b.v, rw'.c.v]) (.int .i64 (kk : Int))).run Try.prog w = .ok (.slice tu tn tc) w := fun w => by
            have := lidx_c kk h rw' w
            have e : (side kk rw').v = .slice tu tn tc := by
              show Value.slice (side kk rw').u (side kk rw').l.length (side kk rw').c = _
              rw [htu, htc, htl, htn]
            rw [e] at this; exact this
          have hTm : Tm w tu tl := by
            rw [← htu, ← htl]
            match kk, h with
            | 0, _ => exact ha
            | 1, _ => exact hb'
            | 2, _ => exact hc'
          have htn7 : (tn : Int) ≤ 9223372036854775807 := by rw [← htn]; exact hTm.small
          have kT := (⟨hTm.get htn⟩ : Kept _)
          have ktv : Kept (∀ t ∈ tl, 0 ≤ t.1 ∧ t.1 < vs) := ⟨by rw [← htl]; exact kvar.out rw' hmem kk h⟩
          have ktl : Kept (tl.length = tn) := ⟨htn⟩
          obtain ⟨e, he⟩ : ∃ e, kk * m + i = e := ⟨_, rfl⟩
          have hcf : Kept (∀ y, cfA rho R m kk i y = rho ^ e * trm tl y) := ⟨fun y => by rw [cfA, hRi, htl, he]⟩
          have hxe : Kept (x = rho ^ e % p) := ⟨by rw [← he]; exact hx.out⟩
          have he' : Kept (kk * m + i = e) := ⟨he⟩
          clear ha hb' hc' hx1 hc1 hc2 hc3 hb1 hRi hmem hC hG hkeep hsz hat hGk hvk hfk hVlt hk3b hB3 hBw3 hBw s0 s1 s3 lt0 lt1 htu htc htl htn hTm he hx hnl'
          simp only [Lin.v] at *
          generalize rw'.a.l.length = an at *
          generalize rw'.b.l.length = bn at *
          generalize rw'.c.l.length = cn at *
          generalize rw'.a.u = au at *
          generalize rw'.b.u = bu at *
          generalize rw'.c.u = cu at *
          generalize rw'.a.c = ac at *
          generalize rw'.b.c = bc at *
          generalize rw'.c.c = cc at *
          go_wp2_with (first | (go_at_call 42; (first | with_reducible refine use1 (csd.out _) ?_ | with_reducible refine use (csd.out _) ?_); intro pw))
          clear h3i h3f r0 r1 r3 c1 c2 c3 lt2 lt3 hV3 hb1w
          go_loopw [12] (fun vt wr => ∃ (t : Nat) (v4 : Nat → Value), vt = .int .i64 (t : Int) ∧ t ≤ tn ∧ Kept (Cst W1 wr VB SB S v4 (cfV p rho m kk (i + 1)) (fun v => (-(secP rho pub R m kk i v + rho ^ e * trm (tl.take t) ((v : Int) + 1 + pub))) % p))) (fun vt _ => ((tn : Int) - intOf vt).toNat)
          case atStart => exact ⟨0, _, rfl, by omega, ⟨(hst.out.go (by repeat (first | exact Below.refl _ _ | refine Below.later ?_ _ | refine Below.box ?_ _ | refine Below.drew ?_ | refine Below.put ?_ (by dsimp only; omega) _))).f (fun _ _ => rfl) (fun v _ => by simp [trm])⟩⟩
          case round =>
            clear hst
            obtain ⟨t, v4, rfl, ht, hC⟩ := hrel
            obtain ⟨w5, rfl⟩ : ∃ x, x = wr := ⟨wr, rfl⟩
            have hB := hC.out.below
            obtain ⟨_, s0, s1, _, lt0, lt1⟩ := kall.out w5 hB
            by_cases h3 : t < tn
            · obtain ⟨b4, o4, y, z, rfl, hy1, hb4, hyc, hzc, hY, hZ⟩ := kT.out t h3
              have hBw := Below.next hB1.out hB
              have hyr := ktv.out _ (List.mem_of_getElem? hy1)
              have hy0 : 0 ≤ y := hyr.1
              have hyv : y < vs := hyr.2
              have hyc' : w5.cell? ⟨b4, o4 + t * 2, none⟩ = some (.int .i64 y) := by rw [hBw.cell (p := ⟨b4, o4 + t * 2, none⟩) hb4]; exact hyc
              have hzc' : w5.cell? ⟨b4, o4 + t * 2 + 1, none⟩ = some (.int .u64 z) := by rw [hBw.cell (p := ⟨b4, o4 + t * 2 + 1, none⟩) hb4]; exact hzc
              have hb4w : b4 < w5.heap.size := by have := hBw.size; omega
              obtain ⟨d, hd⟩ : ∃ d, y - 1 - pub = d := ⟨_, rfl⟩
              have hd1 : -70000 ≤ d ∧ d ≤ 70000 := by omega
              have hdS : d < (S : Int) := by have := hs'.out; omega
              have hy6 : y ≤ 65536 := by omega
              have htr : Kept (∀ a, trm (tl.take (t + 1)) a = trm (tl.take t) a + if y = a then z else 0) := ⟨fun a => trm_next hy1 a⟩
              have hUz : Kept (U z) := ⟨hZ⟩
              have hltS := hC.out.row.row.lt
              have hltV := hC.out.fr.arr.lt
              have hg0 : w5.cell? ⟨VB, 0, none⟩ = some (.slice (some ⟨SB, 0, none⟩) S S) := by rw [hC.out.fr.arr.cell (by omega), hC.out.v0]
              clear hyc hzc hy1 hb4 hyr hY hZ hyv hBw
              by_cases g1 : 0 ≤ d
              · obtain ⟨D, rfl⟩ : ∃ D : Nat, d = D := ⟨d.toNat, by omega⟩
                have hDS : D < S := by omega
                obtain ⟨ov, hov⟩ : ∃ ov, (-(secP rho pub R m kk i D + rho ^ e * trm (tl.take t) ((D : Int) + 1 + pub))) % p = ov := ⟨_, rfl⟩
                have hoc := hC.out.row.row.cell hDS
                rw [hov] at hoc
                have hof := hC.out.row.row.frozen D
                have hovU : U ov := by rw [← hov]; exact ⟨Int.emod_nonneg _ (by omega), by have := Int.emod_lt_of_pos (-(secP rho pub R m kk i D + rho ^ e * trm (tl.take t) ((D : Int) + 1 + pub))) (show 0 < p by omega); omega⟩
                have cm : Kept (∀ w, Calls Try.prog 44 #[.int .u64 p, .int .u64 x, .int .u64 z] w (Gives (.int .u64 (fmul p x z)) w)) := ⟨fun w => rmul_c p x z w hUx hUz.out⟩
                have cs : Kept (∀ w, Calls Try.prog 43 #[.int .u64 p, .int .u64 ov, .int .u64 (fmul p x z)] w (Gives (.int .u64 (fsub p ov (fmul p x z))) w)) := ⟨fun w => rsub_c p ov _ w hovU fmul_U⟩
                have hA : fsub p ov (fmul p x z) = (-(secP rho pub R m kk i D + rho ^ e * trm (tl.take (t + 1)) ((D : Int) + 1 + pub))) % p := by
                  rw [← hov, hxe.out, cf_step kv.out, htr.out, if_pos (by omega), Int.mul_add, Int.add_assoc]
                obtain ⟨A, hAe⟩ : ∃ A, fsub p ov (fmul p x z) = A := ⟨_, rfl⟩
                have hI2 : Kept (∀ v, v < S → (if v = D then A else (-(secP rho pub R m kk i v + rho ^ e * trm (tl.take t) ((v : Int) + 1 + pub))) % p) = (-(secP rho pub R m kk i v + rho ^ e * trm (tl.take (t + 1)) ((v : Int) + 1 + pub))) % p) := ⟨fun v hv' => by
                  by_cases hvD : v = D
                  · subst hvD; rw [if_pos rfl, ← hAe, hA]
                  · rw [if_neg hvD, htr.out, if_neg (by omega), Int.add_zero]⟩
                rw [hAe] at cs
                clear hA hov hAe hovU htr hB
                generalize fmul p x z = MM at *
                go_wp2
                first | refine region_quiet1 (by kernel_rfl) ?_ | refine region_quiet (by kernel_rfl) ?_
                repeat (go_big_quiet_step (first | fail))
                refine wpQuiet_nil ?_
                intro _
                go_wp2
                first | refine region_tail1 (by kernel_rfl) (by kernel_rfl) (by kernel_rfl) ?_ | refine region_tail (by kernel_rfl) (by kernel_rfl) (by kernel_rfl) ?_
                simp only [initOf, lastOf]
                repeat (go_big_quiet_step (first | (go_at_call 44; with_reducible exact quiet (cm.out _)) | (go_at_call 43; with_reducible exact quiet (cs.out _))))
                refine wpQuiet_nil ?_
                intro _
                go_wp2
                go_roundw
                case rel => exact ⟨t + 1, v4, by go_num, by omega, ⟨((hC.out.go (by repeat (first | exact Below.refl _ _ | refine Below.later ?_ _ | refine Below.box ?_ _ | refine Below.drew ?_ | refine Below.put ?_ (by dsimp only; omega) _))).put D A).f (fun _ _ => rfl) hI2.out⟩⟩
                case measure => first | (simp [intOf]; omega) | (simp [intOf]; done)
              · have g3 : decide (d ≥ (0 : Int)) = false := by simp; omega
                have g4 : decide (0 ≤ d) = false := by simp; omega
                have hI2 : Kept (∀ v, v < S → (-(secP rho pub R m kk i v + rho ^ e * trm (tl.take t) ((v : Int) + 1 + pub))) % p = (-(secP rho pub R m kk i v + rho ^ e * trm (tl.take (t + 1)) ((v : Int) + 1 + pub))) % p) := ⟨fun v hv' => by
                  rw [htr.out, if_neg (by omega), Int.add_zero]⟩
                clear htr hB
                go_wp2
                first | refine region_quiet1 (by kernel_rfl) ?_ | refine region_quiet (by kernel_rfl) ?_
                repeat (go_big_quiet_step (first | fail))
                refine wpQuiet_nil ?_
                intro _
                go_wp2
                go_roundw
                case rel => exact ⟨t + 1, v4, by go_num, by omega, ⟨(hC.out.go (by repeat (first | exact Below.refl _ _ | refine Below.later ?_ _ | refine Below.box ?_ _ | refine Below.drew ?_ | refine Below.put ?_ (by dsimp only; omega) _))).f (fun _ _ => rfl) hI2.out⟩⟩
                case measure => first | (simp [intOf]; omega) | (simp [intOf]; done)
            · have htt : t = tn := by omega
              have hR3 : Kept (Cst W1 w5 VB SB S v4 (cfV p rho m kk (i + 1)) (fun v => (-(secP rho pub R m kk (i + 1) v)) % p)) := ⟨hC.out.f (fun _ _ => rfl) (fun v _ => by
                rw [htt, List.take_of_length_le (by rw [ktl.out]; omega), secP, secP, fsum, hcf.out, Int.add_assoc])⟩
              have cx : Kept (∀ w, Calls Try.prog 44 #[.int .u64 p, .int .u64 x, .int .u64 rho] w (Gives (.int .u64 (fmul p x rho)) w)) := ⟨fun w => rmul_c p x rho w hUx hrho⟩
              have hX : Kept (fmul p x rho = rho ^ (kk * m + (i + 1)) % p) := ⟨by rw [hxe.out, pow_step kv.out, ← he'.out]; rfl⟩
              have hXU : U (fmul p x rho) := fmul_U
              clear hC hB
              generalize fmul p x rho = X at *
              go_wp2_with (first | (go_at_call 44; (first | with_reducible refine use1 (cx.out _) ?_ | with_reducible refine use (cx.out _) ?_); intro pw))
              go_roundw
              case rel => exact ⟨i + 1, X, v4, rfl, by go_num, by omega, hXU, hX, ⟨hR3.out.go (by repeat (first | exact Below.refl _ _ | refine Below.later ?_ _ | refine Below.box ?_ _ | refine Below.drew ?_ | refine Below.put ?_ (by dsimp only; omega) _))⟩⟩
              case measure => first | (simp [intOf]; omega) | (simp [intOf]; done)
        · have him : i = m := by omega
          have hC2 : Kept (Cst W1 w2 VB SB S v2 (cfV p rho m (kk + 1) 0) (fun v => (-(secP rho pub R m (kk + 1) 0 v)) % p)) := ⟨hC.out.f (fun j hj => by
            unfold cfV
            by_cases e0 : j = 0
            · simp [e0]
            · rw [if_neg e0, if_neg e0]
              by_cases e1 : j ≤ kk
              · rw [if_pos e1, if_pos (by omega)]
              · rw [if_neg e1]
                by_cases e2 : j = kk + 1
                · rw [if_pos e2, if_pos (by omega), him]
                · rw [if_neg e2, if_neg (by omega)]; split <;> simp) (fun v _ => by rw [him, secP, secP]; simp [fsum, cfK])⟩
          have hx2 : Kept (x = rho ^ ((kk + 1) * m) % p) := ⟨by rw [hx.out, him, Nat.add_mul, Nat.one_mul]⟩
          clear hC hx hB
          go_wp2
          go_roundw
          case rel => exact ⟨kk + 1, x, v2, rfl, by go_num, by omega, hUx, hx2, hC2⟩
          case measure => first | (simp [intOf]; omega) | (simp [intOf]; done)
    · have hk3 : kk = 3 := by omega
      subst hk3
      have hB := hC.out.below
      obtain ⟨kl, _, _, _, lt0, lt1⟩ := kall.out w1 hB
      have l0 := kl 0 _ rfl
      have l1 := kl 1 _ rfl
      have l2 := kl 2 _ rfl
      have l3 := kl 3 _ rfl
      have l4 := kl 4 _ rfl
      have l5 := kl 5 _ rfl
      have l6 := kl 6 _ rfl
      have l7 := kl 7 _ rfl
      have l8 := kl 8 _ rfl
      have l9 := kl 9 _ rfl
      have l10 := kl 10 _ rfl
      have hcz : ∀ k, k < 3 → cfV p rho m 3 0 (k + 1) = cofL p rho pub R S (k + 1) := fun k hk => by
        unfold cfV cofL
        rw [if_neg (by omega), if_pos (by omega), if_neg (by omega), e1.out, Nat.add_sub_cancel, powL_seg hk]
      have hcn : ∀ k, k < 3 → (cofL p rho pub R S (k + 1)).length = m := fun k hk => by
        rw [← hcz k hk]; unfold cfV; rw [if_neg (by omega), if_pos (by omega)]; simp
      have hc0 : (cofL p rho pub R S 0).length = S := by simp [cofL, secL]
      have hL0 : Ls w1 (some ⟨SB, 0, none⟩) (cofL p rho pub R S 0) := by
        rw [cofL, if_pos rfl]
        exact Ls.row (t := 22) (n := S) (hC.out.row.row.congr fun v hv' => by rw [secL_at hv', cfS_eq, e1.out]; simp [secP, fsum]) (by simp [secL]) (by simp [secL]; omega) (fun x hx => by
          simp only [secL, List.mem_map] at hx
          obtain ⟨v, _, rfl⟩ := hx
          exact ⟨Int.emod_nonneg _ (by omega), by have := Int.emod_lt_of_pos (-(cfS rho R R.length ((v : Int) + 1 + pub))) (show 0 < p by omega); omega⟩)
      have hrow : ∀ k, k < 3 → ∃ uk ck, v' (k + 1) = .slice uk m ck ∧ Ls w1 uk (cofL p rho pub R S (k + 1)) := fun k hk => by
        have hG := hC.out.fr.own (k + 1) (by omega) (by omega)
        rw [hcz k hk, hcn k hk] at hG
        obtain ⟨uk, ck, e, _⟩ := hG.form
        rw [e] at hG
        refine ⟨uk, ck, e, (hG.ls (l := cofL p rho pub R S (k + 1)) rfl (by omega) (fun x hx => ?_)).1⟩
        rw [← hcz k hk] at hx
        exact hC.out.fr.all (k + 1) (by omega) (by omega) x hx
      obtain ⟨u1, c1, ev1, hL1⟩ := hrow 0 (by omega)
      obtain ⟨u2, c2, ev2, hL2⟩ := hrow 1 (by omega)
      obtain ⟨u3, c3, ev3, hL3⟩ := hrow 2 (by omega)
      have g0 : w1.cell? ⟨VB, 0, none⟩ = some (.slice (some ⟨SB, 0, none⟩) S S) := by rw [hC.out.fr.arr.cell (by omega), hC.out.v0]
      have g1 : w1.cell? ⟨VB, 1, none⟩ = some (.slice u1 m c1) := by rw [hC.out.fr.arr.cell (by omega), ev1]
      have g2 : w1.cell? ⟨VB, 2, none⟩ = some (.slice u2 m c2) := by rw [hC.out.fr.arr.cell (by omega), ev2]
      have g3 : w1.cell? ⟨VB, 3, none⟩ = some (.slice u3 m c3) := by rw [hC.out.fr.arr.cell (by omega), ev3]
      have cc : Kept (Calls Try.prog 45 #[.agg #[.int .u64 p, .int .i64 (B : Int), .int .i64 q, .int .i64 k, .int .i64 n, .int .i64 (S : Int), .int .i64 r, .int .i64 (P0 : Nat), .int .i64 (P1 : Nat), .int .i64 (P1 : Nat), .int .i64 (P1 : Nat)],
          .agg #[.slice (some ⟨SB, 0, none⟩) S S, .slice u1 m c1, .slice u2 m c2, .slice u3 m c3]] w1 (GivesMat (cuts B (fun i => if i = 0 then P0 else P1) (cofL p rho pub R S) 4) w1)) := ⟨by
        have := cut_c B (fun i => if i = 0 then P0 else P1) (fun j => if j = 0 then some ⟨SB, 0, none⟩ else if j = 1 then u1 else if j = 2 then u2 else u3) (fun j => if j = 0 then S else if j = 1 then c1 else if j = 2 then c2 else c3) (cofL p rho pub R S) p q k n S r w1 hb (fun i => by split <;> omega) (fun j hj => by
          match j, hj with
          | 0, _ => exact hL0
          | 1, _ => exact hL1
          | 2, _ => exact hL2
          | 3, _ => exact hL3)
        rw [hc0, hcn 0 (by omega), hcn 1 (by omega), hcn 2 (by omega)] at this
        exact this⟩
      have hVl := hC.out.fr.arr.lt
      have hBw : Kept (Below w.heap.size w w1) := ⟨Below.next hB1.out hB⟩
      clear hC hL0 hL1 hL2 hL3 hrow ev1 ev2 ev3 hcz hcn hc0 kl hB
      go_wp2_with (first | (go_at_call 45; refine cc.out.mono ?_; rintro e w4 ⟨vm, bsm, rfl, hM⟩; refine Stop.out ?_))
      refine ⟨?_⟩
      go_wp2
      go_ret
      exact ⟨vm, bsm, rfl, hM.base hBw.out⟩
end Go.Proofs.Ytpkjlnelkacbgaa
