/- layout.Coefs, where the layout is the table's. -/
import Derived.Test.YtpkjlnelkacbgaaHLct
import Derived.Test.YtpkjlnelkacbgaaHTgt
import Derived.StillTailTactics
namespace Go.Proofs.Ytpkjlnelkacbgaa
open Go.RowKit Go.Sort

set_option maxRecDepth 100000
/-- The sum of the coefficients of a variable. -/
def trm : List (Int × Int) → Int → Int
  | [], _ => 0
  | t :: l, x => (if t.1 = x then t.2 else 0) + trm l x
theorem trm_append : ∀ (l : List (Int × Int)) (t : Int × Int) (x : Int), trm (l ++ [t]) x = trm l x + if t.1 = x then t.2 else 0
  | [], t, x => by simp [trm]
  | s :: l, t, x => by simp only [List.cons_append, trm, trm_append l t x]; omega
theorem trm_next {l : List (Int × Int)} {k : Nat} {t : Int × Int} (h : l[k]? = some t) (x : Int) : trm (l.take (k + 1)) x = trm (l.take k) x + if t.1 = x then t.2 else 0 := by
  rw [List.take_add_one, h]; exact trm_append _ _ _
def cfA (rho : Int) (R : List Rw) (m k i : Nat) (x : Int) : Int := rho ^ (k * m + i) * trm (side k (R.getD i rw0)).l x
def cfI (rho : Int) (R : List Rw) (m i : Nat) (x : Int) : Int := fsum (fun k => cfA rho R m k i x) 3
def cfS (rho : Int) (R : List Rw) (m : Nat) (x : Int) : Int := fsum (fun i => cfI rho R m i x) m
def secL (p rho pub : Int) (R : List Rw) (S : Nat) : List Int := (List.range S).map fun (v : Nat) => (-(cfS rho R R.length ((v : Int) + 1 + pub))) % p
def cofL (p rho pub : Int) (R : List Rw) (S k : Nat) : List Int := if k = 0 then secL p rho pub R S else ((powL p rho (3 * R.length)).drop ((k - 1) * R.length)).take R.length
theorem cf_step {p : Int} (hv : vld p = true) (S v rho : Int) (e : Nat) : fsub p ((-S) % p) (fmul p (rho ^ e % p) v) = (-(S + rho ^ e * v)) % p := by
  unfold fsub fmul; rw [if_pos hv, if_pos hv]
  rw [show -(S + rho ^ e * v) = -S - rho ^ e * v by omega]
  simp [Int.sub_emod, Int.mul_emod]
theorem secL_at {p rho pub : Int} {R : List Rw} {S : Nat} {v : Nat} (h : v < S) : (secL p rho pub R S).getD v 0 = (-(cfS rho R R.length ((v : Int) + 1 + pub))) % p := by
  rw [List.getD, secL, List.getElem?_map, List.getElem?_range h]; rfl

def secF (rho pub : Int) (R : List Rw) (m i v : Nat) : Int := fsum (fun i => cfI rho R m i ((v : Int) + 1 + pub)) i
def secG (rho pub : Int) (R : List Rw) (m i j v : Nat) : Int := secF rho pub R m i v + fsum (fun k => cfA rho R m k i ((v : Int) + 1 + pub)) j
theorem Row.box {w wr : World} {b n : Nat} {f : Nat → Int} (h : Row w wr b n f) (o : Obj) : Row w (wr.alloc o) b n f := ⟨Below.box h.below o, h.row.alloc o, h.ge⟩
theorem Row.go {w wr w' : World} {b n : Nat} {f : Nat → Int} (h : Row w wr b n f) (hb : Below wr.heap.size wr w') : Row w w' b n f := ⟨Below.next h.below hb, h.row.of_block (hb.block b h.row.lt), h.ge⟩

set_option maxHeartbeats 8000000 in
theorem lcoefs_c (B P0 P1 S : Nat) (p q k n pub vs rho : Int) (u : Option Addr) (c : Nat) (R : List Rw) (w : World) (hv : vld p = true) (hb : 1 ≤ B ∧ B ≤ 256) (hm16 : R.length ≤ 16384) (hpub : 0 ≤ pub) (hs : (S : Int) = vs - 1 - pub) (hvs : vs ≤ 65536)
    (hP0 : ((S : Int) + (B : Int) - 1) / (B : Int) = P0) (hP1 : ((R.length : Int) + (B : Int) - 1) / (B : Int) = P1) (hR : Rws w u R) (hrho : U rho) (hvar : ∀ r ∈ R, ∀ k, k < 3 → ∀ t ∈ (side k r).l, 0 ≤ t.1 ∧ t.1 < vs) :
    Calls Try.prog 19 #[.agg #[.int .u64 p, .int .i64 (B : Int), .int .i64 q, .int .i64 k, .int .i64 n, .int .i64 (S : Int), .int .i64 R.length, .int .i64 (P0 : Nat), .int .i64 (P1 : Nat), .int .i64 (P1 : Nat), .int .i64 (P1 : Nat)], .agg #[.int .u64 p, .int .i64 pub, .int .i64 vs, .slice u R.length c], .int .u64 rho] w (GivesMat (cuts B (fun i => upl B (cofL p rho pub R S i).length) (cofL p rho pub R S) 4) w) := by
  obtain ⟨m, hm⟩ : ∃ m, R.length = m := ⟨_, rfl⟩
  have hp0 := vld_pos hv
  have hP0' : P0 ≤ 70000 := by have : ((S : Int) + (B : Int) - 1) / (B : Int) ≤ 70000 := Int.le_trans (Int.ediv_le_self _ (by omega)) (by omega); omega
  have hP1' : P1 ≤ 70000 := by have : ((R.length : Int) + (B : Int) - 1) / (B : Int) ≤ 70000 := Int.le_trans (Int.ediv_le_self _ (by omega)) (by omega); omega
  have cb : Kept (∀ w', Calls Try.prog 37 #[.agg #[.int .u64 p, .int .i64 (B : Int), .int .i64 q, .int .i64 k, .int .i64 n, .int .i64 (S : Int), .int .i64 R.length, .int .i64 (P0 : Nat), .int .i64 (P1 : Nat), .int .i64 (P1 : Nat), .int .i64 (P1 : Nat)], .agg #[.int .u64 p, .int .i64 pub, .int .i64 vs, .slice u R.length c]] w' (Gives (.bool true) w')) := ⟨fun w' => belongs_c p B q k n S P0 P1 pub vs R.length u c w' hv (by omega) hm16 hpub ⟨by omega, hs⟩ hvs hP0 hP1⟩
  have kR : Kept (Rws w u R) := ⟨hR⟩
  have e1 : Kept (R.length = m) := ⟨hm⟩
  have kvar : Kept (∀ r ∈ R, ∀ k, k < 3 → ∀ t ∈ (side k r).l, 0 ≤ t.1 ∧ t.1 < vs) := ⟨hvar⟩
  have hS6 : S ≤ 65536 := by omega
  have hpub6 : pub ≤ 65536 := by omega
  obtain ⟨N3, hN3⟩ : ∃ N : Nat, 3 * m = N := ⟨_, rfl⟩
  have hw3 : IntKind.i64.wrap (3 * (m : Int)) = (N3 : Int) := by rw [IntKind.wrap_i64]; omega
  rw [hm] at cb hm16 ⊢
  clear hR hm hP0 hP1 hs hvar
  have cpw : Kept (∀ W', Calls Try.prog 38 #[.agg #[.int .u64 p], .int .u64 rho, .int .i64 (N3 : Int)] W' (GivesN N3 (powL p rho N3) W')) := ⟨fun W' => givesN (by simp [powL]) (powers_c p rho N3 W' hrho hv (by omega))⟩
  have hmk := run_make_row' (P := Try.prog) 43 22 (.int .u64 0) 8 Try.underlying43 (by kernel_rfl) rfl .i64 .i64 S (by omega) (by omega)
  go_enter Try.func19, Try.ntmps19
  go_wp2_with (first | (go_at_call 37; (first | with_reducible refine use1 (cb.out _) ?_ | with_reducible refine use (cb.out _) ?_); intro pw) | (go_at_call 38; refine Stop.out ?_))
  refine ⟨?_⟩
  refine call_gen (fun W' => Below w.heap.size w W' ∧ (∀ i x, (#[Value.int .u64 p, .int .i64 (B : Int), .int .i64 q, .int .i64 k, .int .i64 n, .int .i64 (S : Int), .int .i64 (m : Int), .int .i64 (P0 : Nat), .int .i64 (P1 : Nat), .int .i64 (P1 : Nat), .int .i64 (P1 : Nat)] : Array Value)[i]? = some x → W'.cell? ⟨w.heap.size, i, none⟩ = some x) ∧ W'.cell? ⟨w.heap.size + 1, 1, none⟩ = some (.int .i64 pub) ∧ W'.cell? ⟨w.heap.size + 1, 3, none⟩ = some (.slice u m c) ∧ W'.cell? ⟨w.heap.size + 1 + 1 + pw.os.size, 0, none⟩ = some (.int .u64 p) ∧ w.heap.size + 1 + 1 + pw.os.size < W'.heap.size) ?fx ?_
  case fx => exact ⟨(by repeat (first | exact Below.refl _ _ | refine Below.later ?_ _ | refine Below.box ?_ _ | refine Below.drew ?_ | refine Below.put ?_ (by dsimp only; omega) _)), fun i x hx => by rw [World.cell?_alloc_lt _ _ _ (by simp), after_cell _ _ _ _ (by simp), World.cell?_alloc_lt _ _ _ (by simp), World.cell?_alloc_new]; exact hx, by simp [go_sem], by simp [go_sem], by simp [go_sem], by simp⟩
  rintro W1 ⟨hB0, gl, g1, g3, gf, hlt⟩
  clear cb
  generalize w.heap.size + 1 + 1 + pw.os.size = FB at *
  refine useN (cpw.out W1) ?_
  intro q1 B1 hl1
  obtain ⟨W2, hW2⟩ : ∃ W2, W2 = after W1 q1 := ⟨_, rfl⟩
  rw [← hW2] at hl1 ⊢
  have hB2 : Kept (Below w.heap.size w W2) := ⟨by rw [hW2]; exact Below.later hB0 _⟩
  have hsz2 : W1.heap.size ≤ W2.heap.size := by rw [hW2, after_size]; omega
  have hsz1 := hB0.size
  have h1' : w.heap.size + 1 < W2.heap.size := by
    have := World.block_lt_of_cell? W1 ⟨w.heap.size + 1, 1, none⟩ g1
    simp only at this
    omega
  have kall : Kept (∀ w', Below W2.heap.size W2 w' → (∀ i x, (#[Value.int .u64 p, .int .i64 (B : Int), .int .i64 q, .int .i64 k, .int .i64 n, .int .i64 (S : Int), .int .i64 (m : Int), .int .i64 (P0 : Nat), .int .i64 (P1 : Nat), .int .i64 (P1 : Nat), .int .i64 (P1 : Nat)] : Array Value)[i]? = some x → w'.cell? ⟨w.heap.size, i, none⟩ = some x) ∧ w'.cell? ⟨w.heap.size + 1, 1, none⟩ = some (.int .i64 pub) ∧ w'.cell? ⟨w.heap.size + 1, 3, none⟩ = some (.slice u m c) ∧ w'.cell? ⟨FB, 0, none⟩ = some (.int .u64 p) ∧ w.heap.size < w'.heap.size ∧ w.heap.size + 1 < w'.heap.size ∧ FB < w'.heap.size) := ⟨fun w' hw => by
    have hw1 := World.block_lt_of_cell? W1 ⟨w.heap.size + 1, 1, none⟩ g1
    simp only at hw1
    have hsz := hw.size
    refine ⟨fun i x hx => ?_, ?_, ?_, ?_, by omega, by omega, by omega⟩
    · rw [hw.cell (p := ⟨w.heap.size, i, none⟩) (by simp only []; omega), hW2, after_cell _ _ _ _ (by omega)]; exact gl i x hx
    · rw [hw.cell (p := ⟨w.heap.size + 1, 1, none⟩) (by simp only []; omega), hW2, after_cell _ _ _ _ (by omega)]; exact g1
    · rw [hw.cell (p := ⟨w.heap.size + 1, 3, none⟩) (by simp only []; omega), hW2, after_cell _ _ _ _ (by omega)]; exact g3
    · rw [hw.cell (p := ⟨FB, 0, none⟩) (by simp only []; omega), hW2, after_cell _ _ _ _ (by omega)]; exact gf⟩
  have kR2 := (⟨(kR.out.below (Nat.le_refl _) hB2.out).get e1.out⟩ : Kept _)
  obtain ⟨_, s1, s3, _⟩ := kall.out W2 (Below.refl _ _)
  have s5 := (kall.out W2 (Below.refl _ _)).1 5 _ rfl
  have hlw : w.heap.size < W2.heap.size := by omega
  clear gl g1 g3 gf hlt hB0 hW2 cpw hrho kR hsz1 hsz2
  go_wp2
  go_loopw [38] (fun v wr => ∃ (i : Nat), v = .int .i64 (i : Int) ∧ i ≤ m ∧ Kept (Row W2 wr W2.heap.size S (fun v => (-(secF rho pub R m i v)) % p))) (fun v _ => ((m : Int) - intOf v).toNat)
  case atStart => exact ⟨0, rfl, by omega, ⟨⟨(by repeat (first | exact Below.refl _ _ | refine Below.later ?_ _ | refine Below.box ?_ _ | refine Below.drew ?_ | refine Below.put ?_ (by dsimp only; omega) _)), (World.rowIs_made W2 (.int .u64 0) S 22).congr (fun v _ => by simp [secF, fsum]), Nat.le_refl _⟩⟩⟩
  case round =>
    clear s1 s3 s5
    obtain ⟨i, rfl, hi, hRow⟩ := hrel
    obtain ⟨w1, rfl⟩ : ∃ x, x = wr := ⟨wr, rfl⟩
    by_cases h : i < m
    · obtain ⟨b1, o1, rw', rfl, hx1, hb1, hc1, hc2, hc3, ha, hb', hc'⟩ := kR2.out i h
      have hRi : R.getD i rw0 = rw' := by rw [List.getD, hx1]; rfl
      have hmem := List.mem_of_getElem? hx1
      have kS : Kept (∀ j : Nat, j < 3 → ∃ tu tn tc tl, (∀ w, (Instr.index 81 (.agg #[rw'.a.v, rw'.b.v, rw'.c.v]) (.int .i64 (j : Int))).run Try.prog w = .ok (.slice tu tn tc) w) ∧ Tm W2 tu tl ∧ tl.length = tn ∧ (∀ t ∈ tl, 0 ≤ t.1 ∧ t.1 < vs) ∧ ∀ x, cfA rho R m j i x = rho ^ (j * m + i) * trm tl x) := ⟨fun j hj => ⟨(side j rw').u, (side j rw').l.length, (side j rw').c, (side j rw').l, lidx_c j hj rw', (by
          match j, hj with
          | 0, _ => exact ha
          | 1, _ => exact hb'
          | 2, _ => exact hc'), rfl, kvar.out rw' hmem j hj, fun x => by rw [cfA, hRi]⟩⟩
      have hB := hRow.out.below
      have hsz := hB.size
      have r1 : w1.cell? ⟨b1, o1 + i * 3, none⟩ = some rw'.a.v := by rw [hB.cell (p := ⟨b1, o1 + i * 3, none⟩) hb1]; exact hc1
      have r2 : w1.cell? ⟨b1, o1 + i * 3 + 1, none⟩ = some rw'.b.v := by rw [hB.cell (p := ⟨b1, o1 + i * 3 + 1, none⟩) hb1]; exact hc2
      have r3 : w1.cell? ⟨b1, o1 + i * 3 + 2, none⟩ = some rw'.c.v := by rw [hB.cell (p := ⟨b1, o1 + i * 3 + 2, none⟩) hb1]; exact hc3
      have hb1w : b1 < w1.heap.size := by omega
      clear ha hb' hc' hx1 hc1 hc2 hc3 hb1 hRi hmem hB hsz
      simp only [Lin.v] at *
      generalize rw'.a.l.length = an at *
      generalize rw'.b.l.length = bn at *
      generalize rw'.c.l.length = cn at *
      generalize rw'.a.u = au at *
      generalize rw'.b.u = bu at *
      generalize rw'.c.u = cu at *
      generalize rw'.a.c = ac at *
      generalize rw'.b.c = bc at *
      generalize rw'.c.c = cc at *
      go_wp2
      go_loopw [50] (fun vj wr => ∃ (j : Nat), vj = .int .i64 (j : Int) ∧ j ≤ 3 ∧ Kept (Row W2 wr W2.heap.size S (fun v => (-(secG rho pub R m i j v)) % p))) (fun vj _ => (3 - intOf vj).toNat)
      case atStart => exact ⟨0, rfl, by omega, ⟨((hRow.out.go (by repeat (first | exact Below.refl _ _ | refine Below.later ?_ _ | refine Below.box ?_ _ | refine Below.drew ?_ | refine Below.put ?_ (by dsimp only; omega) _))).congr (fun v _ => by simp [secG, fsum]))⟩⟩
      case round =>
        clear hRow r1 r2 r3 hb1w
        obtain ⟨j, rfl, hj, hRow⟩ := hrel
        obtain ⟨w2, rfl⟩ : ∃ x, x = wr := ⟨wr, rfl⟩
        by_cases h2 : j < 3
        · have hjI : (j : Int) < 3 := by omega
          obtain ⟨tu, tn, tc, tl, hidx, hTm, htl, htv, hcf⟩ := kS.out j h2
          have htn : (tn : Int) ≤ 9223372036854775807 := by rw [← htl]; exact hTm.small
          have kT := (⟨hTm.get htl⟩ : Kept _)
          have kv : Kept (∀ t ∈ tl, 0 ≤ t.1 ∧ t.1 < vs) := ⟨htv⟩
          have kcf : Kept (∀ x, cfA rho R m j i x = rho ^ (j * m + i) * trm tl x) := ⟨hcf⟩
          have ktl : Kept (tl.length = tn) := ⟨htl⟩
          clear hTm htl htv hcf
          obtain ⟨jm, hjm⟩ : ∃ x, j * m = x := ⟨_, rfl⟩
          have hjmI : (j : Int) * (m : Int) = (jm : Int) := by rw [← hjm]; simp
          have hjm2 : jm ≤ 2 * m := by rw [← hjm]; exact Nat.mul_le_mul_right _ (by omega)
          obtain ⟨e, he⟩ : ∃ x, jm + i = x := ⟨_, rfl⟩
          have heI : (jm : Int) + (i : Int) = (e : Int) := by omega
          have he3 : e < N3 := by omega
          have hjm3 : jm ≤ 40000 := by omega
          have hi3 : i ≤ 20000 := by omega
          have he3' : (e : Int) < (N3 : Int) := by omega
          have he4 : e ≤ 60000 := by omega
          have kcf2 : Kept (∀ x, cfA rho R m j i x = rho ^ e * trm tl x) := ⟨fun x => by rw [kcf.out, hjm, he]⟩
          obtain ⟨b2, o2, px, hbo, hpx, hpb, hpc, hpU⟩ := hl1.out.at_ (k := e) (by simp [powL]; omega)
          injection hbo with hbo
          injection hbo with hb3 ho3
          subst hb3 ho3
          rw [Nat.zero_add] at hpc
          have hpe : Kept (px = rho ^ e % p) := ⟨by rw [powL_at he3] at hpx; injection hpx with hpx; exact hpx.symm⟩
          have kpc : Kept (∀ w', Below W2.heap.size W2 w' → w'.cell? ⟨B1, e, none⟩ = some (.int .u64 px) ∧ B1 < w'.heap.size) := ⟨fun w' hw => ⟨by rw [hw.cell (p := ⟨B1, e, none⟩) hpb]; exact hpc, by have := hw.size; omega⟩⟩
          clear kcf hpx hpc hpb he hjm hjm2
          go_wp2
          go_loopw [56] (fun vt wr => ∃ (t : Nat), vt = .int .i64 (t : Int) ∧ t ≤ tn ∧ Kept (Row W2 wr W2.heap.size S (fun v => (-(secG rho pub R m i j v + rho ^ e * trm (tl.take t) ((v : Int) + 1 + pub))) % p))) (fun vt _ => ((tn : Int) - intOf vt).toNat)
          case atStart => exact ⟨0, rfl, by omega, ⟨(hRow.out.go (by repeat (first | exact Below.refl _ _ | refine Below.later ?_ _ | refine Below.box ?_ _ | refine Below.drew ?_ | refine Below.put ?_ (by dsimp only; omega) _))).congr (fun v _ => by simp [trm])⟩⟩
          case round =>
            clear hRow
            obtain ⟨t, rfl, ht, hRow⟩ := hrel
            obtain ⟨w3, rfl⟩ : ∃ x, x = wr := ⟨wr, rfl⟩
            have hB := hRow.out.below
            by_cases h3 : t < tn
            · obtain ⟨b4, o4, x, y, rfl, hx1, hb4, hxc, hyc, hX, hY⟩ := kT.out t h3
              have hxr := kv.out _ (List.mem_of_getElem? hx1)
              have hx0 : 0 ≤ x := hxr.1
              have hx6 : x ≤ 65536 := by have := hxr.2; simp only at this; omega
              have hxc' : w3.cell? ⟨b4, o4 + t * 2, none⟩ = some (.int .i64 x) := by rw [hB.cell (p := ⟨b4, o4 + t * 2, none⟩) hb4]; exact hxc
              have hyc' : w3.cell? ⟨b4, o4 + t * 2 + 1, none⟩ = some (.int .u64 y) := by rw [hB.cell (p := ⟨b4, o4 + t * 2 + 1, none⟩) hb4]; exact hyc
              have hb4w : b4 < w3.heap.size := by have := hB.size; omega
              obtain ⟨kl, s1, _, sf, lt0, lt1, ltF⟩ := kall.out w3 hB
              have s5 := kl 5 _ rfl
              obtain ⟨hpc, hpb⟩ := kpc.out w3 hB
              obtain ⟨d, hd⟩ : ∃ d, x - 1 - pub = d := ⟨_, rfl⟩
              have hd1 : -70000 ≤ d ∧ d ≤ 70000 := by omega
              have htr : Kept (∀ z, trm (tl.take (t + 1)) z = trm (tl.take t) z + if x = z then y else 0) := ⟨fun z => trm_next hx1 z⟩
              have hltS := hRow.out.row.lt
              have hUy : Kept (U y) := ⟨hY⟩
              clear hxc hyc kl hx1 hb4 hxr hX hY
              by_cases g1 : 0 ≤ d
              · by_cases g2 : d < S
                · obtain ⟨D, rfl⟩ : ∃ D : Nat, d = D := ⟨d.toNat, by omega⟩
                  have hDS : D < S := by omega
                  obtain ⟨ov, hov⟩ : ∃ ov, (-(secG rho pub R m i j D + rho ^ e * trm (tl.take t) ((D : Int) + 1 + pub))) % p = ov := ⟨_, rfl⟩
                  have hoc := hRow.out.row.cell hDS
                  rw [hov] at hoc
                  have hof := hRow.out.row.frozen D
                  have hovU : U ov := by rw [← hov]; exact ⟨Int.emod_nonneg _ (by omega), by have := Int.emod_lt_of_pos (-(secG rho pub R m i j D + rho ^ e * trm (tl.take t) ((D : Int) + 1 + pub))) (show 0 < p by omega); omega⟩
                  have cm : Kept (∀ w, Calls Try.prog 40 #[.agg #[.int .u64 p], .int .u64 px, .int .u64 y] w (Gives (.int .u64 (fmul p px y)) w)) := ⟨fun w => mul_c p px y w hpU hUy.out⟩
                  have cs : Kept (∀ w, Calls Try.prog 39 #[.agg #[.int .u64 p], .int .u64 ov, .int .u64 (fmul p px y)] w (Gives (.int .u64 (fsub p ov (fmul p px y))) w)) := ⟨fun w => sub_c p ov _ w hovU fmul_U⟩
                  have hA : Kept (fsub p ov (fmul p px y) = (-(secG rho pub R m i j D + rho ^ e * trm (tl.take (t + 1)) ((D : Int) + 1 + pub))) % p) := ⟨by
                    rw [← hov, hpe.out, cf_step hv, htr.out, if_pos (by omega), Int.mul_add, Int.add_assoc]⟩
                  have hI : Kept (∀ A, A = fsub p ov (fmul p px y) → ∀ v, v < S → (if v = D then A else (-(secG rho pub R m i j v + rho ^ e * trm (tl.take t) ((v : Int) + 1 + pub))) % p) = (-(secG rho pub R m i j v + rho ^ e * trm (tl.take (t + 1)) ((v : Int) + 1 + pub))) % p) := ⟨fun A hAe v hv' => by
                    by_cases hvD : v = D
                    · subst hvD; rw [if_pos rfl, hAe, hA.out]
                    · rw [if_neg hvD, htr.out, if_neg (by omega), Int.add_zero]⟩
                  have hDI : (D : Int) < (S : Int) := by omega
                  obtain ⟨A, hAe⟩ : ∃ A, fsub p ov (fmul p px y) = A := ⟨_, rfl⟩
                  have hI2 : Kept (∀ v, v < S → (if v = D then A else (-(secG rho pub R m i j v + rho ^ e * trm (tl.take t) ((v : Int) + 1 + pub))) % p) = (-(secG rho pub R m i j v + rho ^ e * trm (tl.take (t + 1)) ((v : Int) + 1 + pub))) % p) := ⟨hI.out A hAe.symm⟩
                  rw [hAe] at cs
                  clear hI hA hov hAe hovU htr hB kS
                  generalize fmul p px y = MM at *
                  go_wp2
                  first | refine region_tail1 (by kernel_rfl) (by kernel_rfl) (by kernel_rfl) ?_ | refine region_tail (by kernel_rfl) (by kernel_rfl) (by kernel_rfl) ?_
                  simp only [initOf, lastOf]
                  repeat (go_big_quiet_step (first | (go_at_call 40; with_reducible exact quiet (cm.out _)) | (go_at_call 39; with_reducible exact quiet (cs.out _))))
                  refine wpQuiet_nil ?_
                  intro _
                  go_wp2
                  go_roundw
                  case rel => exact ⟨t + 1, by go_num, by omega, ⟨((hRow.out.box _).later _ |>.put D A).congr hI2.out⟩⟩
                  case measure => first | (simp [intOf]; omega) | (simp [intOf]; done)
                · have g3 : decide (d < (S : Int)) = false := by simp; omega
                  have hI2 : Kept (∀ v, v < S → (-(secG rho pub R m i j v + rho ^ e * trm (tl.take t) ((v : Int) + 1 + pub))) % p = (-(secG rho pub R m i j v + rho ^ e * trm (tl.take (t + 1)) ((v : Int) + 1 + pub))) % p) := ⟨fun v hv' => by
                    rw [htr.out, if_neg (by omega), Int.add_zero]⟩
                  clear htr hB kS
                  go_wp2
                  go_roundw
                  case rel => exact ⟨t + 1, by go_num, by omega, ⟨(hRow.out.go (by repeat (first | exact Below.refl _ _ | refine Below.later ?_ _ | refine Below.box ?_ _ | refine Below.drew ?_ | refine Below.put ?_ (by dsimp only; omega) _))).congr hI2.out⟩⟩
                  case measure => first | (simp [intOf]; omega) | (simp [intOf]; done)
              · have g3 : decide (d ≥ (0 : Int)) = false := by simp; omega
                have g4 : decide (0 ≤ d) = false := by simp; omega
                have hI2 : Kept (∀ v, v < S → (-(secG rho pub R m i j v + rho ^ e * trm (tl.take t) ((v : Int) + 1 + pub))) % p = (-(secG rho pub R m i j v + rho ^ e * trm (tl.take (t + 1)) ((v : Int) + 1 + pub))) % p) := ⟨fun v hv' => by
                  rw [htr.out, if_neg (by omega), Int.add_zero]⟩
                clear htr hB kS
                go_wp2
                go_roundw
                case rel => exact ⟨t + 1, by go_num, by omega, ⟨(hRow.out.go (by repeat (first | exact Below.refl _ _ | refine Below.later ?_ _ | refine Below.box ?_ _ | refine Below.drew ?_ | refine Below.put ?_ (by dsimp only; omega) _))).congr hI2.out⟩⟩
                case measure => first | (simp [intOf]; omega) | (simp [intOf]; done)
            · have htt : t = tn := by omega
              have hR3 : Kept (Row W2 w3 W2.heap.size S (fun v => (-(secG rho pub R m i (j + 1) v)) % p)) := ⟨hRow.out.congr (fun v _ => by
                rw [htt, List.take_of_length_le (by rw [ktl.out]; omega), secG, secG, fsum, kcf2.out, Int.add_assoc])⟩
              clear hRow hB kS
              go_wp2
              go_roundw
              case rel => exact ⟨j + 1, by go_num, by omega, hR3⟩
              case measure => first | (simp [intOf]; omega) | (simp [intOf]; done)
        · have hj3 : j = 3 := by omega
          subst hj3
          have hR3 : Kept (Row W2 w2 W2.heap.size S (fun v => (-(secF rho pub R m (i + 1) v)) % p)) := ⟨hRow.out.congr (fun v _ => rfl)⟩
          clear hRow kS
          go_wp2
          go_roundw
          case rel => exact ⟨i + 1, by go_num, by omega, hR3⟩
          case measure => first | (simp [intOf]; omega) | (simp [intOf]; done)
    · have him : i = m := by omega
      subst him
      have hB := hRow.out.below
      obtain ⟨kl, _, _, _, lt0, _, _⟩ := kall.out w1 hB
      have l0 := kl 0 _ rfl
      have l1 := kl 1 _ rfl
      have l2 := kl 2 _ rfl
      have l3 := kl 3 _ rfl
      have l4 := kl 4 _ rfl
      have l5 := kl 5 _ rfl
      have l6 := kl 6 _ rfl
      have l7 := kl 7 _ rfl
      have l8 := kl 8 _ rfl
      have l9 := kl 9 _ rfl
      have l10 := kl 10 _ rfl
      have hsec : Kept (Ls w1 (some ⟨W2.heap.size, 0, none⟩) (secL p rho pub R S)) := ⟨Ls.row (t := 22) (n := S) (hRow.out.row.congr fun v hv' => by rw [secL_at hv', e1.out]; rfl) (by simp [secL]) (by simp [secL]; omega) (fun x hx => by
        simp only [secL, List.mem_map] at hx
        obtain ⟨v, _, rfl⟩ := hx
        exact ⟨Int.emod_nonneg _ (by omega), by have := Int.emod_lt_of_pos (-(cfS rho R R.length ((v : Int) + 1 + pub))) (show 0 < p by omega); omega⟩)⟩
      have hpow : Kept (Ls w1 (some ⟨B1, 0, none⟩) (powL p rho N3)) := ⟨hl1.out.below (Nat.le_refl _) hB⟩
      obtain ⟨M2, hM2⟩ : ∃ x, 2 * i = x := ⟨_, rfl⟩
      have hw2 : IntKind.i64.wrap (2 * (i : Int)) = (M2 : Int) := by rw [IntKind.wrap_i64]; omega
      have hc0 : (cofL p rho pub R S 0).length = S := by simp [cofL, secL]
      have hcs : ∀ k, cofL p rho pub R S (k + 1) = ((powL p rho N3).drop (k * i)).take i := fun k => by rw [cofL, if_neg (by omega), e1.out, hN3, Nat.add_sub_cancel]
      have hcn : ∀ k, k < 3 → (cofL p rho pub R S (k + 1)).length = i := fun k hk => by
        rw [hcs, List.length_take, List.length_drop]
        have hk4 : k * i ≤ 2 * i := Nat.mul_le_mul_right _ (by omega)
        simp [powL]; omega
      have hcle : ∀ k, (cofL p rho pub R S k).length ≤ 70000 := fun k => by
        cases k with
        | zero => rw [hc0]; omega
        | succ k => rw [hcs, List.length_take]; omega
      have hBk : Kept (Below w.heap.size w w1) := ⟨Below.next hB2.out hB⟩
      by_cases hm0 : i = 0
      · subst hm0
        obtain rfl : N3 = 0 := by omega
        obtain rfl : M2 = 0 := by omega
        clear hw2 hw3
        have hw20 : IntKind.i64.wrap (2 * 0) = 0 := by decide
        have hw00 : IntKind.i64.wrap 0 = 0 := by decide
        have cc : Kept (∀ w', Below w1.heap.size w1 w' → Calls Try.prog 41 #[.agg #[.int .u64 p, .int .i64 (B : Int), .int .i64 q, .int .i64 k, .int .i64 n, .int .i64 (S : Int), .int .i64 (0 : Int), .int .i64 (P0 : Nat), .int .i64 (P1 : Nat), .int .i64 (P1 : Nat), .int .i64 (P1 : Nat)],
            .agg #[.slice (some ⟨W2.heap.size, 0, none⟩) S S, .slice (some ⟨B1, 0, none⟩) 0 0, .slice (some ⟨B1, 0, none⟩) 0 0, .slice (some ⟨B1, 0, none⟩) 0 0]] w' (GivesMat (cuts B (fun i => upl B (cofL p rho pub R S i).length) (cofL p rho pub R S) 4) w')) := ⟨fun w' hw => by
          have h := lcut_c B (fun j => if j = 0 then some ⟨W2.heap.size, 0, none⟩ else if j = 1 then some ⟨B1, 0, none⟩ else if j = 2 then some ⟨B1, 0, none⟩ else some ⟨B1, 0, none⟩) (fun j => if j = 0 then S else if j = 1 then 0 else if j = 2 then 0 else 0) (cofL p rho pub R S) p q k n S 0 P0 P1 P1 P1 w' hb ⟨hP0', hP1', hP1', hP1'⟩ hcle (fun j hj => by
              match j, hj with
              | 0, _ => exact ⟨fun e => (by cases e), by show _ ≤ S; rw [hc0]; omega⟩
              | 1, _ => exact ⟨fun e => (by cases e), by show _ ≤ 0; rw [hcn 0 (by omega)]; omega⟩
              | 2, _ => exact ⟨fun e => (by cases e), by show _ ≤ 0; rw [hcn 1 (by omega)]; omega⟩
              | 3, _ => exact ⟨fun e => (by cases e), by show _ ≤ 0; rw [hcn 2 (by omega)]; omega⟩) (fun j hj => by
              match j, hj with
              | 0, _ => exact hsec.out.below (Nat.le_refl _) hw
              | 1, _ => have := ((hpow.out.drop (0 * 0)).takeL 0).below (Nat.le_refl _) hw; rw [← hcs] at this; exact this
              | 2, _ => have := ((hpow.out.drop (1 * 0)).takeL 0).below (Nat.le_refl _) hw; rw [← hcs] at this; exact this
              | 3, _ => have := ((hpow.out.drop (2 * 0)).takeL 0).below (Nat.le_refl _) hw; rw [← hcs] at this; exact this)
          rw [hc0, hcn 0 (by omega), hcn 1 (by omega), hcn 2 (by omega)] at h
          exact h⟩
        clear hcs hcn hc0 hcle hRow hB kall kR2
        go_wp2
        go_still_tail 15, (by kernel_rfl)
        change wpList _ _ _ _ _ w1.drew
        have hBd : Below w1.heap.size w1 w1.drew := Below.drew (Below.refl _ _)
        go_wp2_with (first | (go_at_call 41; refine (cc.out _ hBd).mono ?_; rintro e w4 ⟨vm, bsm, rfl, hM⟩; refine Stop.out ?_))
        refine ⟨?_⟩
        go_wp2
        go_ret
        exact ⟨vm, bsm, rfl, hM.base (Below.drew hBk.out)⟩
      · have ha1 : M2 - i = i := by omega
        have ha2 : N3 - M2 = i := by omega
        have ha3 : N3 - i = M2 := by omega
        have hb1 : ¬ M2 = 0 := by omega
        have hb2 : (i : Int) ≤ (M2 : Int) := by omega
        have hb3 : (M2 : Int) ≤ (N3 : Int) := by omega
        have hb4 : (i : Int) ≤ (N3 : Int) := by omega
        have hb5 : ¬ i = 0 := hm0
        have cc : Kept (∀ w', Below w1.heap.size w1 w' → Calls Try.prog 41 #[.agg #[.int .u64 p, .int .i64 (B : Int), .int .i64 q, .int .i64 k, .int .i64 n, .int .i64 (S : Int), .int .i64 (i : Int), .int .i64 (P0 : Nat), .int .i64 (P1 : Nat), .int .i64 (P1 : Nat), .int .i64 (P1 : Nat)],
            .agg #[.slice (some ⟨W2.heap.size, 0, none⟩) S S, .slice (some ⟨B1, 0, none⟩) i N3, .slice (some ⟨B1, i, none⟩) i M2, .slice (some ⟨B1, M2, none⟩) i i]] w' (GivesMat (cuts B (fun i => upl B (cofL p rho pub R S i).length) (cofL p rho pub R S) 4) w')) := ⟨fun w' hw => by
          have h := lcut_c B (fun j => if j = 0 then some ⟨W2.heap.size, 0, none⟩ else if j = 1 then some ⟨B1, 0, none⟩ else if j = 2 then some ⟨B1, i, none⟩ else some ⟨B1, M2, none⟩) (fun j => if j = 0 then S else if j = 1 then N3 else if j = 2 then M2 else i) (cofL p rho pub R S) p q k n S i P0 P1 P1 P1 w' hb ⟨hP0', hP1', hP1', hP1'⟩ hcle (fun j hj => by
              match j, hj with
              | 0, _ => exact ⟨fun e => (by cases e), by show _ ≤ S; rw [hc0]; omega⟩
              | 1, _ => exact ⟨fun e => (by cases e), by show _ ≤ N3; rw [hcn 0 (by omega)]; omega⟩
              | 2, _ => exact ⟨fun e => (by cases e), by show _ ≤ M2; rw [hcn 1 (by omega)]; omega⟩
              | 3, _ => exact ⟨fun e => (by cases e), by show _ ≤ i; rw [hcn 2 (by omega)]; omega⟩) (fun j hj => by
              match j, hj with
              | 0, _ => exact hsec.out.below (Nat.le_refl _) hw
              | 1, _ => have := ((hpow.out.drop (0 * i)).takeL i).below (Nat.le_refl _) hw; rw [← hcs] at this; rw [Nat.zero_mul] at this; exact this
              | 2, _ => have := ((hpow.out.drop (1 * i)).takeL i).below (Nat.le_refl _) hw; rw [← hcs] at this; rw [Nat.one_mul, Nat.zero_add] at this; exact this
              | 3, _ => have := ((hpow.out.drop (2 * i)).takeL i).below (Nat.le_refl _) hw; rw [← hcs] at this; rw [hM2, Nat.zero_add] at this; exact this)
          rw [hc0, hcn 0 (by omega), hcn 1 (by omega), hcn 2 (by omega)] at h
          exact h⟩
        clear hcs hcn hc0 hcle hRow hB kall kR2 hm0
        go_wp2
        go_still_tail 15, (by kernel_rfl)
        change wpList _ _ _ _ _ w1.drew
        have hBd : Below w1.heap.size w1 w1.drew := Below.drew (Below.refl _ _)
        go_wp2_with (first | (go_at_call 41; refine (cc.out _ hBd).mono ?_; rintro e w4 ⟨vm, bsm, rfl, hM⟩; refine Stop.out ?_))
        refine ⟨?_⟩
        go_wp2
        go_ret
        exact ⟨vm, bsm, rfl, hM.base (Below.drew hBk.out)⟩
end Go.Proofs.Ytpkjlnelkacbgaa
