/- layout.Target, where the layout is the table's. -/
import Derived.Test.YtpkjlnelkacbgaaHBel
import Derived.Test.YtpkjlnelkacbgaaHMsh
namespace Go.Proofs.Ytpkjlnelkacbgaa
open Go.RowKit Go.Sort

set_option maxRecDepth 100000
/-- A call met in a walk: its world under a letter. -/
theorem call_gen {P : Program} {f : FuncId} {args : Array Value} {W : World} {R : Ending → World → Prop} (F : World → Prop) (hF : F W) (h : ∀ W', F W' → Calls P f args W' R) : Calls P f args W R := h W hF

def fsum (f : Nat → Int) : Nat → Int
  | 0 => 0
  | n + 1 => fsum f n + f n
def rw0 : Rw := ⟨⟨none, 0, []⟩, ⟨none, 0, []⟩, ⟨none, 0, []⟩⟩
def tgA (p rho : Int) (ws : List Int) (R : List Rw) (m k i : Nat) : Int := rho ^ (k * m + i) * valL p ws (side k (R.getD i rw0)).l
def tgI (p rho : Int) (ws : List Int) (R : List Rw) (m i : Nat) : Int := fsum (fun k => tgA p rho ws R m k i) 3
def tgV (p rho : Int) (ws : List Int) (R : List Rw) (m : Nat) : Int := fsum (tgI p rho ws R m) m % p
theorem tg_step {p : Int} (hv : vld p = true) (S v rho : Int) (e : Nat) : fadd p (S % p) (fmul p (rho ^ e % p) v) = (S + rho ^ e * v) % p := by
  unfold fadd fmul; rw [if_pos hv, if_pos hv]
  simp [Int.add_emod, Int.mul_emod]

theorem powL_at {p a : Int} {n i : Nat} (h : i < n) : (powL p a n)[i]? = some (a ^ i % p) := by rw [powL, List.getElem?_map, List.getElem?_range h]; rfl

/-- A whole list is put behind an own row of numbers. -/
theorem wpList_pushL {W w : World} {ops : Array Oper} {rest : List Oper} {o : Oper} {a : Act} {Q : Exit → Act → World → Prop} (hgd : o.guard = none) (s x : Operand)
    (ho : o.op = .call { callee := .builtin .append, args := #[s, x], argTypes := #[43, 43] }) (v : Value) (l0 : List Int) (n0 : Nat) (hn0 : l0.length = n0) (hG : Grown 22 W w v n0 (l0.map fun z => Value.int .u64 z)) (hs : a.eval s = v)
    (u : Option Addr) (l : List Int) (n c : Nat) (hn : l.length = n) (hx : a.eval x = .slice u n c) (hl : Ls w u l) (hc : u = none → c = 0) (hsmall : n0 + n ≤ 1048576)
    (h : ∀ v' w', Grown 22 W w' v' (n0 + n) ((l0 ++ l).map fun z => Value.int .u64 z) → (∀ j, j < w.heap.size → v.ownBlock ≠ some j → w'.heap[j]? = w.heap[j]?) → w.heap.size ≤ w'.heap.size → (v'.ownBlock = v.ownBlock ∨ v'.ownBlock = some w.heap.size) →
      wpList Try.prog ops Q rest (a.put o.dst v') w') : wpList Try.prog ops Q (o :: rest) a w := by
  obtain ⟨i, hi, hii⟩ := Option.map_eq_some_iff.1 (show (Try.prog.info? 22).map (fun i => (i.zero, i.size, i.bytes)) = some (some (.int .u64 0), 1, 8) from by kernel_rfl)
  simp only [Prod.mk.injEq] at hii
  obtain ⟨hz, hsz, hby⟩ := hii
  subst hn hn0
  cases hu : u with
  | none =>
    have hl0 : l = [] := by
      rcases List.eq_nil_or_concat l with e | ⟨l', y, e⟩
      · exact e
      · obtain ⟨b, o, e2, _⟩ := hl.mem (by subst e; simp)
        rw [hu] at e2; cases e2
    subst hl0
    rw [hu, hc hu] at hx
    refine wpList_append_own_none hgd s x 43 ho W.heap.size 22 i 1 Try.underlying43 hi v l0.length _ hs hG.own hx ?_
    exact h v w (by simpa using hG) (fun _ _ _ => rfl) (Nat.le_refl _) (.inl rfl)
  | some ad =>
    rw [hu] at hx hl
    refine wpList_append_own_at w hgd s x 43 ho W.heap.size 22 i (.int .u64 0) 1 8 Try.underlying43 hi hz hsz hby rfl (by decide) v l0.length _ hs hG.own ad l.length c (l.map (fun z => Value.int .u64 z)) hx (by simp) ?_ ?_ (by simp only [maxLen]; omega) (by omega) hG.below.size ?_
    · intro j v hv
      rw [List.getElem?_map] at hv
      cases hlj : l[j]? with
      | none => rw [hlj] at hv; cases hv
      | some z =>
        rw [hlj] at hv; injection hv with hv; subst hv
        obtain ⟨b, o, e, _, hcell⟩ := hl.mem (by intro e; subst e; simp at hlj)
        injection e with e; subst e
        rw [Addr.add_lit]; exact hcell j z hlj
    · intro v hv
      obtain ⟨z, _, e⟩ := List.mem_map.1 hv
      subst e; rfl
    · intro v' w' hown' hgr _ hat
      have hB : Below W.heap.size W w' := Below.grown hG.below hgr hG.below.size (fun k hk => (hG.own.lt k hk).1)
      exact h v' w' ⟨hB, by rw [List.map_append]; exact hown'⟩ (fun k hk hne => hgr.block k hk (fun e => hne e.symm)) hgr.size hat

set_option maxHeartbeats 8000000 in
theorem ltarget_c (p b q k n s P0 P1 pub vs rho : Int) (u : Option Addr) (c : Nat) (R : List Rw) (up : Option Addr) (cp : Nat) (ps : List Int) (w : World) (hv : vld p = true) (hb : 1 ≤ b ∧ b ≤ 256) (hm16 : R.length ≤ 16384) (hpub : 0 ≤ pub) (hs : 0 ≤ s ∧ s = vs - 1 - pub) (hvs : vs ≤ 65536)
    (hP0 : (s + b - 1) / b = P0) (hP1 : ((R.length : Int) + b - 1) / b = P1) (hR : Rws w u R) (hps : Ls w up ps) (hpl : (ps.length : Int) = pub) (hup : up = none → cp = 0) (hrho : U rho) :
    Calls Try.prog 21 #[.agg #[.int .u64 p, .int .i64 b, .int .i64 q, .int .i64 k, .int .i64 n, .int .i64 s, .int .i64 R.length, .int .i64 P0, .int .i64 P1, .int .i64 P1, .int .i64 P1], .agg #[.int .u64 p, .int .i64 pub, .int .i64 vs, .slice u R.length c], .slice up ps.length cp, .int .u64 rho] w (Gives (.int .u64 (tgV p rho (1 :: ps) R R.length)) w) := by
  obtain ⟨m, hm⟩ : ∃ m, R.length = m := ⟨_, rfl⟩
  obtain ⟨np, hnp⟩ : ∃ m, ps.length = m := ⟨_, rfl⟩
  have hp0 := vld_pos hv
  have cb : Kept (∀ w', Calls Try.prog 37 #[.agg #[.int .u64 p, .int .i64 b, .int .i64 q, .int .i64 k, .int .i64 n, .int .i64 s, .int .i64 R.length, .int .i64 P0, .int .i64 P1, .int .i64 P1, .int .i64 P1], .agg #[.int .u64 p, .int .i64 pub, .int .i64 vs, .slice u R.length c]] w' (Gives (.bool true) w')) := ⟨fun w' => belongs_c p b q k n s P0 P1 pub vs R.length u c w' hv hb hm16 hpub hs hvs hP0 hP1⟩
  have kR : Kept (Rws w u R) := ⟨hR⟩
  have kps : Kept (Ls w up ps ∧ (up = none → cp = 0)) := ⟨hps, hup⟩
  have e1 : Kept (R.length = m) := ⟨hm⟩
  have e2 : Kept (ps.length = np) := ⟨hnp⟩
  have hpl2 : ((np : Int) != pub) = false := by simp; omega
  rw [hm] at cb hm16 ⊢
  rw [hnp] at hpl ⊢
  have hnp6 : np ≤ 65536 := by omega
  clear hR hps hup hm hnp hP0 hP1 hs hpub hvs
  obtain ⟨N3, hN3⟩ : ∃ N : Nat, 3 * m = N := ⟨_, rfl⟩
  have hw3 : IntKind.i64.wrap (3 * (m : Int)) = (N3 : Int) := by rw [IntKind.wrap_i64]; omega
  have cpw : Kept (∀ W', Calls Try.prog 38 #[.agg #[.int .u64 p], .int .u64 rho, .int .i64 (N3 : Int)] W' (GivesN N3 (powL p rho N3) W')) := ⟨fun W' => givesN (by simp [powL]) (powers_c p rho N3 W' hrho hv (by omega))⟩
  go_enter Try.func21, Try.ntmps21
  go_wp2_with (first | (go_at_call 37; (first | with_reducible refine use1 (cb.out _) ?_ | with_reducible refine use (cb.out _) ?_); intro pw) | (go_at_call 38; refine Stop.out ?_))
  refine ⟨?_⟩
  refine call_gen (fun W' => Below w.heap.size w W' ∧ W'.cell? ⟨w.heap.size, 0, none⟩ = some (.int .u64 p) ∧ W'.cell? ⟨w.heap.size + 1, 3, none⟩ = some (.slice u m c) ∧ W'.cell? ⟨w.heap.size + 1 + 1 + pw.os.size, 0, none⟩ = some (.int .u64 p) ∧ w.heap.size + 1 + 1 + pw.os.size < W'.heap.size) ?fx ?_
  case fx => exact ⟨(by repeat (first | exact Below.refl _ _ | refine Below.later ?_ _ | refine Below.box ?_ _ | refine Below.drew ?_ | refine Below.put ?_ (by dsimp only; omega) _)), by simp [go_sem], by simp [go_sem], by simp [go_sem], by simp⟩
  rintro W1 ⟨hB0, g0, g3, gf, hlt⟩
  have hBW : Kept (Below w.heap.size w W1) := ⟨hB0⟩
  have hlt0 : w.heap.size < W1.heap.size := by omega
  have hlt1 : w.heap.size + 1 < W1.heap.size := by omega
  clear hB0 cb
  generalize w.heap.size + 1 + 1 + pw.os.size = FB at *
  refine useN (cpw.out W1) ?_
  intro q1 B1 hl1
  go_wp2_with (first | (at_builtin; refine wpList_pushL (W := after W1 q1) rfl _ _ rfl _ [1] 1 rfl (by have := Grown.one 22 (after W1 q1) (.int .u64 1); simp only [after_size] at this; exact this) rfl up ps np cp e2.out rfl (kps.out.1.below (Nat.le_refl _) (Below.box (Below.later hBW.out _) _)) kps.out.2 (by omega) ?_; intro v2 w2 hG hkeep hsz hat; refine Stop.out ?_))
  refine ⟨?_⟩
  obtain ⟨u2, c2, rfl, _⟩ := hG.form
  have hLs := hG.ls rfl (by omega) (fun x hx => by
    rcases List.mem_cons.1 hx with rfl | hx
    · exact ⟨by decide, by decide⟩
    · exact kps.out.1.all x hx)
  rw [show [1] ++ ps = 1 :: ps from rfl] at hLs
  obtain ⟨q2, rfl⟩ := after_of hG.below
  rw [after_after] at hLs ⊢
  obtain ⟨W2, hW2⟩ : ∃ W2, W2 = after W1 ⟨q2.d, q1.os ++ q2.os⟩ := ⟨_, rfl⟩
  rw [← hW2] at hLs ⊢
  have k2 : Kept (Ls W2 u2 (1 :: ps)) := ⟨hLs.1⟩
  have k1 : Kept (Ls W2 (some ⟨B1, 0, none⟩) (powL p rho N3)) := ⟨by have := hl1.out.later q2; rw [after_after, ← hW2] at this; exact this⟩
  have g0' : W2.cell? ⟨w.heap.size, 0, none⟩ = some (.int .u64 p) := by rw [hW2, after_cell _ _ _ _ hlt0]; exact g0
  have g3' : W2.cell? ⟨w.heap.size + 1, 3, none⟩ = some (.slice u m c) := by rw [hW2, after_cell _ _ _ _ hlt1]; exact g3
  have gf' : W2.cell? ⟨FB, 0, none⟩ = some (.int .u64 p) := by rw [hW2, after_cell _ _ _ _ hlt]; exact gf
  have h0' : w.heap.size < W2.heap.size := by rw [hW2, after_size]; omega
  have h1' : w.heap.size + 1 < W2.heap.size := by rw [hW2, after_size]; omega
  have hf' : FB < W2.heap.size := by rw [hW2, after_size]; omega
  have hB2 : Kept (Below w.heap.size w W2) := ⟨by rw [hW2]; exact Below.later hBW.out _⟩
  have kR2 := (⟨(kR.out.below (Nat.le_refl _) hB2.out).get e1.out⟩ : Kept _)
  clear hLs hG hkeep hsz hat hl1 g0 g3 gf hlt hlt0 hlt1 hBW hW2 cpw hrho kR
  go_wp2
  go_loopw [13, 45] (fun vs vi wr => ∃ (i : Nat) (S : Int), vs = .int .u64 S ∧ vi = .int .i64 (i : Int) ∧ i ≤ m ∧ Below W2.heap.size W2 wr ∧ U S ∧ Kept (S = fsum (tgI p rho (1 :: ps) R m) i % p)) (fun _ vi _ => ((m : Int) - intOf vi).toNat)
  case atStart => exact ⟨0, 0, rfl, rfl, by omega, (by repeat (first | exact Below.refl _ _ | refine Below.later ?_ _ | refine Below.box ?_ _ | refine Below.drew ?_ | refine Below.put ?_ (by dsimp only; omega) _)), ⟨by decide, by decide⟩, ⟨by simp [fsum]⟩⟩
  case round =>
    obtain ⟨i, S, rfl, rfl, hi, hBr, hU, hI⟩ := hrel
    obtain ⟨q4, rfl⟩ := after_of hBr
    clear hBr
    by_cases h : i < m
    · obtain ⟨b1, o1, rw', rfl, hx1, hb1, hc1, hc2, hc3, ha, hb', hc'⟩ := kR2.out i h
      have hRi : Kept (R.getD i rw0 = rw') := ⟨by rw [List.getD, hx1]; rfl⟩
      have kS : Kept (∀ j : Nat, j < 3 → ∃ sv, (∀ w, (Instr.index 81 (.agg #[rw'.a.v, rw'.b.v, rw'.c.v]) (.int .i64 (j : Int))).run Try.prog w = .ok sv w) ∧ ∀ q, Calls Try.prog 47 #[.int .u64 p, sv, .slice u2 (1 + np) c2] (after W2 q) (Gives (.int .u64 (valL p (1 :: ps) (side j rw').l)) (after W2 q))) := ⟨fun j hj => ⟨(side j rw').v, lidx_c j hj rw', fun q => by
        have hT : Tm W2 (side j rw').u (side j rw').l := by
          match j, hj with
          | 0, _ => exact ha
          | 1, _ => exact hb'
          | 2, _ => exact hc'
        have := tvalue_c p (side j rw').u (side j rw').c (side j rw').l u2 c2 (1 :: ps) (after W2 q) (hT.later q) (k2.out.later q)
        rw [List.length_cons, e2.out, Nat.add_comm np 1] at this
        exact this⟩⟩
      clear ha hb' hc' hx1
      obtain ⟨rl, hrl⟩ : ∃ rl : Nat → List (Int × Int), ∀ j, (side j rw').l = rl j := ⟨fun j => (side j rw').l, fun _ => rfl⟩
      have hrl' : Kept (∀ j, tgA p rho (1 :: ps) R m j i = rho ^ (j * m + i) * valL p (1 :: ps) (rl j)) := ⟨fun j => by rw [tgA, hRi.out, hrl]⟩
      simp only [hrl] at kS
      clear hRi hrl
      simp only [Lin.v] at *
      generalize rw'.a.l.length = an at *
      generalize rw'.b.l.length = bn at *
      generalize rw'.c.l.length = cn at *
      generalize rw'.a.u = au at *
      generalize rw'.b.u = bu at *
      generalize rw'.c.u = cu at *
      generalize rw'.a.c = ac at *
      generalize rw'.b.c = bc at *
      generalize rw'.c.c = cc at *
      go_wp2
      go_loopw [13, 57] (fun vs vj wr => ∃ (j : Nat) (S : Int), vs = .int .u64 S ∧ vj = .int .i64 (j : Int) ∧ j ≤ 3 ∧ Below W2.heap.size W2 wr ∧ U S ∧ Kept (S = (fsum (tgI p rho (1 :: ps) R m) i + fsum (fun k => tgA p rho (1 :: ps) R m k i) j) % p)) (fun _ vj _ => (3 - intOf vj).toNat)
      case atStart => exact ⟨0, S, rfl, rfl, by omega, (by repeat (first | exact Below.refl _ _ | refine Below.later ?_ _ | refine Below.box ?_ _ | refine Below.drew ?_ | refine Below.put ?_ (by dsimp only; omega) _)), hU, ⟨by rw [hI.out]; simp [fsum]⟩⟩
      case round =>
        clear hI hU
        obtain ⟨j, S, rfl, rfl, hj, hBr, hU, hI⟩ := hrel
        obtain ⟨q5, rfl⟩ := after_of hBr
        clear hBr
        by_cases h2 : j < 3
        · have hjI : (j : Int) < 3 := by omega
          obtain ⟨jm, hjm⟩ : ∃ x, j * m = x := ⟨_, rfl⟩
          have hjmI : (j : Int) * (m : Int) = (jm : Int) := by rw [← hjm]; simp
          have hjm2 : jm ≤ 2 * m := by rw [← hjm]; exact Nat.mul_le_mul_right _ (by omega)
          obtain ⟨e, he⟩ : ∃ x, jm + i = x := ⟨_, rfl⟩
          have heI : (jm : Int) + (i : Int) = (e : Int) := by omega
          have he3 : e < N3 := by omega
          obtain ⟨b2, o2, x, hbo, hx, hb2, hxc, hxU⟩ := k1.out.at_ (k := e) (by simp [powL]; omega)
          injection hbo with hbo
          injection hbo with hb3 ho3
          subst hb3 ho3
          rw [Nat.zero_add] at hxc
          have hxe : x = rho ^ e % p := by rw [powL_at he3] at hx; injection hx with hx; exact hx.symm
          obtain ⟨z, hz⟩ : ∃ z, valL p (1 :: ps) (rl j) = z := ⟨_, rfl⟩
          have hzU : U z := by rw [← hz]; exact valL_U
          obtain ⟨sv, hidx, hvl⟩ := kS.out j h2
          rw [hz] at hvl
          have cvl : Kept (∀ q, Calls Try.prog 47 #[.int .u64 p, sv, .slice u2 (1 + np) c2] (after W2 q) (Gives (.int .u64 z) (after W2 q))) := ⟨hvl⟩
          clear hvl
          have cm : Kept (∀ w, Calls Try.prog 40 #[.agg #[.int .u64 p], .int .u64 x, .int .u64 z] w (Gives (.int .u64 (fmul p x z)) w)) := ⟨fun w => mul_c p x z w hxU hzU⟩
          have ca : Kept (∀ w, Calls Try.prog 46 #[.agg #[.int .u64 p], .int .u64 S, .int .u64 (fmul p x z)] w (Gives (.int .u64 (fadd p S (fmul p x z))) w)) := ⟨fun w => add_c p S _ w hU fmul_U⟩
          have hU3 : U (fadd p S (fmul p x z)) := fadd_U
          have hI3 : Kept (fadd p S (fmul p x z) = (fsum (tgI p rho (1 :: ps) R m) i + fsum (fun k => tgA p rho (1 :: ps) R m k i) (j + 1)) % p) := ⟨by
            rw [hI.out, hxe, tg_step hv, fsum, ← Int.add_assoc, hrl'.out, hz, ← he, ← hjm]⟩
          have hjm3 : jm ≤ 40000 := by omega
          have hi3 : i ≤ 20000 := by omega
          have he3' : (e : Int) < (N3 : Int) := by omega
          have he4 : e ≤ 60000 := by omega
          clear hI hx hxe hz hzU hxU hU he hjm hjm2 hN3 hp0 hpl hb hm16
          generalize fadd p S (fmul p x z) = A at *
          generalize fmul p x z = B at *
          go_wp2
          first | refine region_quiet1 (by kernel_rfl) ?_ | refine region_quiet (by kernel_rfl) ?_
          repeat (go_big_quiet_step (first | (go_at_call 47; with_reducible exact quiet (cvl.out _)) | (go_at_call 40; with_reducible exact quiet (cm.out _)) | (go_at_call 46; with_reducible exact quiet (ca.out _))))
          refine wpQuiet_nil ?_
          intro _
          go_wp2
          go_roundw
          case rel => exact ⟨j + 1, A, rfl, by go_num, by omega, (by repeat (first | exact Below.refl _ _ | refine Below.later ?_ _ | refine Below.box ?_ _ | refine Below.drew ?_ | refine Below.put ?_ (by dsimp only; omega) _)), hU3, hI3⟩
          case measure => first | (simp [intOf]; omega) | (simp [intOf]; done)
        · have hj3 : j = 3 := by omega
          subst hj3
          have hI2 : Kept (S = fsum (tgI p rho (1 :: ps) R m) (i + 1) % p) := ⟨by rw [hI.out]; rfl⟩
          clear hI
          go_wp2
          go_roundw
          case rel => exact ⟨i + 1, S, rfl, by go_num, by omega, (by repeat (first | exact Below.refl _ _ | refine Below.later ?_ _ | refine Below.box ?_ _ | refine Below.drew ?_ | refine Below.put ?_ (by dsimp only; omega) _)), hU, hI2⟩
          case measure => first | (simp [intOf]; omega) | (simp [intOf]; done)
    · have him : i = m := by omega
      subst him
      have hI2 : Kept (tgV p rho (1 :: ps) R i = S) := ⟨by rw [hI.out]; rfl⟩
      clear hI
      go_wp2
      go_ret
      exact ⟨by rw [hI2.out]; rfl, Below.later hB2.out _⟩
end Go.Proofs.Ytpkjlnelkacbgaa
