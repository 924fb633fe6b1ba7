/- The reference's Target: the same number as layout.Target's. -/
import Derived.Test.YtpkjlnelkacbgaaHTgt
namespace Go.Proofs.Ytpkjlnelkacbgaa
open Go.RowKit Go.Sort

set_option maxRecDepth 100000
set_option pp.maxSteps 300
theorem fsum_add (f g : Nat → Int) : ∀ n, fsum (fun i => f i + g i) n = fsum f n + fsum g n
  | 0 => rfl
  | n + 1 => by simp only [fsum, fsum_add f g n]; omega
theorem fsum_congr {f g : Nat → Int} : ∀ {n : Nat}, (∀ i, i < n → f i = g i) → fsum f n = fsum g n
  | 0, _ => rfl
  | n + 1, h => by rw [fsum, fsum, fsum_congr (fun i hi => h i (by omega)), h n (by omega)]
theorem fsum_zero : ∀ n, fsum (fun _ => 0) n = 0
  | 0 => rfl
  | n + 1 => by rw [fsum, fsum_zero n]; rfl
theorem fsum_swap (f : Nat → Nat → Int) (n : Nat) : ∀ m, fsum (fun k => fsum (fun i => f k i) n) m = fsum (fun i => fsum (fun k => f k i) m) n
  | 0 => by simp only [fsum]; exact (fsum_zero n).symm
  | m + 1 => by simp only [fsum, fsum_swap f n m]; rw [← fsum_add]
def tgK (p rho : Int) (ws : List Int) (R : List Rw) (m k : Nat) : Int := fsum (fun i => tgA p rho ws R m k i) m
theorem tgV_eq (p rho : Int) (ws : List Int) (R : List Rw) (m : Nat) : tgV p rho ws R m = fsum (tgK p rho ws R m) 3 % p := by
  unfold tgV tgI tgK
  rw [fsum_swap]
theorem pow_step {p : Int} (hv : vld p = true) (rho : Int) (e : Nat) : fmul p (rho ^ e % p) rho = rho ^ (e + 1) % p := by
  unfold fmul; rw [if_pos hv, Int.pow_succ]
  simp [Int.mul_emod]

set_option maxHeartbeats 8000000 in
theorem rtarget_c (p b q k n s r p0 p1 p2 p3 pub vs rho : Int) (u : Option Addr) (c : Nat) (R : List Rw) (up : Option Addr) (cp : Nat) (ps : List Int) (w : World) (hv : vld p = true) (hm16 : R.length ≤ 16384) (hR : Rws w u R) (hps : Ls w up ps) (hpl : ps.length ≤ 65536) (hup : up = none → cp = 0) (hrho : U rho) :
    Calls Try.prog 22 #[.agg #[.int .u64 p, .int .i64 b, .int .i64 q, .int .i64 k, .int .i64 n, .int .i64 s, .int .i64 r, .int .i64 p0, .int .i64 p1, .int .i64 p2, .int .i64 p3], .agg #[.int .u64 p, .int .i64 pub, .int .i64 vs, .slice u R.length c], .slice up ps.length cp, .int .u64 rho] w (Gives (.int .u64 (tgV p rho (1 :: ps) R R.length)) w) := by
  rw [tgV_eq]
  obtain ⟨m, hm⟩ : ∃ m, R.length = m := ⟨_, rfl⟩
  obtain ⟨np, hnp⟩ : ∃ m, ps.length = m := ⟨_, rfl⟩
  have hp0 := vld_pos hv
  have kR : Kept (Rws w u R) := ⟨hR⟩
  have kps : Kept (Ls w up ps ∧ (up = none → cp = 0)) := ⟨hps, hup⟩
  have e1 : Kept (R.length = m) := ⟨hm⟩
  have e2 : Kept (ps.length = np) := ⟨hnp⟩
  have hv' : Kept (vld p = true) := ⟨hv⟩
  rw [hm] at hm16 ⊢
  rw [hnp] at hpl ⊢
  clear hR hps hup hm hnp hv
  go_enter Try.func22, Try.ntmps22
  go_wp2_with (first | (at_builtin; refine wpList_pushL (W := (w.alloc (.cells #[.int .u64 p, .int .i64 b, .int .i64 q, .int .i64 k, .int .i64 n, .int .i64 s, .int .i64 r, .int .i64 p0, .int .i64 p1, .int .i64 p2, .int .i64 p3] 36)).alloc (.cells #[.int .u64 p, .int .i64 pub, .int .i64 vs, .slice u m c] 25)) rfl _ _ rfl _ [1] 1 rfl (by have := Grown.one 22 ((w.alloc (.cells #[.int .u64 p, .int .i64 b, .int .i64 q, .int .i64 k, .int .i64 n, .int .i64 s, .int .i64 r, .int .i64 p0, .int .i64 p1, .int .i64 p2, .int .i64 p3] 36)).alloc (.cells #[.int .u64 p, .int .i64 pub, .int .i64 vs, .slice u m c] 25)) (.int .u64 1); simp only [World.size_alloc] at this; exact this) rfl up ps np cp e2.out rfl (kps.out.1.below (Nat.le_refl _) (by repeat (first | exact Below.refl _ _ | refine Below.later ?_ _ | refine Below.box ?_ _ | refine Below.drew ?_ | refine Below.put ?_ (by dsimp only; omega) _))) kps.out.2 (by omega) ?_; intro v2 w2 hG hkeep hsz hat; refine Stop.out ?_))
  refine ⟨?_⟩
  obtain ⟨u2, c2, rfl, _⟩ := hG.form
  have hLs := hG.ls rfl (by omega) (fun x hx => by
    rcases List.mem_cons.1 hx with rfl | hx
    · exact ⟨by decide, by decide⟩
    · exact kps.out.1.all x hx)
  rw [show [1] ++ ps = 1 :: ps from rfl] at hLs
  have k2 : Kept (Ls w2 u2 (1 :: ps)) := ⟨hLs.1⟩
  have hGb := hG.below
  have hB2 : Kept (Below w.heap.size w w2) := ⟨Below.next (by repeat (first | exact Below.refl _ _ | refine Below.later ?_ _ | refine Below.box ?_ _ | refine Below.drew ?_ | refine Below.put ?_ (by dsimp only; omega) _)) hGb⟩
  have g0 : w2.cell? ⟨w.heap.size + 1, 0, none⟩ = some (.int .u64 p) := by rw [hGb.cell (p := ⟨w.heap.size + 1, 0, none⟩) (by simp)]; simp [go_sem]
  have g3 : w2.cell? ⟨w.heap.size + 1, 3, none⟩ = some (.slice u m c) := by rw [hGb.cell (p := ⟨w.heap.size + 1, 3, none⟩) (by simp)]; simp [go_sem]
  have h1' : w.heap.size + 1 < w2.heap.size := by have := hGb.size; simp at this; omega
  have kR2 := (⟨(kR.out.below (Nat.le_refl _) hB2.out).get e1.out⟩ : Kept _)
  clear hLs hG hGb hkeep hsz hat kR kps hpl
  go_wp2
  go_loopw [10, 11, 12] (fun vs vx vk wr => ∃ (kk : Nat) (S x : Int), vs = .int .u64 S ∧ vx = .int .u64 x ∧ vk = .int .i64 (kk : Int) ∧ kk ≤ 3 ∧ Below w2.heap.size w2 wr ∧ U S ∧ U x ∧ Kept (S = fsum (tgK p rho (1 :: ps) R m) kk % p ∧ x = rho ^ (kk * m) % p)) (fun _ _ vk _ => (3 - intOf vk).toNat)
  case atStart => exact ⟨0, 0, 1, rfl, rfl, rfl, by omega, (by repeat (first | exact Below.refl _ _ | refine Below.later ?_ _ | refine Below.box ?_ _ | refine Below.drew ?_ | refine Below.put ?_ (by dsimp only; omega) _)), ⟨by decide, by decide⟩, ⟨by decide, by decide⟩, ⟨by simp [fsum], by rw [Nat.zero_mul, Int.pow_zero]; exact (Int.emod_eq_of_lt (by omega) (by omega)).symm⟩⟩
  case round =>
    obtain ⟨kk, S, x, rfl, rfl, rfl, hk, hBr, hU, hUx, hI⟩ := hrel
    obtain ⟨q4, rfl⟩ := after_of hBr
    clear hBr
    by_cases h : kk < 3
    · have hkI : (kk : Int) < 3 := by omega
      go_wp2
      go_loopw [10, 11, 13] (fun vs vx vi wr => ∃ (i : Nat) (S x : Int), vs = .int .u64 S ∧ vx = .int .u64 x ∧ vi = .int .i64 (i : Int) ∧ i ≤ m ∧ Below w2.heap.size w2 wr ∧ U S ∧ U x ∧ Kept (S = (fsum (tgK p rho (1 :: ps) R m) kk + fsum (fun i => tgA p rho (1 :: ps) R m kk i) i) % p ∧ x = rho ^ (kk * m + i) % p)) (fun _ _ vi _ => ((m : Int) - intOf vi).toNat)
      case atStart => exact ⟨0, S, x, rfl, rfl, rfl, by omega, (by repeat (first | exact Below.refl _ _ | refine Below.later ?_ _ | refine Below.box ?_ _ | refine Below.drew ?_ | refine Below.put ?_ (by dsimp only; omega) _)), hU, hUx, ⟨by rw [hI.out.1]; simp [fsum], by rw [hI.out.2]; rfl⟩⟩
      case round =>
        clear hI hU hUx
        obtain ⟨i, S, x, rfl, rfl, rfl, hi, hBr, hU, hUx, hI⟩ := hrel
        obtain ⟨q5, rfl⟩ := after_of hBr
        clear hBr
        by_cases h2 : i < m
        · obtain ⟨b1, o1, rw', rfl, hx1, hb1, hc1, hc2, hc3, ha, hb', hc'⟩ := kR2.out i h2
          have hRi : R.getD i rw0 = rw' := by rw [List.getD, hx1]; rfl
          obtain ⟨sv, hsv⟩ : ∃ sv, (side kk rw').v = sv := ⟨_, rfl⟩
          have hidx : ∀ w, (Instr.index 81 (.agg #[rw'.a.v, rw'.b.v, rw'.c.v]) (.int .i64 (kk : Int))).run Try.prog w = .ok sv w := fun w => by rw [← hsv]; exact lidx_c kk h rw' w
          obtain ⟨z, hz⟩ : ∃ z, valL p (1 :: ps) (side kk rw').l = z := ⟨_, rfl⟩
          have hzU : U z := by rw [← hz]; exact valL_U
          have hT : Tm w2 (side kk rw').u (side kk rw').l := by
            match kk, h with
            | 0, _ => exact ha
            | 1, _ => exact hb'
            | 2, _ => exact hc'
          have cvl : Kept (∀ q, Calls Try.prog 49 #[.int .u64 p, sv, .slice u2 (1 + np) c2] (after w2 q) (Gives (.int .u64 z) (after w2 q))) := ⟨fun q => by
            have := rvalue_c p (side kk rw').u (side kk rw').c (side kk rw').l u2 c2 (1 :: ps) (after w2 q) (hT.later q) (k2.out.later q)
            rw [hz, List.length_cons, e2.out, Nat.add_comm np 1] at this
            rw [← hsv]
            exact this⟩
          have csd : Kept (∀ w, Calls Try.prog 42 #[.agg #[rw'.a.v, rw'.b.v, rw'.c.v]] w (Gives (.agg #[rw'.a.v, rw'.b.v, rw'.c.v]) w)) := ⟨fun w => sides_c rw' w⟩
          have cm : Kept (∀ w, Calls Try.prog 44 #[.int .u64 p, .int .u64 x, .int .u64 z] w (Gives (.int .u64 (fmul p x z)) w)) := ⟨fun w => rmul_c p x z w hUx hzU⟩
          have ca : Kept (∀ w, Calls Try.prog 48 #[.int .u64 p, .int .u64 S, .int .u64 (fmul p x z)] w (Gives (.int .u64 (fadd p S (fmul p x z))) w)) := ⟨fun w => radd_c p S _ w hU fmul_U⟩
          have cx : Kept (∀ w, Calls Try.prog 44 #[.int .u64 p, .int .u64 x, .int .u64 rho] w (Gives (.int .u64 (fmul p x rho)) w)) := ⟨fun w => rmul_c p x rho w hUx hrho⟩
          have hU3 : U (fadd p S (fmul p x z)) := fadd_U
          have hU4 : U (fmul p x rho) := fmul_U
          have hI3 : Kept (fadd p S (fmul p x z) = (fsum (tgK p rho (1 :: ps) R m) kk + fsum (fun i => tgA p rho (1 :: ps) R m kk i) (i + 1)) % p ∧ fmul p x rho = rho ^ (kk * m + (i + 1)) % p) := ⟨by
            rw [hI.out.1, hI.out.2, tg_step hv'.out, fsum, ← Int.add_assoc, tgA, hRi, hz], by rw [hI.out.2, pow_step hv'.out]; rfl⟩
          clear hI hx1 hz hzU hU hUx hsv hRi ha hb' hc' hT
          simp only [Lin.v] at *
          generalize rw'.a.l.length = an at *
          generalize rw'.b.l.length = bn at *
          generalize rw'.c.l.length = cn at *
          generalize rw'.a.u = au at *
          generalize rw'.b.u = bu at *
          generalize rw'.c.u = cu at *
          generalize rw'.a.c = ac at *
          generalize rw'.b.c = bc at *
          generalize rw'.c.c = cc at *
          generalize fadd p S (fmul p x z) = A at *
          generalize fmul p x z = B at *
          generalize fmul p x rho = X at *
          go_wp2
          first | refine region_quiet1 (by kernel_rfl) ?_ | refine region_quiet (by kernel_rfl) ?_
          repeat (go_big_quiet_step (first | (go_at_call 42; with_reducible exact quiet (csd.out _)) | (go_at_call 49; with_reducible exact quiet (cvl.out _)) | (go_at_call 44; with_reducible exact quiet (cm.out _)) | (go_at_call 48; with_reducible exact quiet (ca.out _))))
          refine wpQuiet_nil ?_
          intro _
          go_wp2_with (first | (go_at_call 44; (first | with_reducible refine use1 (cx.out _) ?_ | with_reducible refine use (cx.out _) ?_); intro pw))
          go_roundw
          case rel => exact ⟨i + 1, A, X, rfl, rfl, by go_num, by omega, (by repeat (first | exact Below.refl _ _ | refine Below.later ?_ _ | refine Below.box ?_ _ | refine Below.drew ?_ | refine Below.put ?_ (by dsimp only; omega) _)), hU3, hU4, hI3⟩
          case measure => first | (simp [intOf]; omega) | (simp [intOf]; done)
        · have him : i = m := by omega
          have hI2 : Kept (S = fsum (tgK p rho (1 :: ps) R m) (kk + 1) % p ∧ x = rho ^ ((kk + 1) * m) % p) := ⟨by rw [hI.out.1, him]; rfl, by rw [hI.out.2, him, Nat.add_mul, Nat.one_mul]⟩
          clear hI
          go_wp2
          go_roundw
          case rel => exact ⟨kk + 1, S, x, rfl, rfl, by go_num, by omega, (by repeat (first | exact Below.refl _ _ | refine Below.later ?_ _ | refine Below.box ?_ _ | refine Below.drew ?_ | refine Below.put ?_ (by dsimp only; omega) _)), hU, hUx, hI2⟩
          case measure => first | (simp [intOf]; omega) | (simp [intOf]; done)
    · have hk3 : kk = 3 := by omega
      subst hk3
      have hI2 : Kept (S = fsum (tgK p rho (1 :: ps) R m) 3 % p) := ⟨hI.out.1⟩
      clear hI
      go_wp2
      go_ret
      exact ⟨by rw [← hI2.out]; rfl, Below.later hB2.out _⟩
end Go.Proofs.Ytpkjlnelkacbgaa
