/- The contracts of package moidoreref02. -/
import Derived.Test.YteljpelagpghcaaConY
namespace Go.Proofs.Yteljpelagpghcaa
open Go.RowKit

theorem rxadd_c (p : Int) (a b : Int × Int) (w : World) (ha : U2 a) (hb : U2 b) :
    Calls Try.prog 25 #[.int .u64 p, pv a, pv b] w (Gives (pv (xadd p a b)) w) := by
  obtain ⟨a0, a1⟩ := a
  obtain ⟨b0, b1⟩ := b
  obtain ⟨ha0, ha1⟩ := ha
  obtain ⟨hb0, hb1⟩ := hb
  dsimp only [pv, fv, xadd] at *
  go_enter Try.func25, Try.ntmps25
  go_wp2_with fail
  first | refine region_tail1 (by kernel_rfl) (by kernel_rfl) (by kernel_rfl) ?_ | refine region_tail (by kernel_rfl) (by kernel_rfl) (by kernel_rfl) ?_
  simp only [initOf, lastOf]
  repeat (go_big_quiet_step (first | (go_at_call 45; with_reducible exact quiet (radd_c p a0 b0 _ ha0 hb0)) | (go_at_call 45; with_reducible exact quiet (radd_c p a1 b1 _ ha1 hb1))))
  refine wpQuiet_nil ?_
  intro _
  go_wp2
  exact bodyPost_ret (v := .agg #[.int .u64 (fadd p a0 b0), .int .u64 (fadd p a1 b1)]) (by simp [results, Try.results25, go_sem]) rfl ⟨rfl, (by repeat (first | exact Below.refl _ _ | refine Below.later ?_ _ | refine Below.box ?_ _ | refine Below.drew ?_ | refine Below.put ?_ (by dsimp only; omega) _))⟩

theorem rxsub_c (p : Int) (a b : Int × Int) (w : World) (ha : U2 a) (hb : U2 b) :
    Calls Try.prog 27 #[.int .u64 p, pv a, pv b] w (Gives (pv (xsub p a b)) w) := by
  obtain ⟨a0, a1⟩ := a
  obtain ⟨b0, b1⟩ := b
  obtain ⟨ha0, ha1⟩ := ha
  obtain ⟨hb0, hb1⟩ := hb
  dsimp only [pv, fv, xsub] at *
  go_enter Try.func27, Try.ntmps27
  go_wp2_with fail
  first | refine region_tail1 (by kernel_rfl) (by kernel_rfl) (by kernel_rfl) ?_ | refine region_tail (by kernel_rfl) (by kernel_rfl) (by kernel_rfl) ?_
  simp only [initOf, lastOf]
  repeat (go_big_quiet_step (first | (go_at_call 46; with_reducible exact quiet (rsub_c p a0 b0 _ ha0 hb0)) | (go_at_call 46; with_reducible exact quiet (rsub_c p a1 b1 _ ha1 hb1))))
  refine wpQuiet_nil ?_
  intro _
  go_wp2
  exact bodyPost_ret (v := .agg #[.int .u64 (fsub p a0 b0), .int .u64 (fsub p a1 b1)]) (by simp [results, Try.results27, go_sem]) rfl ⟨rfl, (by repeat (first | exact Below.refl _ _ | refine Below.later ?_ _ | refine Below.box ?_ _ | refine Below.drew ?_ | refine Below.put ?_ (by dsimp only; omega) _))⟩

theorem rxmul_c (p : Int) (a b : Int × Int) (w : World) (ha : U2 a) (hb : U2 b) :
    Calls Try.prog 28 #[.int .u64 p, pv a, pv b] w (Gives (pv (xmul p a b)) w) := by
  obtain ⟨a0, a1⟩ := a
  obtain ⟨b0, b1⟩ := b
  obtain ⟨ha0, ha1⟩ := ha
  obtain ⟨hb0, hb1⟩ := hb
  dsimp only [pv, fv, xmul] at *
  have g := @gen_U p
  go_enter Try.func28, Try.ntmps28
  go_wp2_with (first | (go_at_call 23; (first | with_reducible refine use1 (rmul_c p a0 b0 _ ha0 hb0) ?_ | with_reducible refine use (rmul_c p a0 b0 _ ha0 hb0) ?_); intro pw))
  first | refine region_quiet1 (by kernel_rfl) ?_ | refine region_quiet (by kernel_rfl) ?_
  repeat (go_big_quiet_step (first | (go_at_call 47; with_reducible exact quiet (rgen_c p _)) | (go_at_call 23; with_reducible exact quiet (rmul_c p a1 b1 _ ha1 hb1)) | (go_at_call 23; with_reducible exact quiet (rmul_c p (gen p) (fmul p a1 b1) _ g fmul_U))))
  refine wpQuiet_nil ?_
  intro _
  go_wp2_with fail
  first | refine region_quiet1 (by kernel_rfl) ?_ | refine region_quiet (by kernel_rfl) ?_
  repeat (go_big_quiet_step (first | (go_at_call 23; with_reducible exact quiet (rmul_c p a0 b1 _ ha0 hb1)) | (go_at_call 23; with_reducible exact quiet (rmul_c p a1 b0 _ ha1 hb0)) | (go_at_call 45; with_reducible exact quiet (radd_c p _ _ _ fmul_U fmul_U))))
  refine wpQuiet_nil ?_
  intro _
  go_wp2_with (first | (go_at_call 45; (first | with_reducible refine use1 (radd_c p _ _ _ fmul_U fmul_U) ?_ | with_reducible refine use (radd_c p _ _ _ fmul_U fmul_U) ?_); intro pw))
  exact bodyPost_ret (v := .agg #[.int .u64 (fadd p (fmul p a0 b0) (fmul p (gen p) (fmul p a1 b1))), .int .u64 (fadd p (fmul p a0 b1) (fmul p a1 b0))]) (by simp [results, Try.results28, go_sem]) rfl ⟨rfl, (by repeat (first | exact Below.refl _ _ | refine Below.later ?_ _ | refine Below.box ?_ _ | refine Below.drew ?_ | refine Below.put ?_ (by dsimp only; omega) _))⟩

theorem rxconj_c (p : Int) (a : Int × Int) (w : World) (ha : U2 a) : Calls Try.prog 14 #[.int .u64 p, pv a] w (Gives (pv (xconj p a)) w) := by
  obtain ⟨a0, a1⟩ := a
  obtain ⟨ha0, ha1⟩ := ha
  dsimp only [pv, fv, xconj] at *
  go_enter Try.func14, Try.ntmps14
  go_wp2_with fail
  first | refine region_tail1 (by kernel_rfl) (by kernel_rfl) (by kernel_rfl) ?_ | refine region_tail (by kernel_rfl) (by kernel_rfl) (by kernel_rfl) ?_
  simp only [initOf, lastOf]
  repeat (go_big_quiet_step (first | (go_at_call 34; with_reducible exact quiet (rred_c p a0 _ ha0)) | (go_at_call 35; with_reducible exact quiet (rneg_c p a1 _ ha1))))
  refine wpQuiet_nil ?_
  intro _
  go_wp2
  exact bodyPost_ret (v := .agg #[.int .u64 (fred p a0), .int .u64 (fneg p a1)]) (by simp [results, Try.results14, go_sem]) rfl ⟨rfl, (by repeat (first | exact Below.refl _ _ | refine Below.later ?_ _ | refine Below.box ?_ _ | refine Below.drew ?_ | refine Below.put ?_ (by dsimp only; omega) _))⟩

theorem rxscale_c (p : Int) (a : Int × Int) (n : Int) (w : World) (ha : U2 a) (hn : U n) : Calls Try.prog 20 #[.int .u64 p, pv a, .int .u64 n] w (Gives (pv (xscale p a n)) w) := by
  obtain ⟨a0, a1⟩ := a
  obtain ⟨ha0, ha1⟩ := ha
  dsimp only [pv, fv, xscale] at *
  go_enter Try.func20, Try.ntmps20
  go_wp2_with fail
  first | refine region_tail1 (by kernel_rfl) (by kernel_rfl) (by kernel_rfl) ?_ | refine region_tail (by kernel_rfl) (by kernel_rfl) (by kernel_rfl) ?_
  simp only [initOf, lastOf]
  repeat (go_big_quiet_step (first | (go_at_call 23; with_reducible exact quiet (rmul_c p a0 n _ ha0 hn)) | (go_at_call 23; with_reducible exact quiet (rmul_c p a1 n _ ha1 hn))))
  refine wpQuiet_nil ?_
  intro _
  go_wp2
  exact bodyPost_ret (v := .agg #[.int .u64 (fmul p a0 n), .int .u64 (fmul p a1 n)]) (by simp [results, Try.results20, go_sem]) rfl ⟨rfl, (by repeat (first | exact Below.refl _ _ | refine Below.later ?_ _ | refine Below.box ?_ _ | refine Below.drew ?_ | refine Below.put ?_ (by dsimp only; omega) _))⟩

@[go_sem] theorem index2_0 (x y : Value) (w : World) : (Instr.index 23 (.agg #[x, y]) (.int .i64 0)).run Try.prog w = .ok x w := by kernel_rfl
@[go_sem] theorem index2_1 (x y : Value) (w : World) : (Instr.index 23 (.agg #[x, y]) (.int .i64 1)).run Try.prog w = .ok y w := by kernel_rfl

theorem norm_ref (p : Int) (a : Int × Int) : (xmul p a (xconj p a)).1 = xnorm p a := by
  cases h : vld p
  · simp [xmul, xnorm, fadd, fsub, h]
  · have e : (fmul p (gen p) (fmul p a.2 (fneg p a.2))) = (-(gen p * (a.2 * a.2))) % p := by
      simp only [fmul, fneg, h, if_true]
      rw [em_mul_r, ← Int.mul_assoc, em_mul_r]
      congr 1; grind
    show fadd p (fmul p a.1 (fred p a.1)) (fmul p (gen p) (fmul p a.2 (fneg p a.2))) = _
    rw [e]
    simp only [xnorm, fadd, fsub, fmul, fred, h, if_true]
    rw [em_mul_r, em_add_l, em_add_r, em_sub_l, em_sub_r, ← em_sub_r _ (gen p * (a.2 * a.2 % p)), em_mul_r, em_sub_r, Int.sub_eq_add_neg]

theorem rxnorm_c (p : Int) (a : Int × Int) (w : World) (ha : U2 a) : Calls Try.prog 16 #[.int .u64 p, pv a] w (Gives (.int .u64 (xnorm p a)) w) := by
  have c1 : Kept (∀ w, Calls Try.prog 14 #[.int .u64 p, pv a] w (Gives (pv (xconj p a)) w)) := ⟨fun w => rxconj_c p a w ha⟩
  have c2 : Kept (∀ w, Calls Try.prog 28 #[.int .u64 p, pv a, pv (xconj p a)] w (Gives (pv (xmul p a (xconj p a))) w)) := ⟨fun w => rxmul_c p _ _ w ha xconj_U⟩
  have hn : Kept ((xmul p a (xconj p a)).1 = xnorm p a) := ⟨norm_ref p a⟩
  generalize xmul p a (xconj p a) = m at *
  generalize xconj p a = c at *
  obtain ⟨m0, m1⟩ := m
  obtain ⟨a0, a1⟩ := a
  obtain ⟨k0, k1⟩ := c
  dsimp only [pv, fv] at *
  go_enter Try.func16, Try.ntmps16
  go_wp2_with fail
  first | refine region_quiet1 (by kernel_rfl) ?_ | refine region_quiet (by kernel_rfl) ?_
  repeat (go_big_quiet_step (first | (go_at_call 14; with_reducible exact quiet (c1.out _)) | (go_at_call 28; with_reducible exact quiet (c2.out _))))
  refine wpQuiet_nil ?_
  intro _
  go_wp2
  go_ret
  exact ⟨by rw [← hn.out]; rfl, (by repeat (first | exact Below.refl _ _ | refine Below.later ?_ _ | refine Below.box ?_ _ | refine Below.drew ?_ | refine Below.put ?_ (by dsimp only; omega) _))⟩

theorem rxinv_c (p : Int) (a : Int × Int) (w : World) (hp : U p) (ha : U2 a) : Calls Try.prog 18 #[.int .u64 p, pv a] w (Gives (pv (xinv p a)) w) := by
  have c1 : Kept (∀ w, Calls Try.prog 14 #[.int .u64 p, pv a] w (Gives (pv (xconj p a)) w)) := ⟨fun w => rxconj_c p a w ha⟩
  have c2 : Kept (∀ w, Calls Try.prog 16 #[.int .u64 p, pv a] w (Gives (.int .u64 (xnorm p a)) w)) := ⟨fun w => rxnorm_c p a w ha⟩
  have c3 : Kept (∀ w, Calls Try.prog 40 #[.int .u64 p, .int .u64 (xnorm p a)] w (Gives (.int .u64 (finv p (xnorm p a))) w)) := ⟨fun w => rinv_c p _ w hp xnorm_U⟩
  have c4 : Kept (∀ w, Calls Try.prog 20 #[.int .u64 p, pv (xconj p a), .int .u64 (finv p (xnorm p a))] w (Gives (pv (xinv p a)) w)) := ⟨fun w => rxscale_c p _ _ w xconj_U finv_U⟩
  generalize xinv p a = r at *
  generalize finv p (xnorm p a) = v at *
  generalize xnorm p a = n at *
  generalize xconj p a = c at *
  obtain ⟨r0, r1⟩ := r
  obtain ⟨a0, a1⟩ := a
  obtain ⟨k0, k1⟩ := c
  dsimp only [pv, fv] at *
  go_enter Try.func18, Try.ntmps18
  go_wp2_with fail
  first | refine region_tail1 (by kernel_rfl) (by kernel_rfl) (by kernel_rfl) ?_ | refine region_tail (by kernel_rfl) (by kernel_rfl) (by kernel_rfl) ?_
  simp only [initOf, lastOf]
  repeat (go_big_quiet_step (first | (go_at_call 14; with_reducible exact quiet (c1.out _)) | (go_at_call 16; with_reducible exact quiet (c2.out _)) | (go_at_call 40; with_reducible exact quiet (c3.out _)) | (go_at_call 20; with_reducible exact quiet (c4.out _))))
  refine wpQuiet_nil ?_
  intro _
  go_wp2
  exact bodyPost_ret (v := .agg #[.int .u64 r0, .int .u64 r1]) (by simp [results, Try.results18, go_sem]) rfl ⟨rfl, (by repeat (first | exact Below.refl _ _ | refine Below.later ?_ _ | refine Below.box ?_ _ | refine Below.drew ?_ | refine Below.put ?_ (by dsimp only; omega) _))⟩

/-! ### the power, bit by bit from above -/
theorem xpow_zero (p : Int) (a : Int × Int) : xpow p a 0 = (fred p 1, 0) := by
  unfold xpow ppow pone fred
  split <;> rfl
theorem xpow_two (p : Int) (a : Int × Int) (n : Nat) : xpow p a (2 * n) = xmul p (xpow p a n) (xpow p a n) := by
  cases h : vld p
  · rw [xmul_not h]; simp [xpow, h]
  · rw [xmul_valid h]; simp only [xpow, h, if_true]; rw [Nat.mul_comm, ppow_mul, ppow_two]
theorem xpow_succ (p : Int) (a : Int × Int) (n : Nat) : xpow p a (n + 1) = xmul p (xpow p a n) a := by
  cases h : vld p
  · rw [xmul_not h]; simp [xpow, h]
  · rw [xmul_valid h]; simp only [xpow, h, if_true]; rw [ppow]
theorem bit_step (e k : Nat) : e / 2 ^ k = 2 * (e / 2 ^ (k + 1)) + e / 2 ^ k % 2 := by
  rw [Nat.pow_succ, ← Nat.div_div_eq_div_mul]; omega

structure RPowRel (p : Int) (a : Int × Int) (e : Nat) (w : World) (b1 b2 b3 : Nat) (k : Nat) (wr : World) : Prop where
  le : k ≤ 64
  below : Below w.heap.size w wr
  ca : Cell2 wr b1 a.1 a.2
  c2 : Cell2 wr b2 0 0
  cr : Cell2 wr b3 (xpow p a (e / 2 ^ k)).1 (xpow p a (e / 2 ^ k)).2

set_option maxHeartbeats 1000000 in
theorem rxpow_c (p : Int) (a : Int × Int) (e : Nat) (w : World) (ha : U2 a) (he : BigB e) : Calls Try.prog 30 #[.int .u64 p, pv a, .int .u64 e] w (Gives (pv (xpow p a e)) w) := by
  have hst : Kept (xpow p a (e / 2 ^ 64) = (fred p 1, 0)) := ⟨by rw [Nat.div_eq_of_lt (by have := he.out; omega), xpow_zero]⟩
  obtain ⟨a0, a1⟩ := a
  have u1 : U 1 := ⟨by omega, by omega⟩
  have ha' : Kept (U2 (a0, a1)) := ⟨ha⟩
  clear ha
  dsimp only [pv, fv]
  go_enter Try.func30, Try.ntmps30
  go_wp2_with (first | (go_at_call 34; (first | with_reducible refine use1 (rred_c p 1 _ u1) ?_ | with_reducible refine use (rred_c p 1 _ u1) ?_); intro pw))
  generalize hb3 : w.heap.size + 1 + 1 + pw.os.size = b3
  have hk3 : Kept (b3 = w.heap.size + 1 + 1 + pw.os.size) := ⟨hb3.symm⟩
  clear hb3
  go_loopw [8] (fun vi wr => ∃ (i : Int) (k : Nat), vi = .int .i64 i ∧ -1 ≤ i ∧ i ≤ 63 ∧ Kept (i + 1 = (k : Int)) ∧ RPowRel p (a0, a1) e w w.heap.size (w.heap.size + 1) b3 k wr) (fun vi _ => (intOf vi + 1).toNat)
  case atStart =>
    refine ⟨63, 64, rfl, by omega, by omega, ⟨rfl⟩, by omega, (by repeat (first | exact Below.refl _ _ | refine Below.later ?_ _ | refine Below.box ?_ _ | refine Below.drew ?_ | refine Below.put ?_ (by dsimp only; omega) _)), ?_, ?_, ?_⟩
    · exact (((Cell2.new w a0 a1 _).boxed _).later _).boxed _
    · have := (((Cell2.new (w.alloc (.cells #[.int .u64 a0, .int .u64 a1] 23)) 0 0 23).later pw).boxed (.cells #[.int .u64 (fred p 1), .int .u64 0] 23))
      simpa using this
    · rw [hk3.out, hst.out]
      have := Cell2.new (after ((w.alloc (.cells #[.int .u64 a0, .int .u64 a1] 23)).alloc (.cells #[.int .u64 0, .int .u64 0] 23)) pw) (fred p 1) 0 23
      simpa using this
  case round =>
    obtain ⟨i, k, rfl, hi0, hi1, hik, hR⟩ := hrel
    have hK : Kept (RPowRel p (a0, a1) e w w.heap.size (w.heap.size + 1) b3 k wr) := ⟨hR⟩
    obtain ⟨hle, _, ⟨ca0, ca1, fa0, fa1, la⟩, ⟨c20, c21, f20, f21, l2⟩, ⟨cr0, cr1, fr0, fr1, lr⟩⟩ := hR
    have n1 : ¬ w.heap.size = b3 := by have := hk3.out; omega
    have n2 : ¬ b3 = w.heap.size := by have := hk3.out; omega
    have uR : Kept (U2 (xpow p (a0, a1) (e / 2 ^ k))) := ⟨xpow_U⟩
    have hx : Kept (xpow p (a0, a1) (e / 2 ^ k) = xpow p (a0, a1) (e / 2 ^ k)) := ⟨rfl⟩
    by_cases hneg : i < 0
    · have e0 : Kept (xpow p (a0, a1) (e / 2 ^ k) = xpow p (a0, a1) e) := ⟨by have := hik.out; rw [show k = 0 from by omega]; simp⟩
      generalize xpow p (a0, a1) (e / 2 ^ k) = r at *
      obtain ⟨r0, r1⟩ := r
      go_wp2_with fail
      rw [← e0.out]
      refine bodyPost_ret (v := .agg #[.int .u64 r0, .int .u64 r1]) (by simp [results, Try.results30, go_sem, *]) rfl ⟨rfl, ?_⟩
      exact Below.put (Below.put hK.out.below (by dsimp only; omega) _) (by dsimp only; omega) _
    · have cRR : Kept (∀ w, Calls Try.prog 28 #[.int .u64 p, pv (xpow p (a0, a1) (e / 2 ^ k)), pv (xpow p (a0, a1) (e / 2 ^ k))] w (Gives (pv (xmul p (xpow p (a0, a1) (e / 2 ^ k)) (xpow p (a0, a1) (e / 2 ^ k)))) w)) := ⟨fun w => rxmul_c p _ _ w uR.out uR.out⟩
      generalize hr : xpow p (a0, a1) (e / 2 ^ k) = r at *
      have hr' : Kept (xpow p (a0, a1) (e / 2 ^ k) = r) := ⟨hr⟩
      clear hr hx
      generalize hm : xmul p r r = m at *
      have hm' : Kept (xmul p r r = m) := ⟨hm⟩
      clear hm
      have cRA : Kept (∀ w, Calls Try.prog 28 #[.int .u64 p, pv m, pv (a0, a1)] w (Gives (pv (xmul p m (a0, a1))) w)) := ⟨fun w => rxmul_c p _ _ w (by rw [← hm'.out]; exact xmul_U) ha'.out⟩
      generalize hn : xmul p m (a0, a1) = n at *
      have hn' : Kept (xmul p m (a0, a1) = n) := ⟨hn⟩
      clear hn
      obtain ⟨r0, r1⟩ := r
      obtain ⟨m0, m1⟩ := m
      obtain ⟨z0, z1⟩ := n
      dsimp only [pv] at *
      have hm64 : min i.toNat 64 = i.toNat := by omega
      have hbit : bits .and .u64 ((e : Int) / 2 ^ i.toNat) 1 = ((e / 2 ^ i.toNat % 2 : Nat) : Int) := by
        have h2 : ((e : Int) / 2 ^ i.toNat) = ((e / 2 ^ i.toNat : Nat) : Int) := by rw [Int.natCast_ediv, Int.natCast_pow]; rfl
        have h3 : e / 2 ^ i.toNat ≤ e := Nat.div_le_self _ _
        have := he.out
        obtain ⟨d, hd⟩ : ∃ d : Nat, e / 2 ^ i.toNat = d := ⟨_, rfl⟩
        rw [hd] at h2 h3 ⊢
        rw [h2, and_one_u64 _ (by omega) (by omega)]; omega
      have hki : Kept (k = i.toNat + 1) := ⟨by have := hik.out; omega⟩
      by_cases ho : e / 2 ^ i.toNat % 2 = 1
      · have hb1 : bits .and .u64 ((e : Int) / 2 ^ i.toNat) 1 = 1 := by rw [hbit, ho]; rfl
        have hs : Kept ((z0, z1) = xpow p (a0, a1) (e / 2 ^ i.toNat)) := ⟨by
          rw [bit_step e i.toNat, ho, xpow_succ, xpow_two, ← hki.out, hr'.out, hm'.out, hn'.out]⟩
        clear hbit
        go_wp2_with (first | (go_at_call 28; (first | with_reducible refine use1 (cRR.out _) ?_ | with_reducible refine use (cRR.out _) ?_); intro pw) | (go_at_call 28; (first | with_reducible refine use1 (cRA.out _) ?_ | with_reducible refine use (cRA.out _) ?_); intro pw))
        go_roundw
        case rel =>
          go_light
          refine ⟨i - 1, i.toNat, rfl, by omega, by omega, ⟨by omega⟩, by omega, ?_, ?_, ?_, ?_⟩
          · exact Below.put (Below.put (Below.later (Below.put (Below.put (Below.later hK.out.below _) (by have := hk3.out; dsimp only; omega) _) (by have := hk3.out; dsimp only; omega) _) _) (by have := hk3.out; dsimp only; omega) _) (by have := hk3.out; dsimp only; omega) _
          · exact (((((hK.out.ca.later _).other n2 _).other n2 _).later _).other n2 _).other n2 _
          · exact (((((hK.out.c2.later _).other (by have := hk3.out; dsimp only; omega) _).other (by have := hk3.out; dsimp only; omega) _).later _).other (by have := hk3.out; dsimp only; omega) _).other (by have := hk3.out; dsimp only; omega) _
          · rw [← hs.out]; exact (((hK.out.cr.later _).put _ _).later _).put _ _
        case measure => first | (simp [intOf]; omega) | (simp [intOf]; done)
      · have hb1 : bits .and .u64 ((e : Int) / 2 ^ i.toNat) 1 = 0 := by rw [hbit, show e / 2 ^ i.toNat % 2 = 0 from by omega]; rfl
        have hs : Kept ((m0, m1) = xpow p (a0, a1) (e / 2 ^ i.toNat)) := ⟨by
          rw [bit_step e i.toNat, show e / 2 ^ i.toNat % 2 = 0 from by omega, Nat.add_zero, xpow_two, ← hki.out, hr'.out, hm'.out]⟩
        clear hbit
        go_wp2_with (first | (go_at_call 28; (first | with_reducible refine use1 (cRR.out _) ?_ | with_reducible refine use (cRR.out _) ?_); intro pw))
        go_roundw
        case rel =>
          go_light
          refine ⟨i - 1, i.toNat, rfl, by omega, by omega, ⟨by omega⟩, by omega, ?_, ?_, ?_, ?_⟩
          · exact Below.put (Below.put (Below.later hK.out.below _) (by have := hk3.out; dsimp only; omega) _) (by have := hk3.out; dsimp only; omega) _
          · exact ((hK.out.ca.later _).other n2 _).other n2 _
          · exact ((hK.out.c2.later _).other (by have := hk3.out; dsimp only; omega) _).other (by have := hk3.out; dsimp only; omega) _
          · rw [← hs.out]; exact (hK.out.cr.later _).put _ _
        case measure => first | (simp [intOf]; omega) | (simp [intOf]; done)
end Go.Proofs.Yteljpelagpghcaa
