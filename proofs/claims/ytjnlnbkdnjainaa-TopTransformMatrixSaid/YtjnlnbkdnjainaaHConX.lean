/- The contracts of packages extension and moidoreref02. -/
import Derived.Test.YtjnlnbkdnjainaaQB
import Derived.Test.YtjnlnbkdnjainaaHExt
namespace Go.Proofs.Ytjnlnbkdnjainaa
open Go.RowKit

/-- A pair of numbers as a value. -/
abbrev pv (a : Int × Int) : Value := .agg #[.int .u64 a.1, .int .u64 a.2]
abbrev fv (p : Int) : Value := .agg #[.int .u64 p]

/-! what the operations of the extension compute -/
def xadd (p : Int) (a b : Int × Int) : Int × Int := (fadd p a.1 b.1, fadd p a.2 b.2)
def xsub (p : Int) (a b : Int × Int) : Int × Int := (fsub p a.1 b.1, fsub p a.2 b.2)
def xmul (p : Int) (a b : Int × Int) : Int × Int := (fadd p (fmul p a.1 b.1) (fmul p (gen p) (fmul p a.2 b.2)), fadd p (fmul p a.1 b.2) (fmul p a.2 b.1))
def xconj (p : Int) (a : Int × Int) : Int × Int := (fred p a.1, fneg p a.2)
def xnorm (p : Int) (a : Int × Int) : Int := fsub p (fmul p a.1 a.1) (fmul p (gen p) (fmul p a.2 a.2))
def xscale (p : Int) (a : Int × Int) (n : Int) : Int × Int := (fmul p a.1 n, fmul p a.2 n)
def xinv (p : Int) (a : Int × Int) : Int × Int := xscale p (xconj p a) (finv p (xnorm p a))
def U2 (a : Int × Int) : Prop := U a.1 ∧ U a.2

theorem xmul_c (p : Int) (a b : Int × Int) (w : World) (ha : U2 a) (hb : U2 b) :
    Calls Try.prog 19 #[fv p, pv a, pv b] w (Gives (pv (xmul p a b)) w) := by
  obtain ⟨a0, a1⟩ := a
  obtain ⟨b0, b1⟩ := b
  obtain ⟨ha0, ha1⟩ := ha
  obtain ⟨hb0, hb1⟩ := hb
  dsimp only [pv, fv, xmul] at *
  have g := @gen_U p
  go_enter Try.func19, Try.ntmps19
  go_wp2_with fail
  first | refine region_quiet1 (by kernel_rfl) ?_ | refine region_quiet (by kernel_rfl) ?_
  repeat (go_big_quiet_step (first | (go_at_call 16; with_reducible exact quiet (gen_c p _)) | (go_at_call 15; with_reducible exact quiet (mul_c p a1 b1 _ ha1 hb1)) | (go_at_call 15; with_reducible exact quiet (mul_c p (gen p) (fmul p a1 b1) _ g fmul_U))))
  refine wpQuiet_nil ?_
  intro _
  go_wp2_with fail
  first | refine region_tail1 (by kernel_rfl) (by kernel_rfl) (by kernel_rfl) ?_ | refine region_tail (by kernel_rfl) (by kernel_rfl) (by kernel_rfl) ?_
  simp only [initOf, lastOf]
  repeat (go_big_quiet_step (first | (go_at_call 15; with_reducible exact quiet (mul_c p a0 b0 _ ha0 hb0)) | (go_at_call 15; with_reducible exact quiet (mul_c p a0 b1 _ ha0 hb1)) | (go_at_call 15; with_reducible exact quiet (mul_c p a1 b0 _ ha1 hb0)) | (go_at_call 56; with_reducible exact quiet (add_c p _ _ _ fmul_U fmul_U))))
  refine wpQuiet_nil ?_
  intro _
  go_wp2
  exact bodyPost_ret (v := .agg #[.int .u64 (fadd p (fmul p a0 b0) (fmul p (gen p) (fmul p a1 b1))), .int .u64 (fadd p (fmul p a0 b1) (fmul p a1 b0))]) (by simp [results, Try.results19, go_sem]) rfl ⟨rfl, (by repeat (first | exact Below.refl _ _ | refine Below.later ?_ _ | refine Below.box ?_ _ | refine Below.drew ?_ | refine Below.put ?_ (by dsimp only; omega) _))⟩

theorem xconj_c (p : Int) (a : Int × Int) (w : World) (ha : U2 a) : Calls Try.prog 61 #[fv p, pv a] w (Gives (pv (xconj p a)) w) := by
  obtain ⟨a0, a1⟩ := a
  obtain ⟨ha0, ha1⟩ := ha
  dsimp only [pv, fv, xconj] at *
  go_enter Try.func61, Try.ntmps61
  go_wp2_with fail
  first | refine region_tail1 (by kernel_rfl) (by kernel_rfl) (by kernel_rfl) ?_ | refine region_tail (by kernel_rfl) (by kernel_rfl) (by kernel_rfl) ?_
  simp only [initOf, lastOf]
  repeat (go_big_quiet_step (first | (go_at_call 14; with_reducible exact quiet (red_c p a0 _ ha0)) | (go_at_call 68; with_reducible exact quiet (neg_c p a1 _ ha1))))
  refine wpQuiet_nil ?_
  intro _
  go_wp2
  exact bodyPost_ret (v := .agg #[.int .u64 (fred p a0), .int .u64 (fneg p a1)]) (by simp [results, Try.results61, go_sem]) rfl ⟨rfl, (by repeat (first | exact Below.refl _ _ | refine Below.later ?_ _ | refine Below.box ?_ _ | refine Below.drew ?_ | refine Below.put ?_ (by dsimp only; omega) _))⟩

theorem xnorm_c (p : Int) (a : Int × Int) (w : World) (ha : U2 a) : Calls Try.prog 21 #[fv p, pv a] w (Gives (.int .u64 (xnorm p a)) w) := by
  obtain ⟨a0, a1⟩ := a
  obtain ⟨ha0, ha1⟩ := ha
  dsimp only [pv, fv, xnorm] at *
  have g := @gen_U p
  go_enter Try.func21, Try.ntmps21
  go_wp2_with fail
  first | refine region_quiet1 (by kernel_rfl) ?_ | refine region_quiet (by kernel_rfl) ?_
  repeat (go_big_quiet_step (first | (go_at_call 16; with_reducible exact quiet (gen_c p _)) | (go_at_call 15; with_reducible exact quiet (mul_c p a0 a0 _ ha0 ha0)) | (go_at_call 15; with_reducible exact quiet (mul_c p a1 a1 _ ha1 ha1)) | (go_at_call 15; with_reducible exact quiet (mul_c p (gen p) (fmul p a1 a1) _ g fmul_U)) | (go_at_call 59; with_reducible exact quiet (sub_c p _ _ _ fmul_U fmul_U))))
  refine wpQuiet_nil ?_
  intro _
  go_wp2
  go_ret
  exact ⟨rfl, (by repeat (first | exact Below.refl _ _ | refine Below.later ?_ _ | refine Below.box ?_ _ | refine Below.drew ?_ | refine Below.put ?_ (by dsimp only; omega) _))⟩

theorem xscale_c (p : Int) (a : Int × Int) (n : Int) (w : World) (ha : U2 a) (hn : U n) : Calls Try.prog 60 #[fv p, pv a, .int .u64 n] w (Gives (pv (xscale p a n)) w) := by
  obtain ⟨a0, a1⟩ := a
  obtain ⟨ha0, ha1⟩ := ha
  dsimp only [pv, fv, xscale] at *
  go_enter Try.func60, Try.ntmps60
  go_wp2_with fail
  first | refine region_tail1 (by kernel_rfl) (by kernel_rfl) (by kernel_rfl) ?_ | refine region_tail (by kernel_rfl) (by kernel_rfl) (by kernel_rfl) ?_
  simp only [initOf, lastOf]
  repeat (go_big_quiet_step (first | (go_at_call 15; with_reducible exact quiet (mul_c p a0 n _ ha0 hn)) | (go_at_call 15; with_reducible exact quiet (mul_c p a1 n _ ha1 hn))))
  refine wpQuiet_nil ?_
  intro _
  go_wp2
  exact bodyPost_ret (v := .agg #[.int .u64 (fmul p a0 n), .int .u64 (fmul p a1 n)]) (by simp [results, Try.results60, go_sem]) rfl ⟨rfl, (by repeat (first | exact Below.refl _ _ | refine Below.later ?_ _ | refine Below.box ?_ _ | refine Below.drew ?_ | refine Below.put ?_ (by dsimp only; omega) _))⟩

theorem xconj_U {p : Int} {a : Int × Int} : U2 (xconj p a) := ⟨fred_U, fneg_U⟩
theorem xnorm_U {p : Int} {a : Int × Int} : U (xnorm p a) := fsub_U
theorem xmul_U {p : Int} {a b : Int × Int} : U2 (xmul p a b) := ⟨fadd_U, fadd_U⟩
theorem xadd_U {p : Int} {a b : Int × Int} : U2 (xadd p a b) := ⟨fadd_U, fadd_U⟩
theorem xsub_U {p : Int} {a b : Int × Int} : U2 (xsub p a b) := ⟨fsub_U, fsub_U⟩
theorem xscale_U {p n : Int} {a : Int × Int} : U2 (xscale p a n) := ⟨fmul_U, fmul_U⟩
theorem xinv_U {p : Int} {a : Int × Int} : U2 (xinv p a) := xscale_U

theorem xinv_c (p : Int) (a : Int × Int) (w : World) (hp : U p) (ha : U2 a) : Calls Try.prog 23 #[fv p, pv a] w (Gives (pv (xinv p a)) w) := by
  have c1 : Kept (∀ w, Calls Try.prog 61 #[fv p, pv a] w (Gives (pv (xconj p a)) w)) := ⟨fun w => xconj_c p a w ha⟩
  have c2 : Kept (∀ w, Calls Try.prog 21 #[fv p, pv a] w (Gives (.int .u64 (xnorm p a)) w)) := ⟨fun w => xnorm_c p a w ha⟩
  have c3 : Kept (∀ w, Calls Try.prog 62 #[fv p, .int .u64 (xnorm p a)] w (Gives (.int .u64 (finv p (xnorm p a))) w)) := ⟨fun w => inv_c p _ w hp xnorm_U⟩
  have c4 : Kept (∀ w, Calls Try.prog 60 #[fv p, pv (xconj p a), .int .u64 (finv p (xnorm p a))] w (Gives (pv (xinv p a)) w)) := ⟨fun w => xscale_c p _ _ w xconj_U finv_U⟩
  generalize xinv p a = r at *
  generalize finv p (xnorm p a) = v at *
  generalize xnorm p a = n at *
  generalize xconj p a = c at *
  obtain ⟨r0, r1⟩ := r
  obtain ⟨a0, a1⟩ := a
  obtain ⟨k0, k1⟩ := c
  dsimp only [pv, fv] at *
  go_enter Try.func23, Try.ntmps23
  go_wp2_with fail
  first | refine region_tail1 (by kernel_rfl) (by kernel_rfl) (by kernel_rfl) ?_ | refine region_tail (by kernel_rfl) (by kernel_rfl) (by kernel_rfl) ?_
  simp only [initOf, lastOf]
  repeat (go_big_quiet_step (first | (go_at_call 61; with_reducible exact quiet (c1.out _)) | (go_at_call 21; with_reducible exact quiet (c2.out _)) | (go_at_call 62; with_reducible exact quiet (c3.out _)) | (go_at_call 60; with_reducible exact quiet (c4.out _))))
  refine wpQuiet_nil ?_
  intro _
  go_wp2
  exact bodyPost_ret (v := .agg #[.int .u64 r0, .int .u64 r1]) (by simp [results, Try.results23, go_sem]) rfl ⟨rfl, (by repeat (first | exact Below.refl _ _ | refine Below.later ?_ _ | refine Below.box ?_ _ | refine Below.drew ?_ | refine Below.put ?_ (by dsimp only; omega) _))⟩
end Go.Proofs.Ytjnlnbkdnjainaa
