/- The contracts of powers in packages extension and moidoreref02. -/
import Derived.Test.YteljpelagpghcaaConX
namespace Go.Proofs.Yteljpelagpghcaa
open Go.RowKit

theorem xmul_valid {p : Int} (h : vld p = true) (a b : Int × Int) : xmul p a b = pmul p (gen p) a b := by
  unfold xmul pmul fadd fmul
  simp only [h, if_true]
  congr 1
  · rw [em_add_l, em_add_r, ← em_add_r (a.1 * b.1), em_mul_r, em_add_r]
  · rw [em_add_l, em_add_r]
theorem xmul_not {p : Int} (h : vld p = false) (a b : Int × Int) : xmul p a b = (0, 0) := by
  simp [xmul, fadd, h]
/-- The power. -/
def xpow (p : Int) (a : Int × Int) (e : Nat) : Int × Int := if vld p then ppow p (gen p) a e else (0, 0)

/-- What the loop has made so far, and what is still to come. -/
def PowSo (p : Int) (a R A : Int × Int) (e E : Nat) : Prop := if vld p then pmul p (gen p) R (ppow p (gen p) A E) = ppow p (gen p) a e ∧ pred p R = R else R = (0, 0)
theorem powSo_start {p : Int} (a : Int × Int) (e : Nat) : PowSo p a (fred p 1, 0) a e e := by
  unfold PowSo
  split
  · rename_i h
    have e1 : (fred p 1, (0 : Int)) = pone p := by simp [fred, h, pone]
    rw [e1]
    exact ⟨by rw [pmul_comm, pmul_one, pred_ppow], pred_pone p⟩
  · rename_i h; simp [fred, h]
theorem powSo_odd {p : Int} {a R A : Int × Int} {e E : Nat} (h : PowSo p a R A e E) (ho : E % 2 = 1) : PowSo p a (xmul p R A) (xmul p A A) e (E / 2) := by
  unfold PowSo at *
  split
  · rename_i hv
    rw [if_pos hv] at h
    rw [xmul_valid hv, xmul_valid hv]
    exact ⟨pp_odd h.1 ho, pred_pmul p _ _ _⟩
  · rename_i hv; rw [xmul_not (by simpa using hv)]
theorem powSo_even {p : Int} {a R A : Int × Int} {e E : Nat} (h : PowSo p a R A e E) (ho : E % 2 = 0) : PowSo p a R (xmul p A A) e (E / 2) := by
  unfold PowSo at *
  split
  · rename_i hv
    rw [if_pos hv] at h
    rw [xmul_valid hv]
    exact ⟨pp_even h.1 ho, h.2⟩
  · rename_i hv; rw [if_neg hv] at h; exact h
theorem powSo_end {p : Int} {a R A : Int × Int} {e : Nat} (h : PowSo p a R A e 0) : R = xpow p a e := by
  unfold PowSo at h
  unfold xpow
  split
  · rename_i hv
    rw [if_pos hv] at h
    obtain ⟨h1, h2⟩ := h
    rw [ppow, pmul_one, h2] at h1
    exact h1
  · rename_i hv; rw [if_neg hv] at h; exact h
theorem xpow_U {p : Int} {a : Int × Int} {e : Nat} : U2 (xpow p a e) := by
  unfold xpow
  split
  · rename_i h
    have hp := vld_pos h
    rw [← pred_ppow]
    obtain ⟨u0, u1⟩ := emod_U (a := (ppow p (gen p) a e).1) h
    obtain ⟨v0, v1⟩ := emod_U (a := (ppow p (gen p) a e).2) h
    exact ⟨⟨u0, by show _ % p < _; omega⟩, ⟨v0, by show _ % p < _; omega⟩⟩
  · exact ⟨⟨by omega, by omega⟩, ⟨by omega, by omega⟩⟩

/-- The loop's relation: the blocks of the field, the base, the result's variable, the result so far. -/
structure PowRel (p : Int) (a : Int × Int) (e : Nat) (w : World) (b b' b2 b3 : Nat) (E : Nat) (A R : Int × Int) (wr : World) : Prop where
  uA : U2 A
  uR : U2 R
  so : PowSo p a R A e E
  big : BigB E
  below : Below w.heap.size w wr
  cf : Cell1 wr b p
  ca : Cell2 wr b' A.1 A.2
  c2 : Cell2 wr b2 0 0
  cr : Cell2 wr b3 R.1 R.2

set_option maxHeartbeats 1000000 in
theorem xpow_c (p : Int) (a : Int × Int) (e : Nat) (w : World) (ha : U2 a) (he : BigB e) : Calls Try.prog 29 #[fv p, pv a, .int .u64 e] w (Gives (pv (xpow p a e)) w) := by
  have hst : Kept (PowSo p a (fred p 1, 0) a e e) := ⟨powSo_start a e⟩
  obtain ⟨a0, a1⟩ := a
  have u1 : U 1 := ⟨by omega, by omega⟩
  have ha' : Kept (U2 (a0, a1)) := ⟨ha⟩
  clear ha
  dsimp only [pv, fv]
  go_enter Try.func29, Try.ntmps29
  go_wp2_with (first | (go_at_call 32; (first | with_reducible refine use1 (red_c p 1 _ u1) ?_ | with_reducible refine use (red_c p 1 _ u1) ?_); intro pw))
  generalize hb3 : w.heap.size + 1 + 1 + 1 + pw.os.size = b3
  have hk3 : Kept (b3 = w.heap.size + 1 + 1 + 1 + pw.os.size) := ⟨hb3.symm⟩
  clear hb3
  go_loopw [2] (fun ve wr => ∃ (E : Nat) (A R : Int × Int), ve = .int .u64 (E : Int) ∧ PowRel p (a0, a1) e w w.heap.size (w.heap.size + 1) (w.heap.size + 1 + 1) b3 E A R wr) (fun ve _ => (intOf ve).toNat)
  case atStart =>
    refine ⟨e, (a0, a1), (fred p 1, 0), rfl, ha'.out, ⟨fred_U, ⟨by omega, by omega⟩⟩, hst.out, he, (by repeat (first | exact Below.refl _ _ | refine Below.later ?_ _ | refine Below.box ?_ _ | refine Below.drew ?_ | refine Below.put ?_ (by dsimp only; omega) _)), ?_, ?_, ?_, ?_⟩
    · exact (((((Cell1.new w p _).boxed _).boxed _).later _).boxed _)
    · have := ((((Cell2.new (w.alloc (.cells #[.int .u64 p] 29)) a0 a1 23).boxed (.cells #[.int .u64 0, .int .u64 0] 23)).later pw).boxed (.cells #[.int .u64 (fred p 1), .int .u64 0] 23))
      simpa using this
    · have := (((Cell2.new ((w.alloc (.cells #[.int .u64 p] 29)).alloc (.cells #[.int .u64 a0, .int .u64 a1] 23)) 0 0 23).later pw).boxed (.cells #[.int .u64 (fred p 1), .int .u64 0] 23))
      simpa using this
    · rw [hk3.out]
      have := Cell2.new (after (((w.alloc (.cells #[.int .u64 p] 29)).alloc (.cells #[.int .u64 a0, .int .u64 a1] 23)).alloc (.cells #[.int .u64 0, .int .u64 0] 23)) pw) (fred p 1) 0 23
      simpa using this
  case round =>
    obtain ⟨E, ⟨x0, x1⟩, ⟨r0, r1⟩, rfl, hR⟩ := hrel
    have hK : Kept (PowRel p (a0, a1) e w w.heap.size (w.heap.size + 1) (w.heap.size + 1 + 1) b3 E (x0, x1) (r0, r1) wr) := ⟨hR⟩
    obtain ⟨_, _, _, hbig, _, ⟨cf0, ff0, lf⟩, ⟨ca0, ca1, fa0, fa1, la⟩, ⟨c20, c21, f20, f21, l2⟩, ⟨cr0, cr1, fr0, fr1, lr⟩⟩ := hR
    have hand : bits .and .u64 (E : Int) 1 = ((E % 2 : Nat) : Int) := by have := hbig.out; rw [and_one_u64 _ (by omega) (by omega)]; omega
    have n1 : ¬ w.heap.size + 1 = b3 := by have := hk3.out; omega
    have n2 : ¬ b3 = w.heap.size + 1 := by have := hk3.out; omega
    have n3 : ¬ w.heap.size = b3 := by have := hk3.out; omega
    have n4 : ¬ b3 = w.heap.size := by have := hk3.out; omega
    have cR : Kept (∀ w, Calls Try.prog 22 #[.agg #[.int .u64 p], .agg #[.int .u64 r0, .int .u64 r1], .agg #[.int .u64 x0, .int .u64 x1]] w (Gives (.agg #[.int .u64 (xmul p (r0, r1) (x0, x1)).1, .int .u64 (xmul p (r0, r1) (x0, x1)).2]) w)) := ⟨fun w => xmul_c p (r0, r1) (x0, x1) w hK.out.uR hK.out.uA⟩
    have cA : Kept (∀ w, Calls Try.prog 22 #[.agg #[.int .u64 p], .agg #[.int .u64 x0, .int .u64 x1], .agg #[.int .u64 x0, .int .u64 x1]] w (Gives (.agg #[.int .u64 (xmul p (x0, x1) (x0, x1)).1, .int .u64 (xmul p (x0, x1) (x0, x1)).2]) w)) := ⟨fun w => xmul_c p (x0, x1) (x0, x1) w hK.out.uA hK.out.uA⟩
    by_cases h0 : E = 0
    · subst h0
      have e0 : Kept ((r0, r1) = xpow p (a0, a1) e) := ⟨powSo_end hK.out.so⟩
      clear hand
      go_wp2_with fail
      rw [← e0.out]
      refine bodyPost_ret (v := .agg #[.int .u64 r0, .int .u64 r1]) (by simp [results, Try.results29, go_sem, *]) rfl ⟨rfl, ?_⟩
      exact Below.put (Below.put hK.out.below (by dsimp only; omega) _) (by dsimp only; omega) _
    · have h1 : (0 : Int) < (E : Int) := by omega
      generalize hm2 : xmul p (x0, x1) (x0, x1) = m2 at *
      have hm2' : Kept (xmul p (x0, x1) (x0, x1) = m2) := ⟨hm2⟩
      clear hm2
      obtain ⟨y0, y1⟩ := m2
      by_cases ho : E % 2 = 1
      · have hand1 : bits .and .u64 (E : Int) 1 = 1 := by rw [hand, ho]; rfl
        clear hand
        generalize hm1 : xmul p (r0, r1) (x0, x1) = m1 at *
        have hm1' : Kept (xmul p (r0, r1) (x0, x1) = m1) := ⟨hm1⟩
        clear hm1
        obtain ⟨z0, z1⟩ := m1
        dsimp only at cR cA
        go_wp2_with (first | (go_at_call 22; (first | with_reducible refine use1 (cR.out _) ?_ | with_reducible refine use (cR.out _) ?_); intro pw) | (go_at_call 22; (first | with_reducible refine use1 (cA.out _) ?_ | with_reducible refine use (cA.out _) ?_); intro pw))
        go_roundw
        case rel =>
          go_light
          refine ⟨E / 2, (y0, y1), (z0, z1), by go_num, by rw [← hm2'.out]; exact xmul_U, by rw [← hm1'.out]; exact xmul_U, by rw [← hm2'.out, ← hm1'.out]; exact powSo_odd hK.out.so ho, ⟨by have := hbig.out; omega⟩, ?_, ?_, ?_, ?_, ?_⟩
          · exact Below.put (Below.put (Below.later (Below.put (Below.put (Below.later hK.out.below _) (by have := hk3.out; dsimp only; omega) _) (by have := hk3.out; dsimp only; omega) _) _) (by dsimp only; omega) _) (by dsimp only; omega) _
          · exact (((((hK.out.cf.later _).other n4 _).other n4 _).later _).other (by dsimp only; omega) _).other (by dsimp only; omega) _
          · exact ((((hK.out.ca.later _).other n2 _).other n2 _).later _).put _ _
          · exact (((((hK.out.c2.later _).other (by have := hk3.out; dsimp only; omega) _).other (by have := hk3.out; dsimp only; omega) _).later _).other (by dsimp only; omega) _).other (by dsimp only; omega) _
          · exact ((((hK.out.cr.later _).put _ _).later _).other n1 _).other n1 _
        case measure => first | (simp [intOf]; omega) | (simp [intOf]; done)
      · have ho : E % 2 = 0 := by omega
        have hand1 : bits .and .u64 (E : Int) 1 = 0 := by rw [hand, ho]; rfl
        clear hand
        dsimp only at cA
        go_wp2_with (first | (go_at_call 22; (first | with_reducible refine use1 (cA.out _) ?_ | with_reducible refine use (cA.out _) ?_); intro pw))
        go_roundw
        case rel =>
          go_light
          refine ⟨E / 2, (y0, y1), (r0, r1), by go_num, by rw [← hm2'.out]; exact xmul_U, hK.out.uR, by rw [← hm2'.out]; exact powSo_even hK.out.so ho, ⟨by have := hbig.out; omega⟩, ?_, ?_, ?_, ?_, ?_⟩
          · exact Below.put (Below.put (Below.later hK.out.below _) (by dsimp only; omega) _) (by dsimp only; omega) _
          · exact ((hK.out.cf.later _).other (by dsimp only; omega) _).other (by dsimp only; omega) _
          · exact (hK.out.ca.later _).put _ _
          · exact ((hK.out.c2.later _).other (by dsimp only; omega) _).other (by dsimp only; omega) _
          · exact ((hK.out.cr.later _).other n1 _).other n1 _
        case measure => first | (simp [intOf]; omega) | (simp [intOf]; done)
end Go.Proofs.Yteljpelagpghcaa
