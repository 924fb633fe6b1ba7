/- SoundnessLinear: for any problem the call returns true: where the case is right (up to 20 rows, a prime up to 257, up to 20 changes), LinearPasses and the reference's count the same challenges; other problems are passed over. No condition. -/
import Derived.Test.YtkpkgjniicnkcaaHRij
import Derived.Test.YtkpkgjniicnkcaaHRlp
import Derived.Test.YtkpkgjniicnkcaaHTvr
namespace Go.Proofs.Ytkpkgjniicnkcaa.soundnessLinear
open Go.ChangeShapes Go.WideShapes Go.ChangeAt Go.RowKit Go.Sort

set_option maxRecDepth 100000
set_option maxHeartbeats 8000000 in
theorem walk (w : World) (p pub vs : Int) (u : Option Addr) (c : Nat) (rs : List Rw) (b bl q : Int) (uw : Option Addr) (l : List Int) (cw : Nat) (up : Option Addr) (pl : List Int) (cp : Nat) (ub : Option Addr) (by' : List Int) (cb : Nat)
    (h : (U p ∧ I pub ∧ I vs ∧ Rws w u rs ∧ I b ∧ I bl ∧ I q ∧ Ls w uw l ∧ (uw = none → cw = 0) ∧ l.length ≤ cw) ∧ L16 w up pl ∧ Ls w ub by') :
    Calls Try.prog 9 #[.agg #[.int .u64 p, .int .i64 pub, .int .i64 vs, .slice u rs.length c, .int .i64 b, .int .i64 bl, .int .i64 q, .slice uw l.length cw, .slice up pl.length cp, .slice ub by'.length cb]] w (Gives (.bool true) w) := by
  obtain ⟨⟨_, _, _, hR, _, _, _, hL, _, hcw⟩, hP, hY⟩ := h
  rcases right29_all p pub vs u c rs b bl q uw l cw up pl cp ub by' cb w hR hL hP hY hcw with ⟨a0, a1, a2, a3, a4, a5, a6, a7, a8, a9, a10, h0⟩ | ⟨pn, pb, B, P0, P1, NN, ls, hy, h0⟩
  · have cr := (⟨h0⟩ : Kept _)
    clear h0 hR hL hP hY hcw
    generalize rs.length = m at *
    generalize l.length = n at *
    generalize pl.length = n' at *
    generalize by'.length = ny at *
    go_enter Try.func9, Try.ntmps9
    go_wp2_with (first | (go_at_call 21; (first | with_reducible refine use1 (cr.out _ (by repeat (first | exact Below.refl _ _ | refine Below.later ?_ _ | refine Below.box ?_ _ | refine Below.drew ?_ | refine Below.put ?_ (by dsimp only; omega) _))) ?_ | with_reducible refine use (cr.out _ (by repeat (first | exact Below.refl _ _ | refine Below.later ?_ _ | refine Below.box ?_ _ | refine Below.drew ?_ | refine Below.put ?_ (by dsimp only; omega) _))) ?_); intro pw) | (go_at_call 12; (first | with_reducible refine use1 (awake29_c _) ?_ | with_reducible refine use (awake29_c _) ?_); intro pw))
    go_ret
    exact ⟨rfl, (by repeat (first | exact Below.refl _ _ | refine Below.later ?_ _ | refine Below.box ?_ _ | refine Below.drew ?_ | refine Below.put ?_ (by dsimp only; omega) _))⟩
  · obtain ⟨S, hS⟩ : ∃ S : Nat, vs - 1 - (pb : Int) = S := ⟨(vs - 1 - (pb : Int)).toNat, by have := hy.vars; have := hy.len; omega⟩
    have cr := (⟨h0⟩ : Kept _)
    have ky := (⟨hy⟩ : Kept _)
    have kR : Kept (Rws w u rs) := ⟨hR⟩
    have kpl : Kept ((((l.drop 1).take pb).length : Int) = (pb : Int)) := ⟨by rw [List.length_take, List.length_drop]; have := hy.vars; omega⟩
    have kS : Kept ((S : Int) = vs - 1 - (pb : Int)) := ⟨hS.symm⟩
    have ep : p = (pn : Int) := hy.hp
    have epb : pub = (pb : Int) := hy.hpub
    subst ep epb
    clear h0 hR hL hP hY hcw hy
    rw [hS] at cr
    clear hS
    generalize (B : Int) + q = K0 at *
    generalize (l.drop 1).take pb = ps at *
    obtain ⟨m, hm⟩ : ∃ m, rs.length = m := ⟨_, rfl⟩
    have em : Kept (rs.length = m) := ⟨hm⟩
    rw [hm] at cr ⊢
    clear hm
    generalize l.length = n at *
    generalize pl.length = n' at *
    generalize by'.length = ny at *
    go_enter Try.func9, Try.ntmps9
    go_wp2_with (first | (go_at_call 21; refine (cr.out _ (by repeat (first | exact Below.refl _ _ | refine Below.later ?_ _ | refine Below.box ?_ _ | refine Below.drew ?_ | refine Below.put ?_ (by dsimp only; omega) _))).mono ?_; rintro e w4 ⟨u', c', u2, c2, bs, rfl, hM, hLs, hc2, hc3⟩; refine Stop.out ?_))
    refine ⟨?_⟩
    have hMb := hM.grown.below
    have hB4 : Kept (Below w.heap.size w w4) := ⟨Below.next (by repeat (first | exact Below.refl _ _ | refine Below.later ?_ _ | refine Below.box ?_ _ | refine Below.drew ?_ | refine Below.put ?_ (by dsimp only; omega) _)) hMb⟩
    have t0 : w4.cell? ⟨w.heap.size, 0, none⟩ = some (.int .u64 (pn : Int)) := by rw [hMb.cell (p := ⟨w.heap.size, 0, none⟩) (by simp)]; simp [go_sem]
    have t1 : w4.cell? ⟨w.heap.size, 1, none⟩ = some (.int .i64 (pb : Int)) := by rw [hMb.cell (p := ⟨w.heap.size, 1, none⟩) (by simp)]; simp [go_sem]
    have t2 : w4.cell? ⟨w.heap.size, 2, none⟩ = some (.int .i64 vs) := by rw [hMb.cell (p := ⟨w.heap.size, 2, none⟩) (by simp)]; simp [go_sem]
    have t3 : w4.cell? ⟨w.heap.size, 3, none⟩ = some (.slice u m c) := by rw [hMb.cell (p := ⟨w.heap.size, 3, none⟩) (by simp)]; simp [go_sem]
    have lt4 : w.heap.size < w4.heap.size := by have := hMb.size; simp at this; omega
    have hy := ky.out
    have hMt := hM.mt2 hy.good (by have := hy.p07; have := hy.p17; omega) (by have := hy.b256; omega)
    have hform := hM.form2
    have hRw : ∀ w', Below w4.heap.size w4 w' → Rws w' u rs := fun w' hw => kR.out.below (Nat.le_refl _) (Below.next hB4.out hw)
    obtain ⟨N, hN⟩ : ∃ N, linN (pn : Int) ls (cofM (pn : Int) (pb : Int) rs B P0 P1 S) (fun rho => tgV (pn : Int) rho (1 :: ps) rs rs.length) pn = N := ⟨_, rfl⟩
    have hNle : N ≤ 257 := by have := linN_le (pn : Int) ls (cofM (pn : Int) (pb : Int) rs B P0 P1 S) (fun rho => tgV (pn : Int) rho (1 :: ps) rs rs.length) pn; have := hy.p257; omega
    have hvar := right_vars hy.right
    have cq : Kept (∀ w', Below w4.heap.size w4 w' → Calls Try.prog 28 #[.agg #[.int .u64 (pn : Int), .int .i64 (B : Int), .int .i64 q, .int .i64 K0, .int .i64 NN, .int .i64 (S : Int), .int .i64 (m : Int), .int .i64 (P0 : Nat), .int .i64 (P1 : Nat), .int .i64 (P1 : Nat), .int .i64 (P1 : Nat)], .agg #[.int .u64 (pn : Int), .int .i64 (pb : Int), .int .i64 vs, .slice u m c], .slice u' ps.length c', .slice u2 ls.length c2] w' (Gives (.tuple #[.int .i64 (N : Int), .int .i64 0]) w')) := ⟨fun w' hw => by
      have := linPasses_c B P0 P1 S pn q K0 NN pb vs u2 c2 ls u' c' ps u c rs w' hy.vld hy.p257 ⟨by have := hy.b2; omega, hy.b256⟩ hy.p07 hy.p17 (by have := hy.rows; omega) (by omega) kS.out hy.vs6 (by have := hy.q0; rw [← kS.out] at this; exact this) hy.q1 (hMt.below (Nat.le_refl _) hw) hy.good.len (hLs.below (Nat.le_refl _) hw) kpl.out hc3 (hRw w' hw) hvar
      rw [hN, em.out] at this
      exact this⟩
    have cq2 : Kept (∀ w', Below w4.heap.size w4 w' → Calls Try.prog 29 #[.agg #[.int .u64 (pn : Int), .int .i64 (B : Int), .int .i64 q, .int .i64 K0, .int .i64 NN, .int .i64 (S : Int), .int .i64 (m : Int), .int .i64 (P0 : Nat), .int .i64 (P1 : Nat), .int .i64 (P1 : Nat), .int .i64 (P1 : Nat)], .agg #[.int .u64 (pn : Int), .int .i64 (pb : Int), .int .i64 vs, .slice u m c], .slice u' ps.length c', .slice u2 ls.length c2] w' (Gives (.int .i64 (N : Int)) w')) := ⟨fun w' hw => by
      have := rlinPasses_c B P0 P1 S pn q K0 NN pb vs u2 c2 ls u' c' ps u c rs w' hy.vld hy.p257 ⟨by have := hy.b2; omega, hy.b256⟩ hy.p07 hy.p17 (by have := hy.rows; omega) (by omega) kS.out hy.vs6 (hMt.below (Nat.le_refl _) hw) hy.good.len (hLs.below (Nat.le_refl _) hw) kpl.out hc3 (hRw w' hw) hvar
      rw [hN, em.out] at this
      exact this⟩
    have co : Kept (∀ w', Calls Try.prog 18 #[.agg #[.int .u64 (pn : Int), .int .i64 (B : Int), .int .i64 q, .int .i64 K0, .int .i64 NN, .int .i64 (S : Int), .int .i64 (m : Int), .int .i64 (P0 : Nat), .int .i64 (P1 : Nat), .int .i64 (P1 : Nat), .int .i64 (P1 : Nat)]] w' (Gives (.agg #[.int .u64 (pn : Int), .int .i64 (B : Int), .int .i64 q, .int .i64 K0, .int .i64 NN, .int .i64 (S : Int), .int .i64 (m : Int), .int .i64 (P0 : Nat), .int .i64 (P1 : Nat), .int .i64 (P1 : Nat), .int .i64 (P1 : Nat)]) w')) := ⟨fun w' => own29_c _ _ _ _ _ _ _ _ _ _ _ w'⟩
    clear hM hMt hform hy ky hLs hc2 cr hRw hMb hc3 kR em kpl kS hN hvar
    generalize ls.length = M at *
    generalize ps.length = np at *
    go_wp2_with (first | (go_at_call 12; (first | with_reducible refine use1 (awake29_c _) ?_ | with_reducible refine use (awake29_c _) ?_); intro pw) | (go_at_call 18; (first | with_reducible refine use1 (co.out _) ?_ | with_reducible refine use (co.out _) ?_); intro pw) | (go_at_call 28; (first | with_reducible refine use1 (cq.out _ (by repeat (first | exact Below.refl _ _ | refine Below.later ?_ _ | refine Below.box ?_ _ | refine Below.drew ?_ | refine Below.put ?_ (by dsimp only; omega) _))) ?_ | with_reducible refine use (cq.out _ (by repeat (first | exact Below.refl _ _ | refine Below.later ?_ _ | refine Below.box ?_ _ | refine Below.drew ?_ | refine Below.put ?_ (by dsimp only; omega) _))) ?_); intro pw) | (go_at_call 29; (first | with_reducible refine use1 (cq2.out _ (by repeat (first | exact Below.refl _ _ | refine Below.later ?_ _ | refine Below.box ?_ _ | refine Below.drew ?_ | refine Below.put ?_ (by dsimp only; omega) _))) ?_ | with_reducible refine use (cq2.out _ (by repeat (first | exact Below.refl _ _ | refine Below.later ?_ _ | refine Below.box ?_ _ | refine Below.drew ?_ | refine Below.put ?_ (by dsimp only; omega) _))) ?_); intro pw))
    repeat (
      (first | refine region_quiet1 (by kernel_rfl) ?_ | refine region_quiet (by kernel_rfl) ?_)
      repeat (go_big_quiet_step (first | (go_at_call 12; with_reducible exact quiet (awake29_c _)) | (go_at_call 18; with_reducible exact quiet (co.out _)) | (go_at_call 28; with_reducible exact quiet (cq.out _ (by repeat (first | exact Below.refl _ _ | refine Below.later ?_ _ | refine Below.box ?_ _ | refine Below.drew ?_ | refine Below.put ?_ (by dsimp only; omega) _)))) | (go_at_call 29; with_reducible exact quiet (cq2.out _ (by repeat (first | exact Below.refl _ _ | refine Below.later ?_ _ | refine Below.box ?_ _ | refine Below.drew ?_ | refine Below.put ?_ (by dsimp only; omega) _))))))
      refine wpQuiet_nil ?_
      intro _
      go_wp2_with (first | (go_at_call 12; (first | with_reducible refine use1 (awake29_c _) ?_ | with_reducible refine use (awake29_c _) ?_); intro pw) | (go_at_call 18; (first | with_reducible refine use1 (co.out _) ?_ | with_reducible refine use (co.out _) ?_); intro pw) | (go_at_call 28; (first | with_reducible refine use1 (cq.out _ (by repeat (first | exact Below.refl _ _ | refine Below.later ?_ _ | refine Below.box ?_ _ | refine Below.drew ?_ | refine Below.put ?_ (by dsimp only; omega) _))) ?_ | with_reducible refine use (cq.out _ (by repeat (first | exact Below.refl _ _ | refine Below.later ?_ _ | refine Below.box ?_ _ | refine Below.drew ?_ | refine Below.put ?_ (by dsimp only; omega) _))) ?_); intro pw) | (go_at_call 29; (first | with_reducible refine use1 (cq2.out _ (by repeat (first | exact Below.refl _ _ | refine Below.later ?_ _ | refine Below.box ?_ _ | refine Below.drew ?_ | refine Below.put ?_ (by dsimp only; omega) _))) ?_ | with_reducible refine use (cq2.out _ (by repeat (first | exact Below.refl _ _ | refine Below.later ?_ _ | refine Below.box ?_ _ | refine Below.drew ?_ | refine Below.put ?_ (by dsimp only; omega) _))) ?_); intro pw)))
    go_ret
    exact ⟨by simp, Below.next hB4.out (by repeat (first | exact Below.refl _ _ | refine Below.later ?_ _ | refine Below.box ?_ _ | refine Below.drew ?_ | refine Below.put ?_ (by dsimp only; omega) _))⟩

set_option maxRecDepth 100000 in
theorem lifted (os : Os) (started : os.Started) (H : Type) (enc : TypeId × Value → H) :
    ReturnsInHanded {} Try.checked os 9 .any (Rows.soundnessLinearSpec.pre6 enc Try.prog Try.f9 Rows.soundnessLinearRow.domain false) (Rows.soundnessLinearSpec.post enc Try.prog Try.f9 false true false false) := by
  refine returnsInHanded_of_change (C := Try.checked) own started (by kernel_rfl) Try.func9
    (ChangeSpec.witness6 (enc := enc) (C := Try.checked) false ⟨#[], #[.agg #[.int .u64 0, .int .i64 0, .int .i64 0, .slice none 0 0, .int .i64 0, .int .i64 0, .int .i64 0, .slice none 0 0, .slice none 0 0, .slice none 0 0]], []⟩ 8 (by kernel_rfl) (by kernel_rfl) (by kernel_rfl) (by kernel_rfl)) ?_
  intro W base args ds gs before hval0 hW hcnd _
  have hval : ∀ (j : Nat) t v, Try.f9.params[j]? = some t → args[j]? = some v → Value.okWide Try.prog W .any base t v := hval0
  have hW0 : DataW.Whole enc Try.prog Try.f9.params.toList Rows.soundnessLinearSpec.vars false W args.toList ds gs before := hW
  obtain ⟨p, q, hA0, hV, rfl, _, _⟩ := hW
  have hA : DataW.TrodAll enc Try.prog W 0 (fun _ => true) true Try.f9.params.toList args.toList ds p := hA0
  rw [Try.params9] at hA hval
  obtain ⟨v0, vs0, d0, ds0, p0, q0, hargs, rfl, rfl, h0, r0⟩ := trodAll_cons hA
  obtain ⟨rfl, rfl, rfl⟩ := trodAll_nil r0
  obtain rfl : args = #[v0] := by cases args; simp_all
  obtain ⟨rfl, rfl⟩ := trodVars_none hV
  obtain ⟨a0x, a0y, a0z, a0u, a0v, a0t, a0r, a0s, a0q, a0o, a0m, a0k, a0a, a0b, a0c, a0d, a0e, a0f, rfl, u0⟩ := open_problem (hval 0 52 v0 rfl rfl) h0
  clear hA0 hval0
  refine (walk W a0x a0y a0z a0u a0v a0t a0r a0s a0q a0o a0m a0k a0a a0b a0c a0d a0e a0f u0).mono fun e W' ⟨he, hb⟩ => ⟨.bool true, he, ?_⟩
  exact law_post (fun t ht => by have ht' : t ∈ [52] := ht; simp only [List.mem_cons, List.not_mem_nil, or_false] at ht'; rcases ht' with rfl <;> exact ⟨by kernel_rfl, of_decide_eq_true (by kernel_rfl)⟩) rfl rfl hW0 rfl hb

theorem over : Rows.soundnessLinearRow.holds Try.pinned (OpenSpec.ofChange Rows.soundnessLinearSpec) :=
  OpenClaim.holds_of_wide 9 Try.f9 rfl rfl rfl rfl rfl rfl rfl ⟨rfl, rfl, rfl, rfl, rfl⟩ rfl rfl rfl rfl rfl (by kernel_rfl) Try.func9 (by kernel_rfl)
    (of_decide_eq_true (by kernel_rfl)) (by unfold Func.isWrapper; first | (rw [if_pos (by decide +kernel)]; kernel_rfl) | (rw [if_neg (by decide +kernel)]; exact ⟨rfl, rfl⟩))
    (fun os started H enc _ => lifted os started H enc)

/-- The statement. -/
theorem proved : Rows.SoundnessLinearSaid := over
#print axioms proved
end Go.Proofs.Ytkpkgjniicnkcaa.soundnessLinear
