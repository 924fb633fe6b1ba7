/- SoundnessLargeFields: for any case the call returns true: where the prime of a right case (up to 40 rows) is greater than 257, LinearPasses and QuadPasses give 0 and ErrField; other cases are passed over. No condition. -/
import Derived.Test.YtkpkgjniicnkcaaTArh
import Derived.Test.YtkpkgjniicnkcaaL29b
import Derived.Test.YtkpkgjniicnkcaaMsh
namespace Go.Proofs.Ytkpkgjniicnkcaa.soundnessLargeFields
open Go.ChangeShapes Go.WideShapes Go.ChangeAt Go.RowKit Go.Sort

theorem linPass_c (p b q k n s r p0 p1 p2 p3 tp pub vs : Int) (u : Option Addr) (m c : Nat) (v1 v2 : Value) (w : World) (hp : 257 < p) :
    Calls Try.prog 28 #[.agg #[.int .u64 p, .int .i64 b, .int .i64 q, .int .i64 k, .int .i64 n, .int .i64 s, .int .i64 r, .int .i64 p0, .int .i64 p1, .int .i64 p2, .int .i64 p3], .agg #[.int .u64 tp, .int .i64 pub, .int .i64 vs, .slice u m c], v1, v2] w (Gives (.tuple #[.int .i64 0, .int .i64 7]) w) := by
  go_enter Try.func28, Try.ntmps28
  go_wp2
  go_ret2
  exact ⟨rfl, (by repeat (first | exact Below.refl _ _ | refine Below.later ?_ _ | refine Below.box ?_ _ | refine Below.drew ?_ | refine Below.put ?_ (by dsimp only; omega) _))⟩
theorem quadPass_c (p b q k n s r p0 p1 p2 p3 : Int) (v2 : Value) (w : World) (hp : 257 < p) :
    Calls Try.prog 22 #[.agg #[.int .u64 p, .int .i64 b, .int .i64 q, .int .i64 k, .int .i64 n, .int .i64 s, .int .i64 r, .int .i64 p0, .int .i64 p1, .int .i64 p2, .int .i64 p3], v2] w (Gives (.tuple #[.int .i64 0, .int .i64 7]) w) := by
  go_enter Try.func22, Try.ntmps22
  go_wp2
  go_ret2
  exact ⟨rfl, (by repeat (first | exact Below.refl _ _ | refine Below.later ?_ _ | refine Below.box ?_ _ | refine Below.drew ?_ | refine Below.put ?_ (by dsimp only; omega) _))⟩

theorem useV {f : FuncId} {args : Array Value} {w : World} {ls : List (List Int)} {R : Ending → World → Prop} (h : Calls Try.prog f args w (GivesMat ls w)) (k : ∀ v p, R (.returned v) (after w p)) : Calls Try.prog f args w R :=
  h.mono fun e w' ⟨v, bs, he, hM⟩ => by
    obtain ⟨p, rfl⟩ := after_of hM.grown.below
    subst he
    exact k v p

set_option maxHeartbeats 8000000 in
theorem walk (w : World) (p pub vs : Int) (u : Option Addr) (c : Nat) (rs : List Rw) (b bl q : Int) (uw : Option Addr) (l : List Int) (cw : Nat)
    (h : U p ∧ I pub ∧ I vs ∧ Rws w u rs ∧ I b ∧ I bl ∧ I q ∧ Ls w uw l ∧ (uw = none → cw = 0) ∧ l.length ≤ cw) :
    Calls Try.prog 10 #[.agg #[.int .u64 p, .int .i64 pub, .int .i64 vs, .slice u rs.length c, .int .i64 b, .int .i64 bl, .int .i64 q, .slice uw l.length cw]] w (Gives (.bool true) w) := by
  obtain ⟨hU, _, _, hR, _, _, _, hL, _, hcw⟩ := h
  have cr : Kept (∀ w', Below w.heap.size w w' → Calls Try.prog 16 #[.agg #[.int .u64 p, .int .i64 pub, .int .i64 vs, .slice u rs.length c, .int .i64 b, .int .i64 bl, .int .i64 q, .slice uw l.length cw], .int .i64 40] w' (Gives (.tuple #[rightV p pub vs b bl q rs l 40, .bool (rightB p pub vs b bl q rs l 40)]) w')) := ⟨fun w' hw =>
    right_c p pub vs b bl q 40 u c rs uw cw l w' (hR.below (Nat.le_refl _) hw) (hL.below (Nat.le_refl _) hw)⟩
  have hs1 := hR.small
  have hs2 := hL.small
  cases hr : rightB p pub vs b bl q rs l 40
  · have hV : rightV p pub vs b bl q rs l 40 = lay0 := by rw [rightV, hr]; rfl
    rw [hV, hr] at cr
    unfold lay0 at cr
    clear hr hV hR hL
    generalize rs.length = m at *
    generalize l.length = n at *
    go_enter Try.func10, Try.ntmps10
    go_wp2_with (first | (go_at_call 16; (first | with_reducible refine use1 (cr.out _ (by repeat (first | exact Below.refl _ _ | refine Below.later ?_ _ | refine Below.box ?_ _ | refine Below.drew ?_ | refine Below.put ?_ (by dsimp only; omega) _))) ?_ | with_reducible refine use (cr.out _ (by repeat (first | exact Below.refl _ _ | refine Below.later ?_ _ | refine Below.box ?_ _ | refine Below.drew ?_ | refine Below.put ?_ (by dsimp only; omega) _))) ?_); intro pw) | (go_at_call 12; (first | with_reducible refine use1 (awake29_c _) ?_ | with_reducible refine use (awake29_c _) ?_); intro pw))
    go_ret
    exact ⟨rfl, (by repeat (first | exact Below.refl _ _ | refine Below.later ?_ _ | refine Below.box ?_ _ | refine Below.drew ?_ | refine Below.put ?_ (by dsimp only; omega) _))⟩
  · have hV : rightV p pub vs b bl q rs l 40 = layV p b q (newN b bl q) (vs - 1 - pub) rs.length := by rw [rightV, hr]; rfl
    rw [hV, hr] at cr
    obtain ⟨f1, f2, f3, f4, f5, f6, f7, f8, f9, f10, f11, f12, f13, _⟩ := right_facts hr
    clear hr hV
    unfold layV at cr
    obtain ⟨B, rfl⟩ : ∃ B : Nat, b = B := ⟨b.toNat, by omega⟩
    obtain ⟨pb, rfl⟩ : ∃ B : Nat, pub = B := ⟨pub.toNat, by omega⟩
    have hq0 : 0 ≤ (vs - 1 - (pb : Int) + (B : Int) - 1) / (B : Int) ∧ (vs - 1 - (pb : Int) + (B : Int) - 1) / (B : Int) ≤ 70000 := ⟨Int.ediv_nonneg (by omega) (by omega), Int.le_trans (Int.ediv_le_self _ (by omega)) (by omega)⟩
    have hq1 : 0 ≤ ((rs.length : Int) + (B : Int) - 1) / (B : Int) ∧ ((rs.length : Int) + (B : Int) - 1) / (B : Int) ≤ 70000 := ⟨Int.ediv_nonneg (by omega) (by omega), Int.le_trans (Int.ediv_le_self _ (by omega)) (by omega)⟩
    obtain ⟨P0, hP0⟩ : ∃ P : Nat, (vs - 1 - (pb : Int) + (B : Int) - 1) / (B : Int) = P := ⟨_, (Int.toNat_of_nonneg hq0.1).symm⟩
    obtain ⟨P1, hP1⟩ : ∃ P : Nat, ((rs.length : Int) + (B : Int) - 1) / (B : Int) = P := ⟨_, (Int.toNat_of_nonneg hq1.1).symm⟩
    rw [hP0, hP1] at cr
    rw [hP0] at hq0
    rw [hP1] at hq1
    clear hP0 hP1
    have cm : Kept (∀ w', Below w.heap.size w w' → ∀ K0 NN S0 : Int, Calls Try.prog 26 #[.agg #[.int .u64 p, .int .i64 (B : Int), .int .i64 q, .int .i64 K0, .int .i64 NN, .int .i64 S0, .int .i64 rs.length, .int .i64 (P0 : Nat), .int .i64 (P1 : Nat), .int .i64 (P1 : Nat), .int .i64 (P1 : Nat)],
        .agg #[.int .u64 p, .int .i64 (pb : Int), .int .i64 vs, .slice u rs.length c], .slice uw l.length cw] w' (GivesMat (cuts B (fun j => if j = 0 then P0 else P1) (fun j => if j = 0 then l.drop (1 + pb) else vl p l rs (j - 1)) 4) w')) := ⟨fun w' hw K0 NN S0 =>
      messages_c B (fun j => if j = 0 then P0 else P1) p q K0 NN S0 rs.length pb vs u c rs uw cw l pb w' (by omega) (fun j => by split <;> omega) (hR.below (Nat.le_refl _) hw) (hL.below (Nat.le_refl _) hw) rfl (by omega) (by omega) (by omega) hcw⟩
    generalize cuts B (fun j => if j = 0 then P0 else P1) (fun j => if j = 0 then l.drop (1 + pb) else vl p l rs (j - 1)) 4 = LS at cm
    generalize newN (B : Int) bl q = NN at *
    clear hR hL
    generalize rs.length = m at *
    generalize l.length = n at *
    obtain ⟨S0, hS0⟩ : ∃ S, vs - 1 - (pb : Int) = S := ⟨_, rfl⟩
    obtain ⟨K0, hK0⟩ : ∃ S, (B : Int) + q = S := ⟨_, rfl⟩
    rw [hS0, hK0] at cr
    have co : Kept (∀ w', Calls Try.prog 18 #[.agg #[.int .u64 p, .int .i64 B, .int .i64 q, .int .i64 K0, .int .i64 NN, .int .i64 S0, .int .i64 m, .int .i64 P0, .int .i64 P1, .int .i64 P1, .int .i64 P1]] w' (Gives (.agg #[.int .u64 p, .int .i64 B, .int .i64 q, .int .i64 K0, .int .i64 NN, .int .i64 S0, .int .i64 m, .int .i64 P0, .int .i64 P1, .int .i64 P1, .int .i64 P1]) w')) := ⟨fun w' => own29_c _ _ _ _ _ _ _ _ _ _ _ w'⟩
    by_cases hp : 257 < p
    · have hp2 : decide (p ≤ 257) = false := by simp; omega
      have c1 : Kept (∀ w' v1 v2, Calls Try.prog 28 #[.agg #[.int .u64 p, .int .i64 B, .int .i64 q, .int .i64 K0, .int .i64 NN, .int .i64 S0, .int .i64 m, .int .i64 P0, .int .i64 P1, .int .i64 P1, .int .i64 P1], .agg #[.int .u64 p, .int .i64 (pb : Int), .int .i64 vs, .slice u m c], v1, v2] w' (Gives (.tuple #[.int .i64 0, .int .i64 7]) w')) := ⟨fun w' v1 v2 => linPass_c _ _ _ _ _ _ _ _ _ _ _ _ _ _ _ _ _ _ _ w' hp⟩
      have c2 : Kept (∀ w' v2, Calls Try.prog 22 #[.agg #[.int .u64 p, .int .i64 B, .int .i64 q, .int .i64 K0, .int .i64 NN, .int .i64 S0, .int .i64 m, .int .i64 P0, .int .i64 P1, .int .i64 P1, .int .i64 P1], v2] w' (Gives (.tuple #[.int .i64 0, .int .i64 7]) w')) := ⟨fun w' v2 => quadPass_c _ _ _ _ _ _ _ _ _ _ _ _ w' hp⟩
      have hn1 : (1 : Int) + (pb : Int) ≤ (n : Int) := by omega
      have hn2 : (n : Int) ≤ (cw : Int) := by omega
      clear f1 f2 f3 f4 f5 f6 f7 f9 f10 f13 hS0 hK0 hq0 hq1
      by_cases hc1 : cw = 1
      · subst hc1
        go_enter Try.func10, Try.ntmps10
        go_wp2_with (first | (go_at_call 16; (first | with_reducible refine use1 (cr.out _ (by repeat (first | exact Below.refl _ _ | refine Below.later ?_ _ | refine Below.box ?_ _ | refine Below.drew ?_ | refine Below.put ?_ (by dsimp only; omega) _))) ?_ | with_reducible refine use (cr.out _ (by repeat (first | exact Below.refl _ _ | refine Below.later ?_ _ | refine Below.box ?_ _ | refine Below.drew ?_ | refine Below.put ?_ (by dsimp only; omega) _))) ?_); intro pw) | (go_at_call 12; (first | with_reducible refine use1 (awake29_c _) ?_ | with_reducible refine use (awake29_c _) ?_); intro pw) | (go_at_call 26; with_reducible refine useV (cm.out _ (by repeat (first | exact Below.refl _ _ | refine Below.later ?_ _ | refine Below.box ?_ _ | refine Below.drew ?_ | refine Below.put ?_ (by dsimp only; omega) _)) _ _ _) ?_; intro vm pm))
        first | refine region_quiet1 (by kernel_rfl) ?_ | refine region_quiet (by kernel_rfl) ?_
        repeat (go_big_quiet_step (first | (go_at_call 18; with_reducible exact quiet (co.out _)) | (go_at_call 28; with_reducible exact quiet (c1.out _ _ _))))
        refine wpQuiet_nil ?_
        intro _
        go_wp2_with (first | (go_at_call 18; (first | with_reducible refine use1 (co.out _) ?_ | with_reducible refine use (co.out _) ?_); intro pw) | (go_at_call 22; (first | with_reducible refine use1 (c2.out _ _) ?_ | with_reducible refine use (c2.out _ _) ?_); intro pw))
        go_ret
        exact ⟨rfl, (by repeat (first | exact Below.refl _ _ | refine Below.later ?_ _ | refine Below.box ?_ _ | refine Below.drew ?_ | refine Below.put ?_ (by dsimp only; omega) _))⟩
      · have hc2 : ¬ cw - 1 = 0 := by omega
        go_enter Try.func10, Try.ntmps10
        go_wp2_with (first | (go_at_call 16; (first | with_reducible refine use1 (cr.out _ (by repeat (first | exact Below.refl _ _ | refine Below.later ?_ _ | refine Below.box ?_ _ | refine Below.drew ?_ | refine Below.put ?_ (by dsimp only; omega) _))) ?_ | with_reducible refine use (cr.out _ (by repeat (first | exact Below.refl _ _ | refine Below.later ?_ _ | refine Below.box ?_ _ | refine Below.drew ?_ | refine Below.put ?_ (by dsimp only; omega) _))) ?_); intro pw) | (go_at_call 12; (first | with_reducible refine use1 (awake29_c _) ?_ | with_reducible refine use (awake29_c _) ?_); intro pw) | (go_at_call 26; with_reducible refine useV (cm.out _ (by repeat (first | exact Below.refl _ _ | refine Below.later ?_ _ | refine Below.box ?_ _ | refine Below.drew ?_ | refine Below.put ?_ (by dsimp only; omega) _)) _ _ _) ?_; intro vm pm))
        first | refine region_quiet1 (by kernel_rfl) ?_ | refine region_quiet (by kernel_rfl) ?_
        repeat (go_big_quiet_step (first | (go_at_call 18; with_reducible exact quiet (co.out _)) | (go_at_call 28; with_reducible exact quiet (c1.out _ _ _))))
        refine wpQuiet_nil ?_
        intro _
        go_wp2_with (first | (go_at_call 18; (first | with_reducible refine use1 (co.out _) ?_ | with_reducible refine use (co.out _) ?_); intro pw) | (go_at_call 22; (first | with_reducible refine use1 (c2.out _ _) ?_ | with_reducible refine use (c2.out _ _) ?_); intro pw))
        go_ret
        exact ⟨rfl, (by repeat (first | exact Below.refl _ _ | refine Below.later ?_ _ | refine Below.box ?_ _ | refine Below.drew ?_ | refine Below.put ?_ (by dsimp only; omega) _))⟩
    · clear f1 f2 f3 f4 f5 f6 f7 f9 f10 f13 hS0 hK0 hq0 hq1
      go_enter Try.func10, Try.ntmps10
      go_wp2_with (first | (go_at_call 16; (first | with_reducible refine use1 (cr.out _ (by repeat (first | exact Below.refl _ _ | refine Below.later ?_ _ | refine Below.box ?_ _ | refine Below.drew ?_ | refine Below.put ?_ (by dsimp only; omega) _))) ?_ | with_reducible refine use (cr.out _ (by repeat (first | exact Below.refl _ _ | refine Below.later ?_ _ | refine Below.box ?_ _ | refine Below.drew ?_ | refine Below.put ?_ (by dsimp only; omega) _))) ?_); intro pw) | (go_at_call 12; (first | with_reducible refine use1 (awake29_c _) ?_ | with_reducible refine use (awake29_c _) ?_); intro pw))
      go_ret
      exact ⟨rfl, (by repeat (first | exact Below.refl _ _ | refine Below.later ?_ _ | refine Below.box ?_ _ | refine Below.drew ?_ | refine Below.put ?_ (by dsimp only; omega) _))⟩

set_option maxRecDepth 100000 in
theorem lifted (os : Os) (started : os.Started) (H : Type) (enc : TypeId × Value → H) :
    ReturnsInHanded {} Try.checked os 10 .any (Rows.soundnessLargeFieldsSpec.pre6 enc Try.prog Try.f10 Rows.soundnessLargeFieldsRow.domain false) (Rows.soundnessLargeFieldsSpec.post enc Try.prog Try.f10 false true false false) := by
  refine returnsInHanded_of_change (C := Try.checked) own started (by kernel_rfl) Try.func10
    (ChangeSpec.witness6 (enc := enc) (C := Try.checked) false ⟨#[], #[.agg #[.int .u64 0, .int .i64 0, .int .i64 0, .slice none 0 0, .int .i64 0, .int .i64 0, .int .i64 0, .slice none 0 0]], []⟩ 8 (by kernel_rfl) (by kernel_rfl) (by kernel_rfl) (by kernel_rfl)) ?_
  intro W base args ds gs before hval0 hW hcnd _
  have hval : ∀ (j : Nat) t v, Try.f10.params[j]? = some t → args[j]? = some v → Value.okWide Try.prog W .any base t v := hval0
  have hW0 : DataW.Whole enc Try.prog Try.f10.params.toList Rows.soundnessLargeFieldsSpec.vars false W args.toList ds gs before := hW
  obtain ⟨p, q, hA0, hV, rfl, _, _⟩ := hW
  have hA : DataW.TrodAll enc Try.prog W 0 (fun _ => true) true Try.f10.params.toList args.toList ds p := hA0
  rw [Try.params10] at hA hval
  obtain ⟨v0, vs0, d0, ds0, p0, q0, hargs, rfl, rfl, h0, r0⟩ := trodAll_cons hA
  obtain ⟨rfl, rfl, rfl⟩ := trodAll_nil r0
  obtain rfl : args = #[v0] := by cases args; simp_all
  obtain ⟨rfl, rfl⟩ := trodVars_none hV
  obtain ⟨a0x, a0y, a0z, a0u, a0v, a0t, a0r, a0s, a0q, a0o, a0m, a0k, rfl, u0⟩ := open_case2 (hval 0 38 v0 rfl rfl) h0
  clear hA0 hval0
  refine (walk W a0x a0y a0z a0u a0v a0t a0r a0s a0q a0o a0m a0k u0).mono fun e W' ⟨he, hb⟩ => ⟨.bool true, he, ?_⟩
  exact law_post (fun t ht => by have ht' : t ∈ [38] := ht; simp only [List.mem_cons, List.not_mem_nil, or_false] at ht'; rcases ht' with rfl <;> exact ⟨by kernel_rfl, of_decide_eq_true (by kernel_rfl)⟩) rfl rfl hW0 rfl hb

theorem over : Rows.soundnessLargeFieldsRow.holds Try.pinned (OpenSpec.ofChange Rows.soundnessLargeFieldsSpec) :=
  OpenClaim.holds_of_wide 10 Try.f10 rfl rfl rfl rfl rfl rfl rfl ⟨rfl, rfl, rfl, rfl, rfl⟩ rfl rfl rfl rfl rfl (by kernel_rfl) Try.func10 (by kernel_rfl)
    (of_decide_eq_true (by kernel_rfl)) (by unfold Func.isWrapper; first | (rw [if_pos (by decide +kernel)]; kernel_rfl) | (rw [if_neg (by decide +kernel)]; exact ⟨rfl, rfl⟩))
    (fun os started H enc _ => lifted os started H enc)

/-- The statement. -/
theorem proved : Rows.SoundnessLargeFieldsSaid := over
#print axioms proved
end Go.Proofs.Ytkpkgjniicnkcaa.soundnessLargeFields
