/- LinearDeterminant: for any field and any matrix the call returns true: Determinant returns the determinant that the expansion along the first column gives (matrices of at most 6 rows and columns; for others there is nothing to show). No condition. -/
import Derived.Test.YtjnlnbkdnjainaaHPl4
namespace Go.Proofs.Ytjnlnbkdnjainaa.linearDeterminant
open Go.ChangeShapes Go.WideShapes Go.ChangeAt Go.RowKit Go.Sort

set_option maxHeartbeats 8000000 in
set_option maxRecDepth 100000 in
theorem walk (w : World) (p : Int) (hp : U p) (u : Option Addr) (ls : List (List Int)) (c : Nat) (h1 : Arg w u c ls) :
    Calls Try.prog 6 #[.int .u64 p, .slice u ls.length c] w (Gives (.bool true) w) := by
  have hs := h1.1.small
  obtain ⟨n, hn⟩ : ∃ n, ls.length = n := ⟨_, rfl⟩
  have csm : Kept (∀ w', Below w.heap.size w w' → Calls Try.prog 36 #[.slice u n c, .int .i64 6] w' (Gives (.bool (smlM ls 6)) w')) := ⟨fun w' hw => by have := small_c u c ls 6 (by omega) w' (h1.mt hw); rw [hn] at this; exact this⟩
  cases hsm : smlM ls 6
  · rw [hsm] at csm
    rw [hn] at hs ⊢
    clear h1 hsm hn
    go_enter Try.func6, Try.ntmps6
    go_wp2_with (first | (go_at_call 30; (first | with_reducible refine use1 (awake05_c _) ?_ | with_reducible refine use (awake05_c _) ?_); intro pw) | (go_at_call 36; (first | with_reducible refine use1 (csm.out _ (by repeat (first | exact Below.refl _ _ | refine Below.later ?_ _ | refine Below.box ?_ _ | refine Below.drew ?_ | refine Below.put ?_ (by dsimp only; omega) _))) ?_ | with_reducible refine use (csm.out _ (by repeat (first | exact Below.refl _ _ | refine Below.later ?_ _ | refine Below.box ?_ _ | refine Below.drew ?_ | refine Below.put ?_ (by dsimp only; omega) _))) ?_); intro pw))
    go_ret
    exact ⟨rfl, (by repeat (first | exact Below.refl _ _ | refine Below.later ?_ _ | refine Below.box ?_ _ | refine Below.drew ?_ | refine Below.put ?_ (by dsimp only; omega) _))⟩
  · rw [hsm] at csm
    have ccp : Kept (∀ w', Below w.heap.size w w' → Calls Try.prog 33 #[.slice u n c] w' (GivesC ls w')) := ⟨fun w' hw => by have := h1.cp hsm (by omega) hw; rw [hn] at this; exact this⟩
    have key : ∃ D, Kept (∀ w' u c, Mt w' u ls → Calls Try.prog 20 #[.agg #[.int .u64 p], .slice u n c] w' (fun e w'' => e = .returned (.int .u64 D) ∧ Below w'.heap.size w' w'')) ∧ Kept (∀ w', Below w.heap.size w w' → Calls Try.prog 37 #[.int .u64 p, .slice u n c] w' (fun e w'' => e = .returned (.int .u64 D) ∧ Below w'.heap.size w' w'')) := by
      refine ⟨detE p ls, ⟨fun w' u c h => by have := det_c p u c ls w' h; rw [hn] at this; exact this⟩, ⟨fun w' hw => ?_⟩⟩
      by_cases hV : (vld p && vldM ls) = true ∧ colsN ls = ls.length
      · obtain ⟨hV, hc⟩ := hV
        simp only [Bool.and_eq_true] at hV
        have hrow := (vldM_row hV.2).2.2
        rw [detE_rdt hV.1 hV.2 hn (by omega)]
        exact rdet_c p hV.1 n (by have := (vldM_row hV.2).1; omega) u c ls w' (h1.mc hw) hn (fun l hl => by rw [hrow l hl]; omega)
      · have hno : (vld p && vldM ls) = false ∨ colsN ls ≠ ls.length := by
          by_cases h5 : (vld p && vldM ls) = true
          · exact .inr (fun e => hV ⟨h5, e⟩)
          · exact .inl (by simpa using h5)
        have hd : detE p ls = 0 := by
          unfold detE
          rw [if_neg]
          rintro ⟨h6, _⟩
          simp only [Bool.and_eq_true, decide_eq_true_eq] at h6
          exact hV ⟨by rw [h6.1.1, h6.1.2]; rfl, h6.2⟩
        rw [hd]
        have := rdet_no p u c ls w' (h1.mt hw) hno
        rw [hn] at this
        exact this.mono (fun e w'' ⟨he, hb⟩ => ⟨he, hb⟩)
    obtain ⟨D, cd, crd⟩ := key
    rw [hn] at hs ⊢
    have kn := (⟨hn⟩ : Kept _)
    clear h1 hsm hn hp
    go_enter Try.func6, Try.ntmps6
    go_wp2_with (first | (go_at_call 30; (first | with_reducible refine use1 (awake05_c _) ?_ | with_reducible refine use (awake05_c _) ?_); intro pw) | (go_at_call 36; (first | with_reducible refine use1 (csm.out _ (by repeat (first | exact Below.refl _ _ | refine Below.later ?_ _ | refine Below.box ?_ _ | refine Below.drew ?_ | refine Below.put ?_ (by dsimp only; omega) _))) ?_ | with_reducible refine use (csm.out _ (by repeat (first | exact Below.refl _ _ | refine Below.later ?_ _ | refine Below.box ?_ _ | refine Below.drew ?_ | refine Below.put ?_ (by dsimp only; omega) _))) ?_); intro pw) | (go_at_call 33; refine (ccp.out _ (by repeat (first | exact Below.refl _ _ | refine Below.later ?_ _ | refine Below.box ?_ _ | refine Below.drew ?_ | refine Below.put ?_ (by dsimp only; omega) _))).mono ?_; rintro e w3 ⟨u3, c3, rfl, hM3, _, hB3⟩; refine Stop.out ?_))
    refine ⟨?_⟩
    have kB3 : Kept (Below w.heap.size w w3) := ⟨Below.next (by repeat (first | exact Below.refl _ _ | refine Below.later ?_ _ | refine Below.box ?_ _ | refine Below.drew ?_ | refine Below.put ?_ (by dsimp only; omega) _)) hB3⟩
    have kM3 := (⟨hM3⟩ : Kept _)
    clear hM3 hB3
    simp only [kn.out]
    go_wp2_with (first | (go_at_call 20; refine (cd.out _ _ _ kM3.out).mono ?_; rintro e w4 ⟨rfl, hB4⟩; refine Stop.out ?_))
    refine ⟨?_⟩
    have kB4 : Kept (Below w.heap.size w w4) := ⟨Below.next kB3.out hB4⟩
    clear hB4
    go_wp2_with (first | (go_at_call 37; refine (crd.out _ kB4.out).mono ?_; rintro e w5 ⟨rfl, hB5⟩; refine Stop.out ?_))
    refine ⟨?_⟩
    have kB5 : Kept (Below w.heap.size w w5) := ⟨Below.next kB4.out hB5⟩
    clear hB5
    go_wp2
    go_ret
    exact ⟨by simp, kB5.out⟩
set_option maxRecDepth 100000 in
theorem lifted (os : Os) (started : os.Started) (H : Type) (enc : TypeId × Value → H) :
    ReturnsInHanded {} Try.checked os 6 .any (Rows.linearDeterminantSpec.pre6 enc Try.prog Try.f6 Rows.linearDeterminantRow.domain false) (Rows.linearDeterminantSpec.post enc Try.prog Try.f6 false true false false) := by
  refine returnsInHanded_of_change (C := Try.checked) own started (by kernel_rfl) Try.func6
    (ChangeSpec.witness6 (enc := enc) (C := Try.checked) false ⟨#[], #[.int .u64 0, .slice none 0 0], []⟩ 8 (by kernel_rfl) (by kernel_rfl) (by kernel_rfl) (by kernel_rfl)) ?_
  intro W base args ds gs before hval0 hW hcnd _
  have hval : ∀ (j : Nat) t v, Try.f6.params[j]? = some t → args[j]? = some v → Value.okWide Try.prog W .any base t v := hval0
  have hW0 : DataW.Whole enc Try.prog Try.f6.params.toList Rows.linearDeterminantSpec.vars false W args.toList ds gs before := hW
  obtain ⟨p, q, hA0, hV, rfl, _, _⟩ := hW
  have hA : DataW.TrodAll enc Try.prog W 0 (fun _ => true) true Try.f6.params.toList args.toList ds p := hA0
  rw [Try.params6] at hA hval
  obtain ⟨v0, vs0, d0, ds0, p0, q0, hargs, rfl, rfl, h0, r0⟩ := trodAll_cons hA
  obtain ⟨v1, vs1, d1, ds1, p1, q1, rfl, rfl, rfl, h1, r1⟩ := trodAll_cons r0
  obtain ⟨rfl, rfl, rfl⟩ := trodAll_nil r1
  obtain rfl : args = #[v0, v1] := by cases args; simp_all
  obtain ⟨rfl, rfl⟩ := trodVars_none hV
  obtain ⟨a0, rfl, u0⟩ := open_u64 (hval 0 22 v0 rfl rfl)
  obtain ⟨a1x, a1y, a1z, rfl, u1⟩ := open_mat (hval 1 28 v1 rfl rfl) h1
  clear hA0 hval0
  refine (walk W a0 u0 a1x a1y a1z u1).mono fun e W' ⟨he, hb⟩ => ⟨.bool true, he, ?_⟩
  exact law_post (fun t ht => by have ht' : t ∈ [22, 28] := ht; simp only [List.mem_cons, List.not_mem_nil, or_false] at ht'; rcases ht' with rfl | rfl <;> exact ⟨by kernel_rfl, of_decide_eq_true (by kernel_rfl)⟩) rfl rfl hW0 rfl hb

theorem over : Rows.linearDeterminantRow.holds Try.pinned (OpenSpec.ofChange Rows.linearDeterminantSpec) :=
  OpenClaim.holds_of_wide 6 Try.f6 rfl rfl rfl rfl rfl rfl rfl ⟨rfl, rfl, rfl, rfl, rfl⟩ rfl rfl rfl rfl rfl (by kernel_rfl) Try.func6 (by kernel_rfl)
    (of_decide_eq_true (by kernel_rfl)) (by unfold Func.isWrapper; first | (rw [if_pos (by decide +kernel)]; kernel_rfl) | (rw [if_neg (by decide +kernel)]; exact ⟨rfl, rfl⟩))
    (fun os started H enc _ => lifted os started H enc)

/-- The statement. -/
theorem proved : Rows.LinearDeterminantSaid := over
#print axioms proved
end Go.Proofs.Ytjnlnbkdnjainaa.linearDeterminant
