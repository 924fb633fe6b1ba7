/- FieldLists: for any P and any two lists the call returns true: Sum, Dot and Inverses give the specified results (lists of up to 200 elements; longer ones are passed over). No condition. -/
import Derived.Test.YteodakcebeloeaaArgs
import Derived.Test.YteodakcebeloeaaApp
import Derived.Test.YteodakcebeloeaaL01a
import Derived.Test.YteodakcebeloeaaMake
namespace Go.Proofs.Yteodakcebeloeaa.fieldLists
open Go.ChangeShapes Go.WideShapes Go.ChangeAt Go.RowKit Go.Sort

set_option maxHeartbeats 4000000 in
theorem walk (w : World) (p : Int) (hp : U p) (u1 : Option Addr) (l1 : List Int) (c1 : Nat) (h1 : Ls w u1 l1 ∧ (u1 = none → c1 = 0)) (u2 : Option Addr) (l2 : List Int) (c2 : Nat) (h2 : Ls w u2 l2 ∧ (u2 = none → c2 = 0)) :
    Calls Try.prog 11 #[.int .u64 p, .slice u1 l1.length c1, .slice u2 l2.length c2] w (Gives (.bool true) w) := by
  obtain ⟨h1, hc1⟩ := h1
  obtain ⟨h2, hc2⟩ := h2
  obtain ⟨n1, hn1⟩ : ∃ n, l1.length = n := ⟨_, rfl⟩
  obtain ⟨n2, hn2⟩ : ∃ n, l2.length = n := ⟨_, rfl⟩
  have s1 := h1.small
  have s2 := h2.small
  rw [hn1] at s1 ⊢
  rw [hn2] at s2 ⊢
  have k1 : Kept (Ls w u1 l1 ∧ (u1 = none → c1 = 0) ∧ l1.length = n1) := ⟨h1, hc1, hn1⟩
  have k2 : Kept (Ls w u2 l2 ∧ (u2 = none → c2 = 0) ∧ l2.length = n2) := ⟨h2, hc2, hn2⟩
  have hp' : Kept (U p) := ⟨hp⟩
  clear h1 hc1 hn1 h2 hc2 hn2 hp
  by_cases b1 : 200 < n1
  · clear k1 k2
    go_enter Try.func11, Try.ntmps11
    go_wp2_with (first | (go_at_call 12; (first | with_reducible refine use1 (awake01_c _) ?_ | with_reducible refine use (awake01_c _) ?_); intro pw))
    repeat (
      (first | refine region_quiet1 (by kernel_rfl) ?_ | refine region_quiet (by kernel_rfl) ?_)
      repeat (go_big_quiet_step (first | (go_at_call 12; with_reducible exact quiet (awake01_c _))))
      refine wpQuiet_nil ?_
      intro _
      go_wp2_with (first | (go_at_call 12; (first | with_reducible refine use1 (awake01_c _) ?_ | with_reducible refine use (awake01_c _) ?_); intro pw)))
    go_ret
    exact ⟨rfl, (by repeat (first | exact Below.refl _ _ | refine Below.later ?_ _ | refine Below.box ?_ _ | refine Below.drew ?_ | refine Below.put ?_ (by dsimp only; omega) _))⟩
  · by_cases b2 : 200 < n2
    · clear k1 k2
      go_enter Try.func11, Try.ntmps11
      go_wp2_with (first | (go_at_call 12; (first | with_reducible refine use1 (awake01_c _) ?_ | with_reducible refine use (awake01_c _) ?_); intro pw))
      repeat (
        (first | refine region_quiet1 (by kernel_rfl) ?_ | refine region_quiet (by kernel_rfl) ?_)
        repeat (go_big_quiet_step (first | (go_at_call 12; with_reducible exact quiet (awake01_c _))))
        refine wpQuiet_nil ?_
        intro _
        go_wp2_with (first | (go_at_call 12; (first | with_reducible refine use1 (awake01_c _) ?_ | with_reducible refine use (awake01_c _) ?_); intro pw)))
      go_ret
      exact ⟨rfl, (by repeat (first | exact Below.refl _ _ | refine Below.later ?_ _ | refine Below.box ?_ _ | refine Below.drew ?_ | refine Below.put ?_ (by dsimp only; omega) _))⟩
    · go_enter Try.func11, Try.ntmps11
      go_wp2_with (first | (go_at_call 12; (first | with_reducible refine use1 (awake01_c _) ?_ | with_reducible refine use (awake01_c _) ?_); intro pw) | (at_builtin; refine wpList_append_copy (W := w) rfl _ _ rfl _ rfl (by simp) u1 l1 n1 c1 rfl k1 (by repeat (first | exact Below.refl _ _ | refine Below.later ?_ _ | refine Below.box ?_ _ | refine Below.drew ?_ | refine Below.put ?_ (by dsimp only; omega) _)) (by omega) ?_; intro q1 d1 e1 m1) | (at_builtin; refine wpList_append_copy (W := w) rfl _ _ rfl _ rfl (by simp) u2 l2 n2 c2 rfl k2 (by repeat (first | exact Below.refl _ _ | refine Below.later ?_ _ | refine Below.box ?_ _ | refine Below.drew ?_ | refine Below.put ?_ (by dsimp only; omega) _)) (by omega) ?_; intro q2 d2 e2 m2; refine Stop.out ?_))
      refine ⟨?_⟩
      have hB2 : Kept (Below w.heap.size w (after (after ((after w pw).alloc (.cells #[.int .u64 p] 24)) q1) q2)) := ⟨(by repeat (first | exact Below.refl _ _ | refine Below.later ?_ _ | refine Below.box ?_ _ | refine Below.drew ?_ | refine Below.put ?_ (by dsimp only; omega) _))⟩
      have hbox : (after (after ((after w pw).alloc (.cells #[.int .u64 p] 24)) q1) q2).cell? ⟨w.heap.size + pw.os.size, 0, none⟩ = some (.int .u64 p) := by
        have := (((Cell1.new (after w pw) p 24).later q1).later q2).c0
        rw [after_size] at this; exact this
      have hblt : w.heap.size + pw.os.size < (after (after ((after w pw).alloc (.cells #[.int .u64 p] 24)) q1) q2).heap.size := by simp only [after_size, World.size_alloc]; omega
      have hm1 : Kept (Ls (after (after ((after w pw).alloc (.cells #[.int .u64 p] 24)) q1) q2) (some ⟨d1, 0, none⟩) l1) := ⟨m1.out.later q2⟩
      have hs1 : Kept (Ls (after (after ((after w pw).alloc (.cells #[.int .u64 p] 24)) q1) q2) u1 l1) := ⟨k1.out.1.below (Nat.le_refl _) hB2.out⟩
      have hs2 : Kept (Ls (after (after ((after w pw).alloc (.cells #[.int .u64 p] 24)) q1) q2) u2 l2) := ⟨k2.out.1.below (Nat.le_refl _) hB2.out⟩
      have hn1 : Kept (l1.length = n1) := ⟨k1.out.2.2⟩
      have hn2 : Kept (l2.length = n2) := ⟨k2.out.2.2⟩
      clear m1 k1 k2
      generalize after (after ((after w pw).alloc (.cells #[.int .u64 p] 24)) q1) q2 = w2 at *
      generalize w.heap.size + pw.os.size = B at *
      rw [← after_none w2]
      generalize (⟨w2.drawn, #[]⟩ : Regrown) = q0
      have cs : Kept (∀ q, Calls Try.prog 42 #[.agg #[.int .u64 p], .slice (some ⟨d1, 0, none⟩) n1 e1] (after w2 q) (Gives (.int .u64 (lsum p l1)) (after w2 q))) := ⟨fun q => by have := sum_c p _ e1 l1 _ (hm1.out.later q); rw [hn1.out] at this; exact this⟩
      have cr : Kept (∀ q, Calls Try.prog 43 #[.int .u64 p, .slice u1 n1 c1] (after w2 q) (Gives (.int .u64 (lsum p l1)) (after w2 q))) := ⟨fun q => by have := rsum_c p _ c1 l1 _ (hs1.out.later q); rw [hn1.out] at this; exact this⟩
      have cd : Kept (∀ q, Calls Try.prog 44 #[.agg #[.int .u64 p], .slice (some ⟨d1, 0, none⟩) n1 e1, .slice (some ⟨d2, 0, none⟩) n2 e2] (after w2 q) (Gives (.int .u64 (ldot p l1 l2)) (after w2 q))) := ⟨fun q => by have := dot_c p _ _ e1 e2 l1 l2 _ (hm1.out.later q) (m2.out.later q); rw [hn1.out, hn2.out] at this; exact this⟩
      have ce : Kept (∀ q, Calls Try.prog 45 #[.int .u64 p, .slice u1 n1 c1, .slice u2 n2 c2] (after w2 q) (Gives (.int .u64 (ldot p l1 l2)) (after w2 q))) := ⟨fun q => by have := rdot_c p _ _ c1 c2 l1 l2 _ (hs1.out.later q) (hs2.out.later q); rw [hn1.out, hn2.out] at this; exact this⟩
      generalize lsum p l1 = x1 at *
      generalize ldot p l1 l2 = x2 at *
      cases hv : vld p
      · have ci : Kept (∀ w, Calls Try.prog 46 #[.agg #[.int .u64 p], .slice (some ⟨d1, 0, none⟩) n1 e1] w (Gives (.slice none 0 0) w)) := ⟨fun w => inverses_none p _ n1 e1 w hv⟩
        have cv : Kept (∀ w, Calls Try.prog 35 #[.int .u64 p] w (Gives (.bool false) w)) := ⟨fun w => by have := rvalid_c p w; rw [hv] at this; exact this⟩
        clear hv hm1 m2 hs1 hs2 hp' hn1 hn2
        go_wp2_with (first | (go_at_call 42; (first | with_reducible refine use1 (cs.out _) ?_ | with_reducible refine use (cs.out _) ?_); intro pw) | (go_at_call 43; (first | with_reducible refine use1 (cr.out _) ?_ | with_reducible refine use (cr.out _) ?_); intro pw) | (go_at_call 44; (first | with_reducible refine use1 (cd.out _) ?_ | with_reducible refine use (cd.out _) ?_); intro pw) | (go_at_call 45; (first | with_reducible refine use1 (ce.out _) ?_ | with_reducible refine use (ce.out _) ?_); intro pw) | (go_at_call 46; (first | with_reducible refine use1 (ci.out _) ?_ | with_reducible refine use (ci.out _) ?_); intro pw) | (go_at_call 35; (first | with_reducible refine use1 (cv.out _) ?_ | with_reducible refine use (cv.out _) ?_); intro pw))
        repeat (
          (first | refine region_quiet1 (by kernel_rfl) ?_ | refine region_quiet (by kernel_rfl) ?_)
          repeat (go_big_quiet_step (first | (go_at_call 42; with_reducible exact quiet (cs.out _)) | (go_at_call 43; with_reducible exact quiet (cr.out _)) | (go_at_call 44; with_reducible exact quiet (cd.out _)) | (go_at_call 45; with_reducible exact quiet (ce.out _)) | (go_at_call 46; with_reducible exact quiet (ci.out _)) | (go_at_call 35; with_reducible exact quiet (cv.out _))))
          refine wpQuiet_nil ?_
          intro _
          go_wp2_with (first | (go_at_call 42; (first | with_reducible refine use1 (cs.out _) ?_ | with_reducible refine use (cs.out _) ?_); intro pw) | (go_at_call 43; (first | with_reducible refine use1 (cr.out _) ?_ | with_reducible refine use (cr.out _) ?_); intro pw) | (go_at_call 44; (first | with_reducible refine use1 (cd.out _) ?_ | with_reducible refine use (cd.out _) ?_); intro pw) | (go_at_call 45; (first | with_reducible refine use1 (ce.out _) ?_ | with_reducible refine use (ce.out _) ?_); intro pw) | (go_at_call 46; (first | with_reducible refine use1 (ci.out _) ?_ | with_reducible refine use (ci.out _) ?_); intro pw) | (go_at_call 35; (first | with_reducible refine use1 (cv.out _) ?_ | with_reducible refine use (cv.out _) ?_); intro pw)))
        go_ret
        exact ⟨rfl, Below.next hB2.out (by repeat (first | exact Below.refl _ _ | refine Below.later ?_ _ | refine Below.box ?_ _ | refine Below.drew ?_ | refine Below.put ?_ (by dsimp only; omega) _))⟩
      · have hp1 := vld_pos hv
        have ci : Kept (∀ q, Calls Try.prog 46 #[.agg #[.int .u64 p], .slice (some ⟨d1, 0, none⟩) n1 e1] (after w2 q) (GivesN n1 (l1.map (finv p)) (after w2 q))) := ⟨fun q => givesN (by simp [hn1.out]) (by
          have := inverses_c p _ e1 l1 _ (hm1.out.later q) hp'.out hv (by have := hn1.out; omega); rw [hn1.out] at this; exact this)⟩
        have cv : Kept (∀ w, Calls Try.prog 35 #[.int .u64 p] w (Gives (.bool true) w)) := ⟨fun w => by have := rvalid_c p w; rw [hv] at this; exact this⟩
        have hv' : Kept (vld p = true) := ⟨hv⟩
        clear hv m2 hs2 hn2
        go_wp2_with (first | (go_at_call 42; (first | with_reducible refine use1 (cs.out _) ?_ | with_reducible refine use (cs.out _) ?_); intro pw) | (go_at_call 43; (first | with_reducible refine use1 (cr.out _) ?_ | with_reducible refine use (cr.out _) ?_); intro pw) | (go_at_call 44; (first | with_reducible refine use1 (cd.out _) ?_ | with_reducible refine use (cd.out _) ?_); intro pw) | (go_at_call 45; (first | with_reducible refine use1 (ce.out _) ?_ | with_reducible refine use (ce.out _) ?_); intro pw) | (go_at_call 46; with_reducible refine useN1 (ci.out _) ?_; intro q3 b3 hl3; refine Stop.out ?_))
        refine ⟨?_⟩
        have hB3 : Kept (Below w.heap.size w (after w2 q3)) := ⟨Below.next hB2.out (after_below w2 q3)⟩
        have hbox3 : (after w2 q3).cell? ⟨B, 0, none⟩ = some (.int .u64 p) := by rw [after_cell _ _ _ _ hblt]; exact hbox
        have hblt3 : B < (after w2 q3).heap.size := by rw [after_size]; omega
        have hm3 := hm1.out.later q3
        have hs3 := hs1.out.later q3
        clear hm1 hs1 hbox hblt hB2 ci cs cr cd ce
        generalize after w2 q3 = w3 at *
        rw [← after_none w3]
        generalize (⟨w3.drawn, #[]⟩ : Regrown) = q4
        have csame : Kept (∀ q, Calls Try.prog 31 #[.slice (some ⟨d1, 0, none⟩) n1 e1, .slice u1 n1 c1] (after w3 q) (Gives (.bool true) (after w3 q))) := ⟨fun q => by
          have := same_c _ _ e1 c1 l1 l1 _ (hm3.later q) (hs3.later q); rw [hn1.out, decide_eq_true rfl] at this; exact this⟩
        have g1 : Kept (∀ k, k < n1 → ∃ b o x, u1 = some ⟨b, o, none⟩ ∧ l1[k]? = some x ∧ b < w3.heap.size ∧ w3.cell? ⟨b, o + k, none⟩ = some (.int .u64 x) ∧ U x) := ⟨hs3.get hn1.out⟩
        have g2 : Kept (∀ k, k < n1 → ∃ b o x, some (⟨b3, 0, none⟩ : Addr) = some ⟨b, o, none⟩ ∧ (l1.map (finv p))[k]? = some x ∧ b < w3.heap.size ∧ w3.cell? ⟨b, o + k, none⟩ = some (.int .u64 x) ∧ U x) := ⟨hl3.out.get (by simp [hn1.out])⟩
        clear hm3 hs3 hl3 hn1
        go_wp2_with (first | (go_at_call 35; (first | with_reducible refine use1 (cv.out _) ?_ | with_reducible refine use (cv.out _) ?_); intro pw) | (go_at_call 31; (first | with_reducible refine use1 (csame.out _) ?_ | with_reducible refine use (csame.out _) ?_); intro pw))
        repeat (
          (first | refine region_quiet1 (by kernel_rfl) ?_ | refine region_quiet (by kernel_rfl) ?_)
          repeat (go_big_quiet_step (first | (go_at_call 35; with_reducible exact quiet (cv.out _)) | (go_at_call 31; with_reducible exact quiet (csame.out _))))
          refine wpQuiet_nil ?_
          intro _
          go_wp2_with (first | (go_at_call 35; (first | with_reducible refine use1 (cv.out _) ?_ | with_reducible refine use (cv.out _) ?_); intro pw) | (go_at_call 31; (first | with_reducible refine use1 (csame.out _) ?_ | with_reducible refine use (csame.out _) ?_); intro pw)))
        go_loopw [74] (fun v wr => ∃ (k : Nat) (q : Regrown), v = .int .i64 (k : Int) ∧ k ≤ n1 ∧ wr = after w3 q) (fun v _ => (n1 : Int).toNat - (intOf v).toNat)
        case atStart => exact ⟨0, _, rfl, by omega, rfl⟩
        case round =>
          obtain ⟨k, q, rfl, hk, rfl⟩ := hrel
          by_cases h : k < n1
          · obtain ⟨a1, o1, y, rfl, hy, ha1, hc1, hUy⟩ := g1.out k h
            obtain ⟨a2, o2, x, hbl, hx, ha2, hc2, hUx⟩ := g2.out k h
            obtain ⟨rfl, rfl⟩ : b3 = a2 ∧ 0 = o2 := by injection hbl with hbl; injection hbl with e1 e2 _; exact ⟨e1, e2⟩
            rw [Nat.zero_add] at hc2
            have hxy : finv p y = x := by
              rw [List.getElem?_map, hy] at hx
              injection hx
            have hxp : x < p := by
              rw [← hxy]; unfold finv fpow; rw [if_pos hv'.out]; exact Int.emod_lt_of_pos _ (by omega)
            have hpz : ¬ p = 0 := by omega
            by_cases h0 : y % p = 0
            · have hx0 : x = 0 := by rw [← hxy]; exact finv_zero hv'.out y h0
              have ht : (y.tmod p != 0) = false := by rw [Int.tmod_eq_emod_of_nonneg hUy.1]; simp [h0]
              have cm : Kept (∀ w, Calls Try.prog 22 #[.int .u64 p, .int .u64 0, .int .u64 y] w (Gives (.int .u64 0) w)) := ⟨fun w => by
                have := rmul_c p 0 y w ⟨by decide, by decide⟩ hUy
                rw [show fmul p 0 y = 0 from by simp [fmul]] at this; exact this⟩
              subst hx0
              clear h0 g1 g2 hxy hx hy hbl hUy hUx
              go_wp2_with (first | (go_at_call 22; (first | with_reducible refine use1 (cm.out _) ?_ | with_reducible refine use (cm.out _) ?_); intro pw))
              repeat (
                (first | refine region_quiet1 (by kernel_rfl) ?_ | refine region_quiet (by kernel_rfl) ?_)
                repeat (go_big_quiet_step (first | (go_at_call 22; with_reducible exact quiet (cm.out _))))
                refine wpQuiet_nil ?_
                intro _
                go_wp2_with (first | (go_at_call 22; (first | with_reducible refine use1 (cm.out _) ?_ | with_reducible refine use (cm.out _) ?_); intro pw)))
              go_roundw
              case rel => exact ⟨k + 1, _, by go_num, by omega, rfl⟩
              case measure => first | (simp [intOf]; omega) | (simp [intOf]; done)
            · have cm : Kept (∀ w, Calls Try.prog 22 #[.int .u64 p, .int .u64 x, .int .u64 y] w (Gives (.int .u64 1) w)) := ⟨fun w => by
                have := rmul_c p x y w hUx hUy
                rw [fmul, if_pos hv'.out, Int.mul_comm, ← hxy, finv_mul hv'.out y h0] at this; rw [← hxy]; exact this⟩
              clear h0 g1 g2 hxy hx hy hbl hUy hUx
              go_wp2_with (first | (go_at_call 22; (first | with_reducible refine use1 (cm.out _) ?_ | with_reducible refine use (cm.out _) ?_); intro pw))
              repeat (
                (first | refine region_quiet1 (by kernel_rfl) ?_ | refine region_quiet (by kernel_rfl) ?_)
                repeat (go_big_quiet_step (first | (go_at_call 22; with_reducible exact quiet (cm.out _))))
                refine wpQuiet_nil ?_
                intro _
                go_wp2_with (first | (go_at_call 22; (first | with_reducible refine use1 (cm.out _) ?_ | with_reducible refine use (cm.out _) ?_); intro pw)))
              go_roundw
              case rel => exact ⟨k + 1, _, by go_num, by omega, rfl⟩
              case measure => first | (simp [intOf]; omega) | (simp [intOf]; done)
          · have hkn : k = n1 := by omega
            subst hkn
            clear g1 g2
            go_wp2
            go_ret
            exact ⟨rfl, Below.next hB3.out (by repeat (first | exact Below.refl _ _ | refine Below.later ?_ _ | refine Below.box ?_ _ | refine Below.drew ?_ | refine Below.put ?_ (by dsimp only; omega) _))⟩

set_option maxRecDepth 100000 in
theorem lifted (os : Os) (started : os.Started) (H : Type) (enc : TypeId × Value → H) :
    ReturnsInHanded {} Try.checked os 11 .any (Rows.fieldListsSpec.pre6 enc Try.prog Try.f11 Rows.fieldListsRow.domain false) (Rows.fieldListsSpec.post enc Try.prog Try.f11 false true false false) := by
  refine returnsInHanded_of_change (C := Try.checked) own started (by kernel_rfl) Try.func11
    (ChangeSpec.witness6 (enc := enc) (C := Try.checked) false ⟨#[], #[.int .u64 0, .slice none 0 0, .slice none 0 0], []⟩ 8 (by kernel_rfl) (by kernel_rfl) (by kernel_rfl) (by kernel_rfl)) ?_
  intro W base args ds gs before hval0 hW hcnd _
  have hval : ∀ (j : Nat) t v, Try.f11.params[j]? = some t → args[j]? = some v → Value.okWide Try.prog W .any base t v := hval0
  have hW0 : DataW.Whole enc Try.prog Try.f11.params.toList Rows.fieldListsSpec.vars false W args.toList ds gs before := hW
  obtain ⟨p, q, hA0, hV, rfl, _, _⟩ := hW
  have hA : DataW.TrodAll enc Try.prog W 0 (fun _ => true) true Try.f11.params.toList args.toList ds p := hA0
  rw [Try.params11] at hA hval
  obtain ⟨v0, vs0, d0, ds0, p0, q0, hargs, rfl, rfl, h0, r0⟩ := trodAll_cons hA
  obtain ⟨v1, vs1, d1, ds1, p1, q1, rfl, rfl, rfl, h1, r1⟩ := trodAll_cons r0
  obtain ⟨v2, vs2, d2, ds2, p2, q2, rfl, rfl, rfl, h2, r2⟩ := trodAll_cons r1
  obtain ⟨rfl, rfl, rfl⟩ := trodAll_nil r2
  obtain rfl : args = #[v0, v1, v2] := by cases args; simp_all
  obtain ⟨rfl, rfl⟩ := trodVars_none hV
  obtain ⟨a0, rfl, u0⟩ := open_u64 (hval 0 22 v0 rfl rfl)
  obtain ⟨a1x, a1y, a1z, rfl, u1⟩ := open_list (hval 1 40 v1 rfl rfl) h1
  obtain ⟨a2x, a2y, a2z, rfl, u2⟩ := open_list (hval 2 40 v2 rfl rfl) h2
  clear hA0 hval0
  refine (walk W a0 u0 a1x a1y a1z u1 a2x a2y a2z u2).mono fun e W' ⟨he, hb⟩ => ⟨.bool true, he, ?_⟩
  exact law_post (fun t ht => by have ht' : t ∈ [22, 40, 40] := ht; simp only [List.mem_cons, List.not_mem_nil, or_false] at ht'; rcases ht' with rfl | rfl | rfl <;> exact ⟨by kernel_rfl, of_decide_eq_true (by kernel_rfl)⟩) rfl rfl hW0 rfl hb

theorem over : Rows.fieldListsRow.holds Try.pinned (OpenSpec.ofChange Rows.fieldListsSpec) :=
  OpenClaim.holds_of_wide 11 Try.f11 rfl rfl rfl rfl rfl rfl rfl ⟨rfl, rfl, rfl, rfl, rfl⟩ rfl rfl rfl rfl rfl (by kernel_rfl) Try.func11 (by kernel_rfl)
    (of_decide_eq_true (by kernel_rfl)) (by unfold Func.isWrapper; first | (rw [if_pos (by decide +kernel)]; kernel_rfl) | (rw [if_neg (by decide +kernel)]; exact ⟨rfl, rfl⟩))
    (fun os started H enc _ => lifted os started H enc)

/-- The statement. -/
theorem proved : Rows.FieldListsSaid := over
#print axioms proved
end Go.Proofs.Yteodakcebeloeaa.fieldLists
