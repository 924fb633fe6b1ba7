/- LayoutNew: for any table and any parameters the call returns true: New gives the specified layout or error, and Total the number of its rows (tables of up to 100 rows that Small accepts; others are passed over). No condition. -/
import Derived.Test.YtpkjlnelkacbgaaHTArk
import Derived.Test.YtpkjlnelkacbgaaHL24b
import Derived.Test.YtpkjlnelkacbgaaHTabM
namespace Go.Proofs.Ytpkjlnelkacbgaa.layoutNew
open Go.ChangeShapes Go.WideShapes Go.ChangeAt Go.RowKit Go.Sort

set_option maxHeartbeats 8000000 in
theorem walk (w : World) (p pub vs : Int) (u : Option Addr) (c : Nat) (rs : List Rw) (h : U p ∧ I pub ∧ I vs ∧ Rws w u rs) (b bl q : Int) (h2 : I b ∧ I bl ∧ I q) :
    Calls Try.prog 3 #[.agg #[.int .u64 p, .int .i64 pub, .int .i64 vs, .slice u rs.length c], .agg #[.int .i64 b, .int .i64 bl, .int .i64 q]] w (Gives (.bool true) w) := by
  obtain ⟨_, _, _, hR⟩ := h
  have hs1 := hR.small
  have cs : Kept (∀ w', Below w.heap.size w w' → Calls Try.prog 11 #[.agg #[.int .u64 p, .int .i64 pub, .int .i64 vs, .slice u rs.length c]] w' (Gives (.bool (smallF rs.length rs)) w')) := ⟨fun w' hw => small2_c p pub vs u c rs w' (hR.below (Nat.le_refl _) hw)⟩
  obtain ⟨a0, a1, a2, a3, a4, a5, a6, a7, a8, a9, a10, hV, h7, h8, h9, h10⟩ := newV_form p pub vs b bl q rs
  obtain ⟨E, hE⟩ : ∃ E, newE p b bl q (tabB p pub vs rs && okX b bl q) = E := ⟨_, rfl⟩
  have cn : Kept (∀ w', Below w.heap.size w w' → Calls Try.prog 12 #[.agg #[.int .u64 p, .int .i64 pub, .int .i64 vs, .slice u rs.length c], .agg #[.int .i64 b, .int .i64 bl, .int .i64 q]] w' (Gives (.tuple #[.agg #[.int .u64 a0, .int .i64 a1, .int .i64 a2, .int .i64 a3, .int .i64 a4, .int .i64 a5, .int .i64 a6, .int .i64 a7, .int .i64 a8, .int .i64 a9, .int .i64 a10], .int .i64 E]) w')) := ⟨fun w' hw => by
    have := lnew_c p pub vs b bl q u c rs w' (hR.below (Nat.le_refl _) hw)
    rw [hV, hE] at this; exact this⟩
  have cm : Kept (∀ w', Below w.heap.size w w' → Calls Try.prog 13 #[.agg #[.int .u64 p, .int .i64 pub, .int .i64 vs, .slice u rs.length c], .agg #[.int .i64 b, .int .i64 bl, .int .i64 q]] w' (Gives (.tuple #[.agg #[.int .u64 a0, .int .i64 a1, .int .i64 a2, .int .i64 a3, .int .i64 a4, .int .i64 a5, .int .i64 a6, .int .i64 a7, .int .i64 a8, .int .i64 a9, .int .i64 a10], .int .i64 E]) w')) := ⟨fun w' hw => by
    have := rnew_c p pub vs b bl q u c rs w' (hR.below (Nat.le_refl _) hw)
    rw [hV, hE] at this; exact this⟩
  have ct : Kept (∀ w', Calls Try.prog 15 #[.agg #[.int .u64 a0, .int .i64 a1, .int .i64 a2, .int .i64 a3, .int .i64 a4, .int .i64 a5, .int .i64 a6, .int .i64 a7, .int .i64 a8, .int .i64 a9, .int .i64 a10]] w' (Gives (.int .i64 (a7 + a8 + a9 + a10)) w')) := ⟨fun w' => total_c _ _ _ _ _ _ _ _ _ _ _ w' h7 h8 h9 h10⟩
  have cu : Kept (∀ w', Calls Try.prog 16 #[.agg #[.int .u64 a0, .int .i64 a1, .int .i64 a2, .int .i64 a3, .int .i64 a4, .int .i64 a5, .int .i64 a6, .int .i64 a7, .int .i64 a8, .int .i64 a9, .int .i64 a10]] w' (Gives (.int .i64 (a7 + a8 + a9 + a10)) w')) := ⟨fun w' => rtotal_c _ _ _ _ _ _ _ _ _ _ _ w' h7 h8 h9 h10⟩
  have co : Kept (∀ w', Calls Try.prog 14 #[.agg #[.int .u64 a0, .int .i64 a1, .int .i64 a2, .int .i64 a3, .int .i64 a4, .int .i64 a5, .int .i64 a6, .int .i64 a7, .int .i64 a8, .int .i64 a9, .int .i64 a10]] w' (Gives (.agg #[.int .u64 a0, .int .i64 a1, .int .i64 a2, .int .i64 a3, .int .i64 a4, .int .i64 a5, .int .i64 a6, .int .i64 a7, .int .i64 a8, .int .i64 a9, .int .i64 a10]) w')) := ⟨fun w' => own24_c _ _ _ _ _ _ _ _ _ _ _ w'⟩
  clear hR hV hE h7 h8 h9 h10
  generalize smallF rs.length rs = sb at *
  generalize rs.length = m at *
  generalize a7 + a8 + a9 + a10 = T at *
  have qe : ∀ w, (Op.equalIn 10000 32 (.agg #[.int .u64 a0, .int .i64 a1, .int .i64 a2, .int .i64 a3, .int .i64 a4, .int .i64 a5, .int .i64 a6, .int .i64 a7, .int .i64 a8, .int .i64 a9, .int .i64 a10]) (.agg #[.int .u64 a0, .int .i64 a1, .int .i64 a2, .int .i64 a3, .int .i64 a4, .int .i64 a5, .int .i64 a6, .int .i64 a7, .int .i64 a8, .int .i64 a9, .int .i64 a10])).run Try.prog w = .ok true w := fun w => eqLay _ _ _ _ _ _ _ _ _ _ _ w
  by_cases hm : m ≤ 100
  · cases sb
    · go_enter Try.func3, Try.ntmps3
      go_wp2_with (first | (go_at_call 11; (first | with_reducible refine use1 (cs.out _ (by repeat (first | exact Below.refl _ _ | refine Below.later ?_ _ | refine Below.box ?_ _ | refine Below.drew ?_ | refine Below.put ?_ (by dsimp only; omega) _))) ?_ | with_reducible refine use (cs.out _ (by repeat (first | exact Below.refl _ _ | refine Below.later ?_ _ | refine Below.box ?_ _ | refine Below.drew ?_ | refine Below.put ?_ (by dsimp only; omega) _))) ?_); intro pw) | (go_at_call 10; (first | with_reducible refine use1 (awake24_c _) ?_ | with_reducible refine use (awake24_c _) ?_); intro pw))
      go_ret
      exact ⟨rfl, (by repeat (first | exact Below.refl _ _ | refine Below.later ?_ _ | refine Below.box ?_ _ | refine Below.drew ?_ | refine Below.put ?_ (by dsimp only; omega) _))⟩
    · go_enter Try.func3, Try.ntmps3
      go_wp2_with (first | (go_at_call 10; (first | with_reducible refine use1 (awake24_c _) ?_ | with_reducible refine use (awake24_c _) ?_); intro pw) | (go_at_call 11; (first | with_reducible refine use1 (cs.out _ (by repeat (first | exact Below.refl _ _ | refine Below.later ?_ _ | refine Below.box ?_ _ | refine Below.drew ?_ | refine Below.put ?_ (by dsimp only; omega) _))) ?_ | with_reducible refine use (cs.out _ (by repeat (first | exact Below.refl _ _ | refine Below.later ?_ _ | refine Below.box ?_ _ | refine Below.drew ?_ | refine Below.put ?_ (by dsimp only; omega) _))) ?_); intro pw) | (go_at_call 12; (first | with_reducible refine use1 (cn.out _ (by repeat (first | exact Below.refl _ _ | refine Below.later ?_ _ | refine Below.box ?_ _ | refine Below.drew ?_ | refine Below.put ?_ (by dsimp only; omega) _))) ?_ | with_reducible refine use (cn.out _ (by repeat (first | exact Below.refl _ _ | refine Below.later ?_ _ | refine Below.box ?_ _ | refine Below.drew ?_ | refine Below.put ?_ (by dsimp only; omega) _))) ?_); intro pw) | (go_at_call 13; (first | with_reducible refine use1 (cm.out _ (by repeat (first | exact Below.refl _ _ | refine Below.later ?_ _ | refine Below.box ?_ _ | refine Below.drew ?_ | refine Below.put ?_ (by dsimp only; omega) _))) ?_ | with_reducible refine use (cm.out _ (by repeat (first | exact Below.refl _ _ | refine Below.later ?_ _ | refine Below.box ?_ _ | refine Below.drew ?_ | refine Below.put ?_ (by dsimp only; omega) _))) ?_); intro pw) | (go_at_call 15; (first | with_reducible refine use1 (ct.out _) ?_ | with_reducible refine use (ct.out _) ?_); intro pw) | (go_at_call 16; (first | with_reducible refine use1 (cu.out _) ?_ | with_reducible refine use (cu.out _) ?_); intro pw) | (go_at_call 14; (first | with_reducible refine use1 (co.out _) ?_ | with_reducible refine use (co.out _) ?_); intro pw))
      repeat (
        (first | refine region_quiet1 (by kernel_rfl) ?_ | refine region_quiet (by kernel_rfl) ?_)
        repeat (go_big_quiet_step (first | (go_at_call 10; with_reducible exact quiet (awake24_c _)) | (go_at_call 11; with_reducible exact quiet (cs.out _ (by repeat (first | exact Below.refl _ _ | refine Below.later ?_ _ | refine Below.box ?_ _ | refine Below.drew ?_ | refine Below.put ?_ (by dsimp only; omega) _)))) | (go_at_call 12; with_reducible exact quiet (cn.out _ (by repeat (first | exact Below.refl _ _ | refine Below.later ?_ _ | refine Below.box ?_ _ | refine Below.drew ?_ | refine Below.put ?_ (by dsimp only; omega) _)))) | (go_at_call 13; with_reducible exact quiet (cm.out _ (by repeat (first | exact Below.refl _ _ | refine Below.later ?_ _ | refine Below.box ?_ _ | refine Below.drew ?_ | refine Below.put ?_ (by dsimp only; omega) _)))) | (go_at_call 15; with_reducible exact quiet (ct.out _)) | (go_at_call 16; with_reducible exact quiet (cu.out _)) | (go_at_call 14; with_reducible exact quiet (co.out _))))
        refine wpQuiet_nil ?_
        intro _
        go_wp2_with (first | (go_at_call 10; (first | with_reducible refine use1 (awake24_c _) ?_ | with_reducible refine use (awake24_c _) ?_); intro pw) | (go_at_call 11; (first | with_reducible refine use1 (cs.out _ (by repeat (first | exact Below.refl _ _ | refine Below.later ?_ _ | refine Below.box ?_ _ | refine Below.drew ?_ | refine Below.put ?_ (by dsimp only; omega) _))) ?_ | with_reducible refine use (cs.out _ (by repeat (first | exact Below.refl _ _ | refine Below.later ?_ _ | refine Below.box ?_ _ | refine Below.drew ?_ | refine Below.put ?_ (by dsimp only; omega) _))) ?_); intro pw) | (go_at_call 12; (first | with_reducible refine use1 (cn.out _ (by repeat (first | exact Below.refl _ _ | refine Below.later ?_ _ | refine Below.box ?_ _ | refine Below.drew ?_ | refine Below.put ?_ (by dsimp only; omega) _))) ?_ | with_reducible refine use (cn.out _ (by repeat (first | exact Below.refl _ _ | refine Below.later ?_ _ | refine Below.box ?_ _ | refine Below.drew ?_ | refine Below.put ?_ (by dsimp only; omega) _))) ?_); intro pw) | (go_at_call 13; (first | with_reducible refine use1 (cm.out _ (by repeat (first | exact Below.refl _ _ | refine Below.later ?_ _ | refine Below.box ?_ _ | refine Below.drew ?_ | refine Below.put ?_ (by dsimp only; omega) _))) ?_ | with_reducible refine use (cm.out _ (by repeat (first | exact Below.refl _ _ | refine Below.later ?_ _ | refine Below.box ?_ _ | refine Below.drew ?_ | refine Below.put ?_ (by dsimp only; omega) _))) ?_); intro pw) | (go_at_call 15; (first | with_reducible refine use1 (ct.out _) ?_ | with_reducible refine use (ct.out _) ?_); intro pw) | (go_at_call 16; (first | with_reducible refine use1 (cu.out _) ?_ | with_reducible refine use (cu.out _) ?_); intro pw) | (go_at_call 14; (first | with_reducible refine use1 (co.out _) ?_ | with_reducible refine use (co.out _) ?_); intro pw)))
      go_ret
      exact ⟨by simp, (by repeat (first | exact Below.refl _ _ | refine Below.later ?_ _ | refine Below.box ?_ _ | refine Below.drew ?_ | refine Below.put ?_ (by dsimp only; omega) _))⟩
  · go_enter Try.func3, Try.ntmps3
    go_wp2_with (first | (go_at_call 11; (first | with_reducible refine use1 (cs.out _ (by repeat (first | exact Below.refl _ _ | refine Below.later ?_ _ | refine Below.box ?_ _ | refine Below.drew ?_ | refine Below.put ?_ (by dsimp only; omega) _))) ?_ | with_reducible refine use (cs.out _ (by repeat (first | exact Below.refl _ _ | refine Below.later ?_ _ | refine Below.box ?_ _ | refine Below.drew ?_ | refine Below.put ?_ (by dsimp only; omega) _))) ?_); intro pw) | (go_at_call 10; (first | with_reducible refine use1 (awake24_c _) ?_ | with_reducible refine use (awake24_c _) ?_); intro pw))
    go_ret
    exact ⟨rfl, (by repeat (first | exact Below.refl _ _ | refine Below.later ?_ _ | refine Below.box ?_ _ | refine Below.drew ?_ | refine Below.put ?_ (by dsimp only; omega) _))⟩

set_option maxRecDepth 100000 in
theorem lifted (os : Os) (started : os.Started) (H : Type) (enc : TypeId × Value → H) :
    ReturnsInHanded {} Try.checked os 3 .any (Rows.layoutNewSpec.pre6 enc Try.prog Try.f3 Rows.layoutNewRow.domain false) (Rows.layoutNewSpec.post enc Try.prog Try.f3 false true false false) := by
  refine returnsInHanded_of_change (C := Try.checked) own started (by kernel_rfl) Try.func3
    (ChangeSpec.witness6 (enc := enc) (C := Try.checked) false ⟨#[], #[.agg #[.int .u64 0, .int .i64 0, .int .i64 0, .slice none 0 0], .agg #[.int .i64 0, .int .i64 0, .int .i64 0]], []⟩ 8 (by kernel_rfl) (by kernel_rfl) (by kernel_rfl) (by kernel_rfl)) ?_
  intro W base args ds gs before hval0 hW hcnd _
  have hval : ∀ (j : Nat) t v, Try.f3.params[j]? = some t → args[j]? = some v → Value.okWide Try.prog W .any base t v := hval0
  have hW0 : DataW.Whole enc Try.prog Try.f3.params.toList Rows.layoutNewSpec.vars false W args.toList ds gs before := hW
  obtain ⟨p, q, hA0, hV, rfl, _, _⟩ := hW
  have hA : DataW.TrodAll enc Try.prog W 0 (fun _ => true) true Try.f3.params.toList args.toList ds p := hA0
  rw [Try.params3] at hA hval
  obtain ⟨v0, vs0, d0, ds0, p0, q0, hargs, rfl, rfl, h0, r0⟩ := trodAll_cons hA
  obtain ⟨v1, vs1, d1, ds1, p1, q1, rfl, rfl, rfl, h1, r1⟩ := trodAll_cons r0
  obtain ⟨rfl, rfl, rfl⟩ := trodAll_nil r1
  obtain rfl : args = #[v0, v1] := by cases args; simp_all
  obtain ⟨rfl, rfl⟩ := trodVars_none hV
  obtain ⟨a0x, a0y, a0z, a0u, a0v, a0t, rfl, u0⟩ := open_table (hval 0 25 v0 rfl rfl) h0
  obtain ⟨a1x, a1y, a1z, rfl, u1⟩ := open_params (hval 1 27 v1 rfl rfl) h1
  clear hA0 hval0
  refine (walk W a0x a0y a0z a0u a0v a0t u0 a1x a1y a1z u1).mono fun e W' ⟨he, hb⟩ => ⟨.bool true, he, ?_⟩
  exact law_post (fun t ht => by have ht' : t ∈ [25, 27] := ht; simp only [List.mem_cons, List.not_mem_nil, or_false] at ht'; rcases ht' with rfl | rfl <;> exact ⟨by kernel_rfl, of_decide_eq_true (by kernel_rfl)⟩) rfl rfl hW0 rfl hb

theorem over : Rows.layoutNewRow.holds Try.pinned (OpenSpec.ofChange Rows.layoutNewSpec) :=
  OpenClaim.holds_of_wide 3 Try.f3 rfl rfl rfl rfl rfl rfl rfl ⟨rfl, rfl, rfl, rfl, rfl⟩ rfl rfl rfl rfl rfl (by kernel_rfl) Try.func3 (by kernel_rfl)
    (of_decide_eq_true (by kernel_rfl)) (by unfold Func.isWrapper; first | (rw [if_pos (by decide +kernel)]; kernel_rfl) | (rw [if_neg (by decide +kernel)]; exact ⟨rfl, rfl⟩))
    (fun os started H enc _ => lifted os started H enc)

/-- The statement. -/
theorem proved : Rows.LayoutNewSaid := over
#print axioms proved
end Go.Proofs.Ytpkjlnelkacbgaa.layoutNew
