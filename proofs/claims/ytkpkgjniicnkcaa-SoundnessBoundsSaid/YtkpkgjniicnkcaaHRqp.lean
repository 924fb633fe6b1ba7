/- The reference's QuadPasses. -/
import Derived.Test.YtkpkgjniicnkcaaQE
import Derived.Test.YtkpkgjniicnkcaaQB
namespace Go.Proofs.Ytkpkgjniicnkcaa
open Go.RowKit Go.Sort

theorem ele_at (ls : List (List Int)) (b p0 P v j k : Nat) (hb : 1 ≤ b) (hk : k < b) : eleV ls b p0 P P v (j * b + k) = (ls.getD (ahead p0 P P v + j) []).getD k 0 := by
  have h1 : (j * b + k) / b = j := by rw [Nat.mul_comm, Nat.mul_add_div (by omega), Nat.div_eq_of_lt hk, Nat.add_zero]
  have h2 : (j * b + k) % b = k := by rw [Nat.mul_comm, Nat.mul_add_mod, Nat.mod_eq_of_lt hk]
  rw [eleV, h1, h2]
theorem ele_U {ls : List (List Int)} {b p0 P v i : Nat} (h : ∀ l ∈ ls, ∀ x ∈ l, U x) : U (eleV ls b p0 P P v i) := by
  unfold eleV
  simp only [List.getD]
  cases h1 : ls[ahead p0 P P v + i / b]? with
  | none => simp; exact ⟨by decide, by decide⟩
  | some l =>
    simp only [Option.getD_some]
    cases h2 : l[i % b]? with
    | none => exact ⟨by decide, by decide⟩
    | some x => exact h l (List.mem_of_getElem? h1) x (List.mem_of_getElem? h2)

set_option maxRecDepth 100000 in
set_option maxHeartbeats 4000000 in
theorem rquadPasses_c (b p0 P pn : Nat) (q k n s r : Int) (u : Option Addr) (c : Nat) (ls : List (List Int)) (w : World) (hv : vld (pn : Int) = true) (hpn : pn ≤ 257) (hb : 1 ≤ b ∧ b ≤ 256) (hp0 : p0 ≤ 70000) (hP : P ≤ 70000) (h1 : Mt w u ls) (hlen : ls.length = p0 + P + P + P) (hfull : ∀ l ∈ ls, l.length = b) (hUl : ∀ l ∈ ls, ∀ x ∈ l, U x) :
    Calls Try.prog 23 #[.agg #[.int .u64 (pn : Int), .int .i64 (b : Int), .int .i64 q, .int .i64 k, .int .i64 n, .int .i64 s, .int .i64 r, .int .i64 (p0 : Nat), .int .i64 (P : Nat), .int .i64 (P : Nat), .int .i64 (P : Nat)], .slice u ls.length c] w (Gives (.int .i64 (quadN (pn : Int) (gaps (pn : Int) ls p0 P b) b pn : Nat)) w) := by
  have ce : Kept (∀ (v j kk : Nat) w', Below w.heap.size w w' → 1 ≤ v → v ≤ 3 → j < P → kk < b → Calls Try.prog 41 #[.agg #[.int .u64 (pn : Int), .int .i64 (b : Int), .int .i64 q, .int .i64 k, .int .i64 n, .int .i64 s, .int .i64 r, .int .i64 (p0 : Nat), .int .i64 (P : Nat), .int .i64 (P : Nat), .int .i64 (P : Nat)], .slice u ls.length c, .int .i64 (v : Int), .int .i64 ((j * b + kk : Nat) : Int)] w' (Gives (.int .u64 ((ls.getD (ahead p0 P P v + j) []).getD kk 0)) w')) := ⟨fun v j kk w' hw hv1 hv3 hj hkk => by
    have hjb : j * b ≤ 70000 * 256 := Nat.mul_le_mul (by omega) hb.2
    have hd : (j * b + kk) / b = j := by rw [Nat.mul_comm, Nat.mul_add_div (by omega), Nat.div_eq_of_lt hkk, Nat.add_zero]
    have := element_c b p0 P P P v (j * b + kk) (pn : Int) q k n s r u c ls w' hb hp0 hP hP hv3 (by omega) (h1.below (Nat.le_refl _) hw) hfull (by
      rw [hd, hlen]; unfold ahead; rw [if_neg (by omega)]; split
      · omega
      · split <;> omega) (by omega)
    rw [ele_at ls b p0 P v j kk hb.1 hkk] at this; exact this⟩
  have hgl : Kept ((gaps (pn : Int) ls p0 P b).length = P) := ⟨gaps_len _ _ _ _ _⟩
  have hgat : Kept (∀ j, j < P → (gaps (pn : Int) ls p0 P b)[j]? = some (gapL (pn : Int) ls p0 P b j)) := ⟨fun j hj => by simp [gaps, List.getElem?_map, List.getElem?_range hj]⟩
  have hrow : Kept (∀ i, U ((ls.getD i []).getD 0 0) ∧ ∀ kk, U ((ls.getD i []).getD kk 0)) := ⟨fun i => by
    have key : ∀ kk, U ((ls.getD i []).getD kk 0) := fun kk => by
      simp only [List.getD]
      cases e1 : ls[i]? with
      | none => simp; exact ⟨by decide, by decide⟩
      | some l =>
        simp only [Option.getD_some]
        cases e2 : l[kk]? with
        | none => exact ⟨by decide, by decide⟩
        | some x => exact hUl l (List.mem_of_getElem? e1) x (List.mem_of_getElem? e2)
    exact ⟨key 0, key⟩⟩
  have hv' : Kept (vld (pn : Int) = true) := ⟨hv⟩
  clear h1 hlen hfull hUl hv
  generalize ls.length = m at *
  go_enter Try.func23, Try.ntmps23
  go_wp2
  go_loopw [5, 6] (fun vn vb wr => ∃ (t : Nat) (q2 : Regrown), vn = .int .i64 (quadN (pn : Int) (gaps (pn : Int) ls p0 P b) b t : Nat) ∧ vb = .int .u64 (t : Int) ∧ t ≤ pn ∧ wr = after (w.alloc (.cells #[.int .u64 (pn : Int), .int .i64 (b : Int), .int .i64 q, .int .i64 k, .int .i64 n, .int .i64 s, .int .i64 r, .int .i64 (p0 : Nat), .int .i64 (P : Nat), .int .i64 (P : Nat), .int .i64 (P : Nat)] 41)) q2) (fun _ vb _ => ((pn : Int) - intOf vb).toNat)
  case atStart => exact ⟨0, ⟨_, #[]⟩, rfl, rfl, by omega, by simp [after_eq, Go.Sort.grow_empty]; rfl⟩
  case round =>
    obtain ⟨t, q2, rfl, rfl, ht, rfl⟩ := hrel
    by_cases htp : t < pn
    · have hle := quadN_le (pn : Int) (gaps (pn : Int) ls p0 P b) b t
      go_wp2
      go_loopw [7, 8] (fun vz vk wr => ∃ (kk : Nat) (z : Bool) (q3 : Regrown), vz = .bool z ∧ vk = .int .i64 (kk : Int) ∧ kk ≤ b ∧ wr = after (w.alloc (.cells #[.int .u64 (pn : Int), .int .i64 (b : Int), .int .i64 q, .int .i64 k, .int .i64 n, .int .i64 s, .int .i64 r, .int .i64 (p0 : Nat), .int .i64 (P : Nat), .int .i64 (P : Nat), .int .i64 (P : Nat)] 41)) q3 ∧ Kept (z = ((List.range b).take kk).all fun x => hor (pn : Int) (t : Int) (gaps (pn : Int) ls p0 P b) x == 0)) (fun _ vk _ => ((b : Int) - intOf vk).toNat)
      case atStart => exact ⟨0, true, q2, rfl, rfl, by omega, rfl, ⟨rfl⟩⟩
      case round =>
        obtain ⟨kk, z, q3, rfl, rfl, hk, rfl, hz⟩ := hrel
        by_cases hkb : kk < b
        · have hkI : (kk : Int) < (b : Int) := by omega
          go_wp2
          go_loopw [9, 10, 11] (fun vs vp vj wr => ∃ (j : Nat) (sum pw : Int) (q4 : Regrown), vs = .int .u64 sum ∧ vp = .int .u64 pw ∧ vj = .int .i64 (j : Int) ∧ j ≤ P ∧ U sum ∧ U pw ∧ wr = after (w.alloc (.cells #[.int .u64 (pn : Int), .int .i64 (b : Int), .int .i64 q, .int .i64 k, .int .i64 n, .int .i64 s, .int .i64 r, .int .i64 (p0 : Nat), .int .i64 (P : Nat), .int .i64 (P : Nat), .int .i64 (P : Nat)] 41)) q4 ∧ Kept (refF (pn : Int) (t : Int) kk (gaps (pn : Int) ls p0 P b) 0 (t : Int) = refF (pn : Int) (t : Int) kk ((gaps (pn : Int) ls p0 P b).drop j) sum pw)) (fun _ _ vj _ => ((P : Int) - intOf vj).toNat)
          case atStart => exact ⟨0, 0, (t : Int), q3, rfl, rfl, rfl, by omega, ⟨by decide, by decide⟩, ⟨by omega, by omega⟩, rfl, ⟨rfl⟩⟩
          case round =>
            obtain ⟨j, sum, pw', q4, rfl, rfl, rfl, hj, hU1, hU2, rfl, hI⟩ := hrel
            by_cases hjP : j < P
            · obtain ⟨i, hi⟩ : ∃ i, j * b + kk = i := ⟨_, rfl⟩
              have hib : i ≤ 20000000 := by
                have : j * b ≤ 70000 * 256 := Nat.mul_le_mul (by omega) hb.2
                omega
              obtain ⟨jb, hjb⟩ : ∃ x, j * b = x := ⟨_, rfl⟩
              have hjbI : (j : Int) * (b : Int) = (jb : Int) := by rw [← hjb]; simp
              have hiI : (jb : Int) + (kk : Int) = (i : Int) := by omega
              have hjb2 : jb ≤ 20000000 := by omega
              obtain ⟨x, hx⟩ : ∃ x, (ls.getD (p0 + j) []).getD kk 0 = x := ⟨_, rfl⟩
              obtain ⟨y, hy⟩ : ∃ x, (ls.getD (p0 + P + j) []).getD kk 0 = x := ⟨_, rfl⟩
              obtain ⟨z', hz'⟩ : ∃ x, (ls.getD (p0 + P + P + j) []).getD kk 0 = x := ⟨_, rfl⟩
              have hxU : U x := by rw [← hx]; exact (hrow.out _).2 kk
              have hyU : U y := by rw [← hy]; exact (hrow.out _).2 kk
              have hzU : U z' := by rw [← hz']; exact (hrow.out _).2 kk
              have c1 : Kept (∀ q5, Calls Try.prog 41 #[.agg #[.int .u64 (pn : Int), .int .i64 (b : Int), .int .i64 q, .int .i64 k, .int .i64 n, .int .i64 s, .int .i64 r, .int .i64 (p0 : Nat), .int .i64 (P : Nat), .int .i64 (P : Nat), .int .i64 (P : Nat)], .slice u m c, .int .i64 1, .int .i64 (i : Int)] (after (w.alloc (.cells #[.int .u64 (pn : Int), .int .i64 (b : Int), .int .i64 q, .int .i64 k, .int .i64 n, .int .i64 s, .int .i64 r, .int .i64 (p0 : Nat), .int .i64 (P : Nat), .int .i64 (P : Nat), .int .i64 (P : Nat)] 41)) q5) (Gives (.int .u64 x) (after (w.alloc (.cells #[.int .u64 (pn : Int), .int .i64 (b : Int), .int .i64 q, .int .i64 k, .int .i64 n, .int .i64 s, .int .i64 r, .int .i64 (p0 : Nat), .int .i64 (P : Nat), .int .i64 (P : Nat), .int .i64 (P : Nat)] 41)) q5))) := ⟨fun q5 => by
                have := ce.out 1 j kk (after (w.alloc (.cells #[.int .u64 (pn : Int), .int .i64 (b : Int), .int .i64 q, .int .i64 k, .int .i64 n, .int .i64 s, .int .i64 r, .int .i64 (p0 : Nat), .int .i64 (P : Nat), .int .i64 (P : Nat), .int .i64 (P : Nat)] 41)) q5) (by repeat (first | exact Below.refl _ _ | refine Below.later ?_ _ | refine Below.box ?_ _ | refine Below.drew ?_ | refine Below.put ?_ (by dsimp only; omega) _)) (by omega) (by omega) hjP hkb
                rw [hi] at this; rw [← hx]; exact this⟩
              have c2 : Kept (∀ q5, Calls Try.prog 41 #[.agg #[.int .u64 (pn : Int), .int .i64 (b : Int), .int .i64 q, .int .i64 k, .int .i64 n, .int .i64 s, .int .i64 r, .int .i64 (p0 : Nat), .int .i64 (P : Nat), .int .i64 (P : Nat), .int .i64 (P : Nat)], .slice u m c, .int .i64 2, .int .i64 (i : Int)] (after (w.alloc (.cells #[.int .u64 (pn : Int), .int .i64 (b : Int), .int .i64 q, .int .i64 k, .int .i64 n, .int .i64 s, .int .i64 r, .int .i64 (p0 : Nat), .int .i64 (P : Nat), .int .i64 (P : Nat), .int .i64 (P : Nat)] 41)) q5) (Gives (.int .u64 y) (after (w.alloc (.cells #[.int .u64 (pn : Int), .int .i64 (b : Int), .int .i64 q, .int .i64 k, .int .i64 n, .int .i64 s, .int .i64 r, .int .i64 (p0 : Nat), .int .i64 (P : Nat), .int .i64 (P : Nat), .int .i64 (P : Nat)] 41)) q5))) := ⟨fun q5 => by
                have := ce.out 2 j kk (after (w.alloc (.cells #[.int .u64 (pn : Int), .int .i64 (b : Int), .int .i64 q, .int .i64 k, .int .i64 n, .int .i64 s, .int .i64 r, .int .i64 (p0 : Nat), .int .i64 (P : Nat), .int .i64 (P : Nat), .int .i64 (P : Nat)] 41)) q5) (by repeat (first | exact Below.refl _ _ | refine Below.later ?_ _ | refine Below.box ?_ _ | refine Below.drew ?_ | refine Below.put ?_ (by dsimp only; omega) _)) (by omega) (by omega) hjP hkb
                rw [hi] at this; rw [← hy]; exact this⟩
              have c3 : Kept (∀ q5, Calls Try.prog 41 #[.agg #[.int .u64 (pn : Int), .int .i64 (b : Int), .int .i64 q, .int .i64 k, .int .i64 n, .int .i64 s, .int .i64 r, .int .i64 (p0 : Nat), .int .i64 (P : Nat), .int .i64 (P : Nat), .int .i64 (P : Nat)], .slice u m c, .int .i64 3, .int .i64 (i : Int)] (after (w.alloc (.cells #[.int .u64 (pn : Int), .int .i64 (b : Int), .int .i64 q, .int .i64 k, .int .i64 n, .int .i64 s, .int .i64 r, .int .i64 (p0 : Nat), .int .i64 (P : Nat), .int .i64 (P : Nat), .int .i64 (P : Nat)] 41)) q5) (Gives (.int .u64 z') (after (w.alloc (.cells #[.int .u64 (pn : Int), .int .i64 (b : Int), .int .i64 q, .int .i64 k, .int .i64 n, .int .i64 s, .int .i64 r, .int .i64 (p0 : Nat), .int .i64 (P : Nat), .int .i64 (P : Nat), .int .i64 (P : Nat)] 41)) q5))) := ⟨fun q5 => by
                have := ce.out 3 j kk (after (w.alloc (.cells #[.int .u64 (pn : Int), .int .i64 (b : Int), .int .i64 q, .int .i64 k, .int .i64 n, .int .i64 s, .int .i64 r, .int .i64 (p0 : Nat), .int .i64 (P : Nat), .int .i64 (P : Nat), .int .i64 (P : Nat)] 41)) q5) (by repeat (first | exact Below.refl _ _ | refine Below.later ?_ _ | refine Below.box ?_ _ | refine Below.drew ?_ | refine Below.put ?_ (by dsimp only; omega) _)) (by omega) (by omega) hjP hkb
                rw [hi] at this; rw [← hz']; exact this⟩
              obtain ⟨V, hV⟩ : ∃ V, fsub (pn : Int) (fmul (pn : Int) x y) z' = V := ⟨_, rfl⟩
              have hVU : U V := by rw [← hV]; exact fsub_U
              have cm : Kept (∀ w, Calls Try.prog 40 #[.int .u64 (pn : Int), .int .u64 x, .int .u64 y] w (Gives (.int .u64 (fmul (pn : Int) x y)) w)) := ⟨fun w => rmul_c _ x y w hxU hyU⟩
              have cs : Kept (∀ w, Calls Try.prog 39 #[.int .u64 (pn : Int), .int .u64 (fmul (pn : Int) x y), .int .u64 z'] w (Gives (.int .u64 V) w)) := ⟨fun w => by rw [← hV]; exact rsub_c _ _ z' w fmul_U hzU⟩
              have cm2 : Kept (∀ w, Calls Try.prog 40 #[.int .u64 (pn : Int), .int .u64 pw', .int .u64 V] w (Gives (.int .u64 (fmul (pn : Int) pw' V)) w)) := ⟨fun w => rmul_c _ pw' V w hU2 hVU⟩
              have ca : Kept (∀ w, Calls Try.prog 42 #[.int .u64 (pn : Int), .int .u64 sum, .int .u64 (fmul (pn : Int) pw' V)] w (Gives (.int .u64 (fadd (pn : Int) sum (fmul (pn : Int) pw' V))) w)) := ⟨fun w => radd_c _ sum _ w hU1 fmul_U⟩
              have cm3 : Kept (∀ w, Calls Try.prog 40 #[.int .u64 (pn : Int), .int .u64 pw', .int .u64 (t : Int)] w (Gives (.int .u64 (fmul (pn : Int) pw' (t : Int))) w)) := ⟨fun w => rmul_c _ pw' _ w hU2 ⟨by omega, by omega⟩⟩
              have hU3 : U (fadd (pn : Int) sum (fmul (pn : Int) pw' V)) := fadd_U
              have hU4 : U (fmul (pn : Int) pw' (t : Int)) := fmul_U
              have hI2 : Kept (refF (pn : Int) (t : Int) kk (gaps (pn : Int) ls p0 P b) 0 (t : Int) = refF (pn : Int) (t : Int) kk ((gaps (pn : Int) ls p0 P b).drop (j + 1)) (fadd (pn : Int) sum (fmul (pn : Int) pw' V)) (fmul (pn : Int) pw' (t : Int))) := ⟨by
                rw [hI.out, drop_cons (hgat.out j hjP), refF, gapL_at _ _ _ _ _ _ _ hkb, gapV, hx, hy, hz', hV]⟩
              have hjPI : (j : Int) < (P : Int) := by omega
              clear hI hx hy hz' hV hxU hyU hzU hVU hi hjb hrow ce
              generalize fadd (pn : Int) sum (fmul (pn : Int) pw' V) = A at *
              generalize fmul (pn : Int) pw' V = B at *
              generalize fmul (pn : Int) pw' (t : Int) = D at *
              generalize fmul (pn : Int) x y = M at *
              go_wp2_with (first | (go_at_call 41; (first | with_reducible refine use1 (c1.out _) ?_ | with_reducible refine use (c1.out _) ?_); intro pw) | (go_at_call 41; (first | with_reducible refine use1 (c2.out _) ?_ | with_reducible refine use (c2.out _) ?_); intro pw) | (go_at_call 41; (first | with_reducible refine use1 (c3.out _) ?_ | with_reducible refine use (c3.out _) ?_); intro pw) | (go_at_call 40; (first | with_reducible refine use1 (cm.out _) ?_ | with_reducible refine use (cm.out _) ?_); intro pw) | (go_at_call 39; (first | with_reducible refine use1 (cs.out _) ?_ | with_reducible refine use (cs.out _) ?_); intro pw) | (go_at_call 40; (first | with_reducible refine use1 (cm2.out _) ?_ | with_reducible refine use (cm2.out _) ?_); intro pw) | (go_at_call 42; (first | with_reducible refine use1 (ca.out _) ?_ | with_reducible refine use (ca.out _) ?_); intro pw) | (go_at_call 40; (first | with_reducible refine use1 (cm3.out _) ?_ | with_reducible refine use (cm3.out _) ?_); intro pw))
              repeat (
                (first | refine region_quiet1 (by kernel_rfl) ?_ | refine region_quiet (by kernel_rfl) ?_)
                repeat (go_big_quiet_step (first | (go_at_call 41; with_reducible exact quiet (c1.out _)) | (go_at_call 41; with_reducible exact quiet (c2.out _)) | (go_at_call 41; with_reducible exact quiet (c3.out _)) | (go_at_call 40; with_reducible exact quiet (cm.out _)) | (go_at_call 39; with_reducible exact quiet (cs.out _)) | (go_at_call 40; with_reducible exact quiet (cm2.out _)) | (go_at_call 42; with_reducible exact quiet (ca.out _)) | (go_at_call 40; with_reducible exact quiet (cm3.out _))))
                refine wpQuiet_nil ?_
                intro _
                go_wp2_with (first | (go_at_call 41; (first | with_reducible refine use1 (c1.out _) ?_ | with_reducible refine use (c1.out _) ?_); intro pw) | (go_at_call 41; (first | with_reducible refine use1 (c2.out _) ?_ | with_reducible refine use (c2.out _) ?_); intro pw) | (go_at_call 41; (first | with_reducible refine use1 (c3.out _) ?_ | with_reducible refine use (c3.out _) ?_); intro pw) | (go_at_call 40; (first | with_reducible refine use1 (cm.out _) ?_ | with_reducible refine use (cm.out _) ?_); intro pw) | (go_at_call 39; (first | with_reducible refine use1 (cs.out _) ?_ | with_reducible refine use (cs.out _) ?_); intro pw) | (go_at_call 40; (first | with_reducible refine use1 (cm2.out _) ?_ | with_reducible refine use (cm2.out _) ?_); intro pw) | (go_at_call 42; (first | with_reducible refine use1 (ca.out _) ?_ | with_reducible refine use (ca.out _) ?_); intro pw) | (go_at_call 40; (first | with_reducible refine use1 (cm3.out _) ?_ | with_reducible refine use (cm3.out _) ?_); intro pw)))
              go_roundw
              case rel => exact ⟨j + 1, A, D, _, rfl, rfl, by go_num, by omega, hU3, hU4, rfl, hI2⟩
              case measure => first | (simp [intOf]; omega) | (simp [intOf]; done)
            · have hs : Kept (hor (pn : Int) (t : Int) (gaps (pn : Int) ls p0 P b) kk = sum) := ⟨by
                rw [← ref_hor hv'.out, hI.out, List.drop_eq_nil_of_le (by rw [hgl.out]; omega)]; rfl⟩
              have hz2 : Kept ((z && (sum == 0)) = ((List.range b).take (kk + 1)).all fun x => hor (pn : Int) (t : Int) (gaps (pn : Int) ls p0 P b) x == 0) := ⟨by
                rw [List.take_add_one, List.getElem?_range hkb, List.all_append, ← hz.out]
                simp [hs.out]⟩
              clear hI hz hs
              cases z
              · go_wp2
                go_roundw
                case rel => exact ⟨kk + 1, false, q4, rfl, by go_num, by omega, rfl, ⟨by rw [← hz2.out]; rfl⟩⟩
                case measure => first | (simp [intOf]; omega) | (simp [intOf]; done)
              · go_wp2
                go_roundw
                case rel => exact ⟨kk + 1, (sum == 0), q4, rfl, by go_num, by omega, rfl, ⟨by rw [← hz2.out]; rfl⟩⟩
                case measure => first | (simp [intOf]; omega) | (simp [intOf]; done)
        · have hzq : Kept (quadB (pn : Int) (t : Int) (gaps (pn : Int) ls p0 P b) b = z) := ⟨by
            rw [hz.out, List.take_of_length_le (by simp; omega)]; rfl⟩
          have hnext := quadN_next (pn : Int) (gaps (pn : Int) ls p0 P b) b t
          rw [hzq.out] at hnext
          have hnext : Kept _ := ⟨hnext⟩
          clear hz hzq
          cases z
          · go_wp2
            go_roundw
            case rel => exact ⟨t + 1, q3, by rw [hnext.out]; simp, by go_num, by omega, rfl⟩
            case measure => first | (simp [intOf]; omega) | (simp [intOf]; done)
          · go_wp2
            go_roundw
            case rel => exact ⟨t + 1, q3, by rw [hnext.out]; simp, by go_num, by omega, rfl⟩
            case measure => first | (simp [intOf]; omega) | (simp [intOf]; done)
    · have htt : t = pn := by omega
      subst htt
      go_wp2
      go_ret
      exact ⟨rfl, (by repeat (first | exact Below.refl _ _ | refine Below.later ?_ _ | refine Below.box ?_ _ | refine Below.drew ?_ | refine Below.put ?_ (by dsimp only; omega) _))⟩
end Go.Proofs.Ytkpkgjniicnkcaa
