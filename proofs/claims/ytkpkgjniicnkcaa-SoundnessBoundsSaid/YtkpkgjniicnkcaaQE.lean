/- Lemmas of several texts in one file: Qua, Dii, Qup, Ele, Hor. -/
import Derived.Test.YtkpkgjniicnkcaaHDif
import Derived.Test.YtkpkgjniicnkcaaHDih
/- soundness.quadPass: by Horner's rule, the last row first. -/
namespace Go.Proofs.Ytkpkgjniicnkcaa
open Go.RowKit Go.Sort

def horS (p beta : Int) (k : Nat) (row : List Int) (acc : Int) : Int := fmul p (fadd p acc (row.getD k 0)) beta
def hor (p beta : Int) (gs : List (List Int)) (k : Nat) : Int := gs.foldr (horS p beta k) 0
theorem hor_U {p beta : Int} {gs : List (List Int)} {k : Nat} : U (hor p beta gs k) := by
  cases gs with
  | nil => show U 0; exact ⟨by decide, by decide⟩
  | cons g gs => exact fmul_U
def quadB (p beta : Int) (gs : List (List Int)) (b : Nat) : Bool := (List.range b).all fun k => hor p beta gs k == 0
theorem range_drop_next {b k : Nat} (h : k < b) : (List.range b).drop k = k :: (List.range b).drop (k + 1) :=
  drop_cons (List.getElem?_range h)

set_option maxRecDepth 100000 in
set_option maxHeartbeats 4000000 in
theorem quadPass_c (b : Nat) (p q k n s r p0 p1 p2 p3 beta : Int) (u : Option Addr) (c : Nat) (gs : List (List Int)) (w : World) (hb : b ≤ 256) (h1 : Mt w u gs) (hl : ∀ l ∈ gs, l.length = b) (hn : gs.length ≤ 1000000) (hbe : U beta) :
    Calls Try.prog 38 #[.agg #[.int .u64 p, .int .i64 (b : Int), .int .i64 q, .int .i64 k, .int .i64 n, .int .i64 s, .int .i64 r, .int .i64 p0, .int .i64 p1, .int .i64 p2, .int .i64 p3], .slice u gs.length c, .int .u64 beta] w (Gives (.bool (quadB p beta gs b)) w) := by
  obtain ⟨m, hm⟩ : ∃ m, gs.length = m := ⟨_, rfl⟩
  have k1 := (⟨h1.get hm⟩ : Kept _)
  have kl : Kept (∀ l ∈ gs, l.length = b) := ⟨hl⟩
  have e1 : Kept (gs.length = m) := ⟨hm⟩
  have ku : Kept (U beta) := ⟨hbe⟩
  rw [hm] at hn ⊢
  clear h1 hl hm hbe
  go_enter Try.func38, Try.ntmps38
  go_wp2
  generalize hW1 : (w.alloc (.cells #[.int .u64 p, .int .i64 (b : Int), .int .i64 q, .int .i64 k, .int .i64 n, .int .i64 s, .int .i64 r, .int .i64 p0, .int .i64 p1, .int .i64 p2, .int .i64 p3] 46)).alloc (.cells #[.int .u64 p] 96) = W1
  have hW : Kept (Below w.heap.size w W1) := ⟨by rw [← hW1]; exact (by repeat (first | exact Below.refl _ _ | refine Below.later ?_ _ | refine Below.box ?_ _ | refine Below.drew ?_ | refine Below.put ?_ (by dsimp only; omega) _))⟩
  have hWs : W1.heap.size = w.heap.size + 1 + 1 := by rw [← hW1]; simp
  have cF : Kept (W1.cell? ⟨w.heap.size + 1, 0, none⟩ = some (.int .u64 p)) := ⟨by
    rw [← hW1, show w.heap.size + 1 = (w.alloc (.cells #[.int .u64 p, .int .i64 (b : Int), .int .i64 q, .int .i64 k, .int .i64 n, .int .i64 s, .int .i64 r, .int .i64 p0, .int .i64 p1, .int .i64 p2, .int .i64 p3] 46)).heap.size from by simp, World.cell?_alloc_new]; rfl⟩
  clear hW1
  go_loopw [16] (fun v wr => ∃ (kk : Nat), v = .int .i64 (kk : Int) ∧ kk ≤ b ∧ Below W1.heap.size W1 wr ∧ Kept (quadB p beta gs b = ((List.range b).drop kk).all fun k => hor p beta gs k == 0)) (fun v _ => ((b : Int) - intOf v).toNat)
  case atStart => exact ⟨0, rfl, by omega, Below.refl _ _, ⟨rfl⟩⟩
  case round =>
    obtain ⟨kk, rfl, hk, hB, hQ⟩ := hrel
    obtain ⟨w2, rfl⟩ : ∃ x, x = wr := ⟨wr, rfl⟩
    by_cases hkb : kk < b
    · have hQ2 : Kept (quadB p beta gs b = (hor p beta gs kk == 0 && ((List.range b).drop (kk + 1)).all fun k => hor p beta gs k == 0)) := ⟨by rw [hQ.out, range_drop_next hkb]; rfl⟩
      have hBk : Kept (Below W1.heap.size W1 w2) := ⟨hB⟩
      clear hQ hB
      go_wp2
      go_loopw [9, 10] (fun vs vj wr => ∃ (t : Nat) (sum : Int), vs = .int .u64 sum ∧ vj = .int .i64 ((t : Int) - 1) ∧ t ≤ m ∧ Below W1.heap.size W1 wr ∧ U sum ∧ Kept ((gs.drop t).foldr (horS p beta kk) 0 = sum)) (fun _ vj _ => (intOf vj + 1).toNat)
      case atStart => exact ⟨m, 0, rfl, rfl, by omega, hBk.out, ⟨by decide, by decide⟩, ⟨by rw [List.drop_eq_nil_of_le (by have := e1.out; omega)]; rfl⟩⟩
      case round =>
        obtain ⟨t, sum, rfl, rfl, ht, hB, hU, hI⟩ := hrel
        rcases Nat.eq_zero_or_pos t with ht0 | ht0
        · subst ht0
          have hs : Kept (hor p beta gs kk = sum) := ⟨hI.out⟩
          have hlt0 : ((0 : Nat) : Int) - 1 < 0 := by decide
          clear hI
          rw [show (((0 : Nat) : Int) - 1) = -1 from by decide]
          by_cases hz : sum = 0
          · have hQ3 : Kept (quadB p beta gs b = ((List.range b).drop (kk + 1)).all fun k => hor p beta gs k == 0) := ⟨by rw [hQ2.out, hs.out, hz]; rfl⟩
            clear hQ2 hs
            subst hz
            go_wp2
            go_roundw
            case rel => exact ⟨kk + 1, by go_num, by omega, hB, hQ3⟩
            case measure => first | (simp [intOf]; omega) | (simp [intOf]; done)
          · have hQ3 : Kept (quadB p beta gs b = false) := ⟨by rw [hQ2.out, hs.out, show (sum == 0) = false from by simp [hz]]; rfl⟩
            have hz2 : (sum != 0) = true := by simp [hz]
            clear hQ2 hs
            go_wp2
            go_ret
            exact ⟨by rw [hQ3.out]; rfl, Below.next hW.out hB⟩
        · obtain ⟨t', rfl⟩ : ∃ t', t = t' + 1 := ⟨t - 1, by omega⟩
          obtain ⟨mb, mo, l, v, cl, rfl, hlx, hmb, hmc, hL⟩ := k1.out t' (by omega)
          have hll := kl.out l (List.mem_of_getElem? hlx)
          rw [hll] at hmc
          obtain ⟨xb, xo, x, rfl, hx, hxb, hxc, hxU⟩ := hL.at_ (k := kk) (by omega)
          have hBw : Below w.heap.size w wr := Below.next hW.out hB
          have hsz := hBw.size
          have hsz2 := hB.size
          have m1 : wr.cell? ⟨mb, mo + t', none⟩ = some (.slice (some ⟨xb, xo, none⟩) b cl) := by rw [hBw.cell (p := ⟨mb, mo + t', none⟩) hmb]; exact hmc
          have n1 : wr.cell? ⟨xb, xo + kk, none⟩ = some (.int .u64 x) := by rw [hBw.cell (p := ⟨xb, xo + kk, none⟩) hxb]; exact hxc
          have fF : wr.cell? ⟨w.heap.size + 1, 0, none⟩ = some (.int .u64 p) := by rw [hB.cell (p := ⟨w.heap.size + 1, 0, none⟩) (by simp only []; omega)]; exact cF.out
          have l1 : mb < wr.heap.size := by omega
          have l2 : xb < wr.heap.size := by omega
          have l3 : w.heap.size + 1 < wr.heap.size := by omega
          have hI2 : Kept ((gs.drop t').foldr (horS p beta kk) 0 = fmul p (fadd p sum x) beta) := ⟨by
            rw [drop_cons hlx, List.foldr_cons, hI.out]
            simp only [horS, List.getD, hx, Option.getD_some]⟩
          have ca : Kept (∀ w, Calls Try.prog 51 #[.agg #[.int .u64 p], .int .u64 sum, .int .u64 x] w (Gives (.int .u64 (fadd p sum x)) w)) := ⟨fun w => add_c p sum x w hU hxU⟩
          have cm : Kept (∀ w, Calls Try.prog 66 #[.agg #[.int .u64 p], .int .u64 (fadd p sum x), .int .u64 beta] w (Gives (.int .u64 (fmul p (fadd p sum x) beta)) w)) := ⟨fun w => mul_c p _ beta w fadd_U ku.out⟩
          have hU2 : U (fmul p (fadd p sum x) beta) := fmul_U
          have e3 : (((t' + 1 : Nat) : Int) - 1) = (t' : Int) := by omega
          have hkI : (kk : Int) < (b : Int) := by omega
          have htI : (t' : Int) < (m : Int) := by omega
          have hB3 : Kept (Below W1.heap.size W1 wr) := ⟨hB⟩
          clear hI hx hxc hmc hlx hL hll hxU hU hB hBw hmb hxb
          rw [e3]
          generalize fmul p (fadd p sum x) beta = V at *
          generalize fadd p sum x = A at *
          go_wp2
          first | refine region_quiet1 (by kernel_rfl) ?_ | refine region_quiet (by kernel_rfl) ?_
          repeat (go_big_quiet_step (first | (go_at_call 51; with_reducible exact quiet (ca.out _)) | (go_at_call 66; with_reducible exact quiet (cm.out _))))
          refine wpQuiet_nil ?_
          intro _
          go_wp2
          go_roundw
          case rel => exact ⟨t', V, rfl, rfl, by omega, Below.next hB3.out (by repeat (first | exact Below.refl _ _ | refine Below.later ?_ _ | refine Below.box ?_ _ | refine Below.drew ?_ | refine Below.put ?_ (by dsimp only; omega) _)), hU2, hI2⟩
          case measure => first | (simp [intOf]; omega) | (simp [intOf]; done)
    · have hQ2 : Kept (quadB p beta gs b = true) := ⟨by rw [hQ.out, List.drop_eq_nil_of_le (by simp; omega)]; rfl⟩
      clear hQ
      go_wp2
      go_ret
      exact ⟨by rw [hQ2.out]; rfl, Below.next hW.out hB⟩
end Go.Proofs.Ytkpkgjniicnkcaa

/- soundness.differences: whatever there is. -/
namespace Go.Proofs.Ytkpkgjniicnkcaa
open Go.RowKit Go.Sort

def gaps (p : Int) (ls : List (List Int)) (p0 P b : Nat) : List (List Int) := (List.range P).map (gapL p ls p0 P b)
theorem gaps_len (p : Int) (ls : List (List Int)) (p0 P b : Nat) : (gaps p ls p0 P b).length = P := by simp [gaps]
theorem gaps_rows (p : Int) (ls : List (List Int)) (p0 P b : Nat) : ∀ l ∈ gaps p ls p0 P b, l.length = b := by
  intro l hl
  simp only [gaps, List.mem_map] at hl
  obtain ⟨j, _, rfl⟩ := hl
  exact gapL_len _ _ _ _ _ _
theorem gapL_U (p : Int) (ls : List (List Int)) (p0 P b j : Nat) : ∀ x ∈ gapL p ls p0 P b j, U x := by
  intro x hx
  simp only [gapL, List.mem_map] at hx
  obtain ⟨k, _, rfl⟩ := hx
  exact fsub_U
theorem Gap.mt {W w : World} {G P b : Nat} {p : Int} {ls : List (List Int)} {p0 : Nat} {h : Nat → Nat} (hg : Gap W w G P b (gapL p ls p0 P b) P h) (hP : P ≤ 70000) (hb : b ≤ 256) : Mt w (some ⟨G, 0, none⟩) (gaps p ls p0 P b) := by
  refine ⟨by rw [gaps_len]; omega, fun _ => ⟨G, 0, rfl, hg.row.lt, fun i l hl => ?_⟩⟩
  have hi : i < P := by
    have := (List.getElem?_eq_some_iff.1 hl).1
    rw [gaps_len] at this; exact this
  have hl2 : l = gapL p ls p0 P b i := by
    simp only [gaps, List.getElem?_map, List.getElem?_range hi, Option.map_some, Option.some.injEq] at hl
    exact hl.symm
  subst hl2
  have hc := hg.row.cell hi
  rw [if_pos hi] at hc
  refine ⟨some ⟨h i, 0, none⟩, b, by rw [Nat.zero_add, gapL_len]; exact hc, ?_⟩
  exact Ls.row (hg.own i hi).2 (by rw [gapL_len]; exact Nat.le_refl _) (by rw [gapL_len]; omega) (gapL_U _ _ _ _ _ _)

def GivesGaps (P : Nat) (gs : List (List Int)) (w : World) (e : Ending) (w' : World) : Prop := ∃ G, e = .returned (.slice (some ⟨G, 0, none⟩) P P) ∧ Below w.heap.size w w' ∧ Mt w' (some ⟨G, 0, none⟩) gs
theorem dif_c (b p0 P : Nat) (p q k n s r : Int) (u : Option Addr) (c : Nat) (ls : List (List Int)) (w : World) (hb : 1 ≤ b ∧ b ≤ 256) (hp0 : p0 ≤ 70000) (hP : P ≤ 70000) (hu : (u = none ∧ c = 0) ∨ ∃ mb mo, u = some ⟨mb, mo, none⟩) (h1 : Mt w u ls) (hlen : ls.length = p0 + P + P + P) (hc : ls.length ≤ c) (hfull : ∀ l ∈ ls, l.length = b) :
    Calls Try.prog 37 #[.agg #[.int .u64 p, .int .i64 (b : Int), .int .i64 q, .int .i64 k, .int .i64 n, .int .i64 s, .int .i64 r, .int .i64 (p0 : Nat), .int .i64 (P : Nat), .int .i64 (P : Nat), .int .i64 (P : Nat)], .slice u ls.length c] w (GivesGaps P (gaps p ls p0 P b) w) := by
  rcases Nat.eq_zero_or_pos P with h | h
  · subst h
    refine (dif_none_c b p0 p q k n s r u c ls w hp0 hu h1 (by omega) hc hfull).mono fun e w' ⟨G, he, hB⟩ => ⟨G, he, hB, ?_⟩
    exact ⟨by rw [gaps_len]; omega, fun hne => absurd rfl hne⟩
  · rcases hu with ⟨rfl, rfl⟩ | ⟨mb, mo, rfl⟩
    · omega
    · exact (dif_some_c b p0 P p q k n s r mb mo c ls w hb hp0 hP h h1 hlen hc hfull).mono fun e w' ⟨G, hh, he, hg⟩ => ⟨G, he, hg.below, hg.mt hP hb.2⟩
end Go.Proofs.Ytkpkgjniicnkcaa

/- soundness.QuadPasses. -/
namespace Go.Proofs.Ytkpkgjniicnkcaa
open Go.RowKit Go.Sort

def quadN (p : Int) (gs : List (List Int)) (b n : Nat) : Nat := ((List.range n).filter fun beta : Nat => quadB p (beta : Int) gs b).length
theorem quadN_next (p : Int) (gs : List (List Int)) (b n : Nat) : quadN p gs b (n + 1) = quadN p gs b n + if quadB p (n : Int) gs b = true then 1 else 0 := by
  unfold quadN
  rw [List.range_succ, List.filter_append, List.length_append]
  by_cases h : quadB p (n : Int) gs b = true <;> simp [h]
theorem quadN_le (p : Int) (gs : List (List Int)) (b n : Nat) : quadN p gs b n ≤ n := by
  unfold quadN
  exact Nat.le_trans (List.length_filter_le _ _) (by simp)

set_option maxRecDepth 100000 in
set_option maxHeartbeats 4000000 in
theorem quadPasses_c (b p0 P pn : Nat) (q k n s r : Int) (u : Option Addr) (c : Nat) (ls : List (List Int)) (w : World) (hpn : pn ≤ 257) (hb : 1 ≤ b ∧ b ≤ 256) (hp0 : p0 ≤ 70000) (hP : P ≤ 70000) (hu : (u = none ∧ c = 0) ∨ ∃ mb mo, u = some ⟨mb, mo, none⟩) (h1 : Mt w u ls) (hlen : ls.length = p0 + P + P + P) (hc : ls.length ≤ c) (hfull : ∀ l ∈ ls, l.length = b) :
    Calls Try.prog 22 #[.agg #[.int .u64 (pn : Int), .int .i64 (b : Int), .int .i64 q, .int .i64 k, .int .i64 n, .int .i64 s, .int .i64 r, .int .i64 (p0 : Nat), .int .i64 (P : Nat), .int .i64 (P : Nat), .int .i64 (P : Nat)], .slice u ls.length c] w
      (Gives (.tuple #[.int .i64 (quadN (pn : Int) (gaps (pn : Int) ls p0 P b) b pn : Nat), .int .i64 0]) w) := by
  have cd : Kept (Calls Try.prog 37 #[.agg #[.int .u64 (pn : Int), .int .i64 (b : Int), .int .i64 q, .int .i64 k, .int .i64 n, .int .i64 s, .int .i64 r, .int .i64 (p0 : Nat), .int .i64 (P : Nat), .int .i64 (P : Nat), .int .i64 (P : Nat)], .slice u ls.length c]
      (w.alloc (.cells #[.int .u64 (pn : Int), .int .i64 (b : Int), .int .i64 q, .int .i64 k, .int .i64 n, .int .i64 s, .int .i64 r, .int .i64 (p0 : Nat), .int .i64 (P : Nat), .int .i64 (P : Nat), .int .i64 (P : Nat)] 46))
      (GivesGaps P (gaps (pn : Int) ls p0 P b) (w.alloc (.cells #[.int .u64 (pn : Int), .int .i64 (b : Int), .int .i64 q, .int .i64 k, .int .i64 n, .int .i64 s, .int .i64 r, .int .i64 (p0 : Nat), .int .i64 (P : Nat), .int .i64 (P : Nat), .int .i64 (P : Nat)] 46)))) :=
    ⟨dif_c b p0 P (pn : Int) q k n s r u c ls _ hb hp0 hP hu (h1.below (Nat.le_refl _) ((Below.refl _ w).alloc (Nat.le_refl _) _)) hlen hc hfull⟩
  have hgl : Kept ((gaps (pn : Int) ls p0 P b).length = P) := ⟨gaps_len _ _ _ _ _⟩
  have hgr : Kept (∀ l ∈ gaps (pn : Int) ls p0 P b, l.length = b) := ⟨gaps_rows _ _ _ _ _⟩
  clear h1 hlen hc hfull hu
  generalize gaps (pn : Int) ls p0 P b = gs at *
  generalize ls.length = m at *
  have hp2 : decide ((pn : Int) > 257) = false := by simp; omega
  go_enter Try.func22, Try.ntmps22
  go_wp2_with (first | (go_at_call 37; refine cd.out.mono ?_; rintro e w4 ⟨G, rfl, hB4, hM4⟩; obtain ⟨q4, rfl⟩ := after_of hB4; have hM4 : Kept _ := ⟨hM4⟩; clear hB4 cd))
  go_loopw [6, 17] (fun vn vb wr => ∃ (t : Nat) (q2 : Regrown), vn = .int .i64 (quadN (pn : Int) gs b t : Nat) ∧ vb = .int .u64 (t : Int) ∧ t ≤ pn ∧ wr = after (w.alloc (.cells #[.int .u64 (pn : Int), .int .i64 (b : Int), .int .i64 q, .int .i64 k, .int .i64 n, .int .i64 s, .int .i64 r, .int .i64 (p0 : Nat), .int .i64 (P : Nat), .int .i64 (P : Nat), .int .i64 (P : Nat)] 46)) q2 ∧ Kept (Mt wr (some ⟨G, 0, none⟩) gs)) (fun _ vb _ => ((pn : Int) - intOf vb).toNat)
  case atStart => exact ⟨0, q4, rfl, rfl, by omega, rfl, hM4⟩
  case round =>
    clear hM4
    obtain ⟨t, q2, rfl, rfl, ht, rfl, hM⟩ := hrel
    by_cases htp : t < pn
    · have hle := quadN_le (pn : Int) gs b t
      have cq : Kept (Calls Try.prog 38 #[.agg #[.int .u64 (pn : Int), .int .i64 (b : Int), .int .i64 q, .int .i64 k, .int .i64 n, .int .i64 s, .int .i64 r, .int .i64 (p0 : Nat), .int .i64 (P : Nat), .int .i64 (P : Nat), .int .i64 (P : Nat)], .slice (some ⟨G, 0, none⟩) P P, .int .u64 (t : Int)]
          (after (w.alloc (.cells #[.int .u64 (pn : Int), .int .i64 (b : Int), .int .i64 q, .int .i64 k, .int .i64 n, .int .i64 s, .int .i64 r, .int .i64 (p0 : Nat), .int .i64 (P : Nat), .int .i64 (P : Nat), .int .i64 (P : Nat)] 46)) q2)
          (Gives (.bool (quadB (pn : Int) (t : Int) gs b)) (after (w.alloc (.cells #[.int .u64 (pn : Int), .int .i64 (b : Int), .int .i64 q, .int .i64 k, .int .i64 n, .int .i64 s, .int .i64 r, .int .i64 (p0 : Nat), .int .i64 (P : Nat), .int .i64 (P : Nat), .int .i64 (P : Nat)] 46)) q2))) := ⟨by
        have := quadPass_c b (pn : Int) q k n s r p0 P P P (t : Int) (some ⟨G, 0, none⟩) P gs _ hb.2 hM.out hgr.out (by rw [hgl.out]; omega) ⟨by omega, by omega⟩
        rw [hgl.out] at this; exact this⟩
      have hMq : Kept (∀ w', Below (after (w.alloc (.cells #[.int .u64 (pn : Int), .int .i64 (b : Int), .int .i64 q, .int .i64 k, .int .i64 n, .int .i64 s, .int .i64 r, .int .i64 (p0 : Nat), .int .i64 (P : Nat), .int .i64 (P : Nat), .int .i64 (P : Nat)] 46)) q2).heap.size (after (w.alloc (.cells #[.int .u64 (pn : Int), .int .i64 (b : Int), .int .i64 q, .int .i64 k, .int .i64 n, .int .i64 s, .int .i64 r, .int .i64 (p0 : Nat), .int .i64 (P : Nat), .int .i64 (P : Nat), .int .i64 (P : Nat)] 46)) q2) w' → Mt w' (some ⟨G, 0, none⟩) gs) := ⟨fun w' h => hM.out.below (Nat.le_refl _) h⟩
      have hnext := quadN_next (pn : Int) gs b t
      cases hq : quadB (pn : Int) (t : Int) gs b
      · rw [hq] at cq
        rw [hq, if_neg (by simp)] at hnext
        have hnext : Kept _ := ⟨hnext⟩
        clear hM hq
        go_wp2_with (first | (go_at_call 38; refine cq.out.mono ?_; rintro e w5 ⟨rfl, hB5⟩; have hM5 := hMq.out _ hB5; have hM5 : Kept _ := ⟨hM5⟩; have hB6 : Below (w.alloc (.cells #[.int .u64 (pn : Int), .int .i64 (b : Int), .int .i64 q, .int .i64 k, .int .i64 n, .int .i64 s, .int .i64 r, .int .i64 (p0 : Nat), .int .i64 (P : Nat), .int .i64 (P : Nat), .int .i64 (P : Nat)] 46)).heap.size _ _ := Below.next (after_below _ q2) hB5; obtain ⟨q6, rfl⟩ := after_of hB6; clear hB5 hB6 hMq cq))
        go_roundw
        case rel => exact ⟨t + 1, q6, by rw [hnext.out, Nat.add_zero], by go_num, by omega, rfl, hM5⟩
        case measure => first | (simp [intOf]; omega) | (simp [intOf]; done)
      · rw [hq] at cq
        rw [hq, if_pos rfl] at hnext
        have hnext : Kept _ := ⟨hnext⟩
        clear hM hq
        go_wp2_with (first | (go_at_call 38; refine cq.out.mono ?_; rintro e w5 ⟨rfl, hB5⟩; have hM5 := hMq.out _ hB5; have hM5 : Kept _ := ⟨hM5⟩; have hB6 : Below (w.alloc (.cells #[.int .u64 (pn : Int), .int .i64 (b : Int), .int .i64 q, .int .i64 k, .int .i64 n, .int .i64 s, .int .i64 r, .int .i64 (p0 : Nat), .int .i64 (P : Nat), .int .i64 (P : Nat), .int .i64 (P : Nat)] 46)).heap.size _ _ := Below.next (after_below _ q2) hB5; obtain ⟨q6, rfl⟩ := after_of hB6; clear hB5 hB6 hMq cq))
        go_roundw
        case rel => exact ⟨t + 1, q6, by rw [hnext.out]; simp, by go_num, by omega, rfl, hM5⟩
        case measure => first | (simp [intOf]; omega) | (simp [intOf]; done)
    · have htt : t = pn := by omega
      subst htt
      clear hM
      go_wp2
      go_ret2
      exact ⟨rfl, (by repeat (first | exact Below.refl _ _ | refine Below.later ?_ _ | refine Below.box ?_ _ | refine Below.drew ?_ | refine Below.put ?_ (by dsimp only; omega) _))⟩
end Go.Proofs.Ytkpkgjniicnkcaa

/- The reference's Element: the i-th number of a vector, out of the rows. -/
namespace Go.Proofs.Ytkpkgjniicnkcaa
open Go.RowKit Go.Sort

/-- The rows ahead of a vector. -/
def ahead (p0 p1 p2 : Nat) (v : Nat) : Nat := if v = 0 then 0 else if v = 1 then p0 else if v = 2 then p0 + p1 else p0 + p1 + p2
def eleV (ls : List (List Int)) (b p0 p1 p2 v i : Nat) : Int := (ls.getD (ahead p0 p1 p2 v + i / b) []).getD (i % b) 0

set_option maxRecDepth 100000 in
set_option maxHeartbeats 4000000 in
theorem element_c (b p0 p1 p2 p3 v i : Nat) (p q k n s r : Int) (u : Option Addr) (c : Nat) (ls : List (List Int)) (w : World) (hb : 1 ≤ b ∧ b ≤ 256) (h0 : p0 ≤ 70000) (h1 : p1 ≤ 70000) (h2 : p2 ≤ 70000) (hv : v ≤ 3) (hi : i ≤ 20000000)
    (hm : Mt w u ls) (hl : ∀ l ∈ ls, l.length = b) (hin : ahead p0 p1 p2 v + i / b < ls.length) (hsm : ls.length ≤ 1000000) :
    Calls Try.prog 41 #[.agg #[.int .u64 p, .int .i64 (b : Int), .int .i64 q, .int .i64 k, .int .i64 n, .int .i64 s, .int .i64 r, .int .i64 (p0 : Nat), .int .i64 (p1 : Nat), .int .i64 (p2 : Nat), .int .i64 (p3 : Nat)], .slice u ls.length c, .int .i64 (v : Int), .int .i64 (i : Int)] w (Gives (.int .u64 (eleV ls b p0 p1 p2 v i)) w) := by
  obtain ⟨m, hmm⟩ : ∃ m, ls.length = m := ⟨_, rfl⟩
  obtain ⟨a, ha⟩ : ∃ a, ahead p0 p1 p2 v = a := ⟨_, rfl⟩
  obtain ⟨d, hd⟩ : ∃ d, i / b = d := ⟨_, rfl⟩
  obtain ⟨e, he⟩ : ∃ e, i % b = e := ⟨_, rfl⟩
  have heb : e < b := by rw [← he]; exact Nat.mod_lt _ (by omega)
  rw [hmm, ha, hd] at hin
  obtain ⟨mb, mo, l, vv, cl, rfl, hlx, hmb, hmc, hL⟩ := hm.get hmm (a + d) hin
  have hll := hl l (List.mem_of_getElem? hlx)
  rw [hll] at hmc
  obtain ⟨xb, xo, x, rfl, hx, hxb, hxc, hxU⟩ := hL.at_ (k := e) (by omega)
  have hV : Kept (eleV ls b p0 p1 p2 v i = x) := ⟨by simp only [eleV, ha, hd, he, List.getD, hlx, Option.getD_some, hx]⟩
  have hdI : (i : Int).tdiv (b : Int) = (d : Int) := by rw [Int.tdiv_eq_ediv_of_nonneg (by omega), ← hd]; simp
  have hdI2 : (i : Int) / (b : Int) = (d : Int) := by rw [← hd]; simp
  have heI : (i : Int).tmod (b : Int) = (e : Int) := by rw [Int.tmod_eq_emod_of_nonneg (by omega), ← he]; simp
  have heI2 : (i : Int) % (b : Int) = (e : Int) := by rw [← he]; simp
  have hb0 : ¬ (b : Int) = 0 := by omega
  have hb00 : ((b : Int) == 0) = false := by simp; omega
  have hs1 : m ≤ 1000000 := by omega
  have hk1 : Kept (ahead p0 p1 p2 v = a) := ⟨ha⟩
  have hin2 : (a : Int) + (d : Int) < (m : Int) := by omega
  have hl1 : mb < w.heap.size + 1 := by omega
  have hl2 : xb < w.heap.size + 1 := by omega
  rw [hmm]
  clear hm hl hL hlx hx hll hd he ha hmm
  go_enter Try.func41, Try.ntmps41
  go_wp2
  go_loopw [9, 10] (fun vf vk wr => ∃ (t f : Nat) (q0 : Regrown), vf = .int .i64 (f : Int) ∧ vk = .int .i64 (t : Int) ∧ t ≤ v ∧ f ≤ 300000 ∧ Kept (f = ahead p0 p1 p2 t) ∧ wr = after (w.alloc (.cells #[.int .u64 p, .int .i64 (b : Int), .int .i64 q, .int .i64 k, .int .i64 n, .int .i64 s, .int .i64 r, .int .i64 (p0 : Nat), .int .i64 (p1 : Nat), .int .i64 (p2 : Nat), .int .i64 (p3 : Nat)] 41)) q0) (fun _ vk _ => ((v : Int) - intOf vk).toNat)
  case atStart => exact ⟨0, 0, ⟨_, #[]⟩, rfl, rfl, by omega, by omega, ⟨rfl⟩, by simp [after_eq, Go.Sort.grow_empty]; rfl⟩
  case round =>
    obtain ⟨t, f, q0, rfl, rfl, ht, hf, hF, rfl⟩ := hrel
    by_cases htv : t < v
    · rcases (show t = 0 ∨ t = 1 ∨ t = 2 from by omega) with h | h | h
      · subst h
        obtain rfl : f = 0 := hF.out
        have hF2 : Kept (p0 = ahead p0 p1 p2 1) := ⟨rfl⟩
        clear hF
        go_wp2
        go_roundw
        case rel => exact ⟨1, p0, q0, by simp, by simp, by omega, by omega, hF2, rfl⟩
        case measure => first | (simp [intOf]; omega) | (simp [intOf]; done)
      · subst h
        have hF1 : f = p0 := hF.out
        subst hF1
        have hF2 : Kept (f + p1 = ahead f p1 p2 2) := ⟨rfl⟩
        clear hF
        go_wp2
        go_roundw
        case rel => exact ⟨2, f + p1, q0, by simp, by simp, by omega, by omega, hF2, rfl⟩
        case measure => first | (simp [intOf]; omega) | (simp [intOf]; done)
      · subst h
        have hF1 : Kept (f = p0 + p1) := ⟨hF.out⟩
        have hF2 : Kept (f + p2 = ahead p0 p1 p2 3) := ⟨by rw [hF1.out]; rfl⟩
        have hf2 : f ≤ 140000 := by have := hF1.out; omega
        clear hF
        go_wp2
        go_roundw
        case rel => exact ⟨3, f + p2, q0, by simp, by simp, by omega, by omega, hF2, rfl⟩
        case measure => first | (simp [intOf]; omega) | (simp [intOf]; done)
    · have htt : t = v := by omega
      have hfa : f = a := by rw [hF.out, htt, hk1.out]
      subst hfa htt
      clear hF hk1
      go_wp2
      first | refine region_quiet1 (by kernel_rfl) ?_ | refine region_quiet (by kernel_rfl) ?_
      repeat (go_big_quiet_step (first | fail))
      refine wpQuiet_nil ?_
      intro _
      go_wp2
      go_ret
      exact ⟨by rw [hV.out]; rfl, (by repeat (first | exact Below.refl _ _ | refine Below.later ?_ _ | refine Below.box ?_ _ | refine Below.drew ?_ | refine Below.put ?_ (by dsimp only; omega) _))⟩
end Go.Proofs.Ytkpkgjniicnkcaa

/- The plain law of the quadratic test: the sum of powers is Horner's. -/
namespace Go.Proofs.Ytkpkgjniicnkcaa

def hx (beta : Int) (k : Nat) : List (List Int) → Int
  | [] => 0
  | g :: gs => g.getD k 0 + beta * hx beta k gs
/-- As the reference reckons it: the first row first. -/
def refF (p beta : Int) (k : Nat) : List (List Int) → Int → Int → Int
  | [], s, _ => s
  | g :: gs, s, pw => refF p beta k gs (fadd p s (fmul p pw (g.getD k 0))) (fmul p pw beta)
theorem hor_eq {p : Int} (hv : vld p = true) (beta : Int) (k : Nat) : ∀ gs, hor p beta gs k = (beta * hx beta k gs) % p
  | [] => by simp [hor, hx]
  | g :: gs => by
    have ih := hor_eq hv beta k gs
    have e : hor p beta (g :: gs) k = fmul p (fadd p (hor p beta gs k) (g.getD k 0)) beta := rfl
    rw [e, ih, fmul, if_pos hv, fadd, if_pos hv, hx]
    rw [Int.emod_add_emod, Int.mul_emod, Int.emod_emod, ← Int.mul_emod]
    congr 1
    rw [Int.mul_comm beta, Int.add_comm, Int.mul_comm beta]
theorem refF_eq {p : Int} (hv : vld p = true) (beta : Int) (k : Nat) : ∀ (gs : List (List Int)) (s pw : Int), s % p = s → refF p beta k gs s pw = (s + pw * hx beta k gs) % p
  | [], s, pw, h => by simp [refF, hx, h]
  | g :: gs, s, pw, h => by
    rw [refF, refF_eq hv beta k gs _ _ (by rw [fadd, if_pos hv, Int.emod_emod]), fadd, if_pos hv, fmul, if_pos hv, fmul, if_pos hv, hx]
    rw [Int.add_emod_emod, Int.emod_add_emod]
    rw [Int.add_emod, Int.mul_emod, Int.emod_emod, ← Int.mul_emod, ← Int.add_emod]
    congr 1
    rw [Int.mul_add, Int.mul_assoc, Int.add_assoc]
/-- The test's two readings agree. -/
theorem ref_hor {p : Int} (hv : vld p = true) (beta : Int) (gs : List (List Int)) (k : Nat) : refF p beta k gs 0 beta = hor p beta gs k := by
  rw [refF_eq hv beta k gs 0 beta (by simp), hor_eq hv, Int.zero_add]
end Go.Proofs.Ytkpkgjniicnkcaa
