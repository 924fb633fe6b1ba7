/- moidoreref05.eliminate, the first part: the copy of the matrix, reduced. -/
import Derived.Test.YtjnlnbkdnjainaaQG
import Derived.Test.YtjnlnbkdnjainaaHRed
import Derived.Test.YtjnlnbkdnjainaaHLinA
namespace Go.Proofs.Ytjnlnbkdnjainaa
open Go.RowKit Go.Sort

set_option maxRecDepth 100000
def GivesRf (n m : Nat) (s : Es) (w : World) (e : Ending) (w' : World) : Prop := ∃ B C bf cf u c, e = .returned (.tuple #[.slice (some ⟨B, 0, none⟩) n C, .slice u s.piv.length c]) ∧ Mx w w' B n m bf cf s.f ∧ w'.ownsRow w.heap.size 3 1 (.slice u s.piv.length c) s.piv.length (intsV s.piv)
set_option maxHeartbeats 16000000 in
theorem relim_c (p : Int) (n m : Nat) (u : Option Addr) (c : Nat) (ls : List (List Int)) (w : World) (hv : vld p = true) (h1 : Mt w u ls) (hn : ls.length = n) (hn6 : n ≤ 64) (hm6 : m ≤ 200) (hm : colsN ls = m) (hrow : ∀ l ∈ ls, l.length = m) :
    Calls Try.prog 73 #[.int .u64 p, .slice u n c] w (GivesRf n m (elR p n m (elF p ls)) w) := by
  have hp := vld_pos hv
  have hp0 : p ≠ 0 := by omega
  have hp1 : (p == 0) = false := by simp; omega
  have k1 := (⟨h1.get hn⟩ : Kept _)
  have krow : Kept (∀ l ∈ ls, l.length = m) := ⟨hrow⟩
  have cc : Kept (∀ w', Below w.heap.size w w' → Calls Try.prog 39 #[.slice u n c] w' (Gives (.int .i64 (m : Int)) w')) := ⟨fun w' hw => by have := rcolumns_c u c ls w' (h1.below (Nat.le_refl _) hw); rw [hn, hm] at this; exact this⟩
  have kok : Kept (∀ c, EsOk p n m c (elR p n c (elF p ls))) := ⟨elR_ok hv (fun i j _ _ => ⟨Int.emod_nonneg _ (by omega), Int.emod_lt_of_pos _ (by omega)⟩)⟩
  clear h1 hn hrow hm
  go_enter Try.func73, Try.ntmps73
  go_wp2
  have hR0 : Kept (Rbl w (w.alloc (.cells #[] 32)) (.slice (some ⟨w.heap.size, 0, none⟩) 0 0) 0 m (fun _ => 0) (fun _ => 0) (elF p ls)) := ⟨Rbl.empty w m _ _ _⟩
  generalize w.alloc (.cells #[] 32) = w0 at hR0 ⊢
  go_loopw [6, 7] (fun vo v wr => ∃ (i : Nat) (bf cf : Nat → Nat), v = .int .i64 (i : Int) ∧ i ≤ n ∧ Kept (Rbl w wr vo i m bf cf (elF p ls))) (fun _ v _ => ((n : Int) - intOf v).toNat)
  case atStart => exact ⟨0, _, _, rfl, by omega, hR0⟩
  case round =>
    clear hR0
    obtain ⟨i, bf, cf, rfl, hi, hR⟩ := hrel
    obtain ⟨w1, rfl⟩ : ∃ x, x = wr := ⟨wr, rfl⟩
    by_cases h : i < n
    · obtain ⟨b1, o1, l, v1, d1, rfl, hx1, hb1, hc1, hL1⟩ := k1.out i h
      have hlm := krow.out l (List.mem_of_getElem? hx1)
      rw [hlm] at hc1
      have kl := (⟨hL1.get hlm⟩ : Kept _)
      have kx := (⟨hx1⟩ : Kept _)
      have kc1 := (⟨hc1⟩ : Kept _)
      clear hc1 hx1 hL1 hlm
      go_wp2
      go_loopw [8, 9] (fun vr v wr => ∃ (j : Nat), v = .int .i64 (j : Int) ∧ j ≤ m ∧ Kept (Grown 22 w1 wr vr j ((List.range j).map fun j => Value.int .u64 (elF p ls i j))) ∧ Kept (∃ b, vr.ownBlock = some b)) (fun _ v _ => ((m : Int) - intOf v).toNat)
      case atStart => exact ⟨0, rfl, by omega, ⟨Grown.empty 22 w1⟩, ⟨_, rfl⟩⟩
      case round =>
        obtain ⟨j, rfl, hj, hG, hso⟩ := hrel
        obtain ⟨w2, rfl⟩ : ∃ x, x = wr := ⟨wr, rfl⟩
        have hB2 := Below.next hR.out.below hG.out.below
        have hc2 : w2.cell? ⟨b1, o1 + i, none⟩ = some (.slice v1 m d1) := by rw [hB2.cell (p := ⟨b1, o1 + i, none⟩) hb1]; exact kc1.out
        have hl2 : b1 < w2.heap.size := by have := hB2.size; omega
        have kB2 := (⟨hB2⟩ : Kept _)
        clear hB2
        by_cases h5 : j < m
        · obtain ⟨b2, o2, x, rfl, hxx, hb2, hcx, hUx⟩ := kl.out j h5
          have hcx' : w2.cell? ⟨b2, o2 + j, none⟩ = some (.int .u64 x) := by rw [kB2.out.cell (p := ⟨b2, o2 + j, none⟩) hb2]; exact hcx
          have hb2' : b2 < w2.heap.size := by have := kB2.out.size; omega
          obtain ⟨y, hy⟩ : ∃ y, x % p = y := ⟨_, rfl⟩
          have hyt : x.tmod p = y := by rw [Int.tmod_eq_emod_of_nonneg hUx.1]; exact hy
          have hE : Kept (((List.range (j + 1)).map fun j => Value.int .u64 (elF p ls i j)) = ((List.range j).map fun j => Value.int .u64 (elF p ls i j)) ++ [.int .u64 y]) := ⟨by
            rw [List.range_succ, List.map_append]
            congr 1
            have : elF p ls i j = y := by
              unfold elF
              rw [show ls.getD i [] = l from by rw [List.getD, kx.out]; rfl, show l.getD j 0 = x from by rw [List.getD, hxx]; rfl, hy]
            simp [this]⟩
          clear hcx hxx hb2 hR kl
          go_wp2_with (first | (at_builtin; refine wpList_push (W := w1) 32 22 (.int .u64 0) 8 Try.underlying32 (by kernel_rfl) rfl (by decide) rfl _ _ rfl _ _ _ (hG.out.box _) rfl (.int .u64 y) rfl _ rfl (by simp) (by omega) ?_; intro v2 w3 hG2; refine Stop.out ?_))
          refine ⟨?_⟩
          have hG3 : Kept (Grown 22 w1 w3 v2 (j + 1) ((List.range (j + 1)).map fun j => Value.int .u64 (elF p ls i j))) := ⟨by rw [hE.out]; exact hG2⟩
          have hso2 : Kept (∃ b, v2.ownBlock = some b) := ⟨by
            rcases hG2.own.2 with ⟨e, h0⟩ | ⟨g, cap, cur, e, _⟩
            · omega
            · exact ⟨g, by rw [e]; rfl⟩⟩
          clear hG2 hG hso
          go_wp2
          go_roundw
          case rel => exact ⟨j + 1, by go_num, by omega, hG3, hso2⟩
          case measure => first | (simp [intOf]; omega) | (simp [intOf]; done)
        · have hjm : j = m := by omega
          subst hjm
          obtain ⟨rb, cap, rfl, hrb, hpf, hcp⟩ := grown_pfx hG.out hso.out
          have kpf := (⟨hpf⟩ : Kept _)
          have kR2 : Kept (Rbl w w2 u6 i j bf cf (elF p ls)) := ⟨hR.out.keep hG.out.below⟩
          have hap : Kept (u6.ownBlock ≠ some rb ∧ ∀ k, k < i → bf k ≠ rb) := ⟨⟨fun e => by have := (hR.out.own.lt _ e).2; omega, fun k hk e => by have := (hR.out.row k hk).lt; omega⟩⟩
          have hrw : w.heap.size ≤ rb := by have := hR.out.below.size; omega
          clear hR hG hso hpf kl kB2
          go_wp2_with (first | (at_builtin; refine wpList_pushR rfl _ _ rfl _ (kR2.out.keep (by repeat (first | exact Below.refl _ _ | refine Below.later ?_ _ | refine Below.box ?_ _ | refine Below.drew ?_ | refine Below.put ?_ (by dsimp only; omega) _))) rfl _ rfl rb cap (by first | simp | (rw [World.cell?_alloc_new]; rfl)) (fun k => elF p ls i k) (kpf.out.of_block (Go.Deep.blk_alloc_lt _ _ _ kpf.out.lt)) hcp hrw hap.out.1 hap.out.2 (by omega) ?_; intro v5 w5 hR5; refine Stop.out ?_))
          refine ⟨?_⟩
          have kR5 : Kept (Rbl w w5 v5 (i + 1) j _ _ (elF p ls)) := ⟨hR5.congr fun a b _ _ => by by_cases e : a = i <;> simp [e]⟩
          clear hR5 kR2
          go_wp2
          go_roundw
          case rel => exact ⟨i + 1, _, _, by go_num, by omega, kR5⟩
          case measure => first | (simp [intOf]; omega) | (simp [intOf]; done)
    · have hin : i = n := by omega
      have hRn : Kept (Rbl w w1 u6 n m bf cf (elF p ls)) := ⟨by rw [← hin]; exact hR.out⟩
      clear hR hin
      obtain ⟨B, C, rfl, hMx⟩ := hRn.out.done
      have hE0 : Kept (Elb w (w1.alloc (.cells #[] 3)) w1.heap.size B n m p bf cf (elF p ls) (.slice (some ⟨w1.heap.size, 0, none⟩) 0 0) []) := ⟨⟨hMx.keep ((Below.refl _ w1).alloc (Nat.le_refl _) _), hMx.arr.lt, fun k hk => (hMx.row k hk).lt, (Grown.empty 3 w1).own, by simp⟩⟩
      have kwX : Kept (w.heap.size ≤ w1.heap.size) := ⟨hMx.below.size⟩
      clear hRn hMx k1 krow hi
      go_wp2
      obtain ⟨X, hX⟩ : ∃ X, w1.heap.size = X := ⟨_, rfl⟩
      rw [hX] at hE0 kwX ⊢
      generalize hw2 : w1.alloc (.cells #[] 3) = w2 at hE0 ⊢
      clear hw2 hX
      go_loopw [10, 11] (fun vp vc wr => ∃ (cl : Nat) (bf cf : Nat → Nat), vc = .int .i64 (cl : Int) ∧ cl ≤ m ∧ Kept (Elb w wr X B n m p bf cf (elR p n cl (elF p ls)).f vp (elR p n cl (elF p ls)).piv)) (fun _ vc _ => ((m : Int) - intOf vc).toNat)
      case atStart => exact ⟨0, bf, cf, rfl, by omega, hE0⟩
      case round =>
        clear hE0
        obtain ⟨cl, bf, cf, rfl, hc, hE⟩ := hrel
        obtain ⟨w1, rfl⟩ : ∃ x, x = wr := ⟨wr, rfl⟩
        have hok := (⟨kok.out cl⟩ : Kept _)
        have hnext := (⟨elR_next p n cl (elF p ls)⟩ : Kept _)
        obtain ⟨es, hes⟩ : ∃ es, elR p n cl (elF p ls) = es := ⟨_, rfl⟩
        have kes := (⟨hes⟩ : Kept _)
        rw [hes] at hE hok hnext
        clear hes
        obtain ⟨f, piv, fac⟩ := es
        obtain ⟨top, htop⟩ : ∃ top, piv.length = top := ⟨_, rfl⟩
        have htn : top ≤ n := by rw [← htop]; exact hok.out.len
        simp only at hE
        obtain ⟨vu, vc', rfl, _⟩ : ∃ u c', u10 = .slice u top c' ∧ True := by
          rcases hE.out.own.2 with ⟨e, h0⟩ | ⟨g, cap, cur, e, _⟩
          · exact ⟨none, 0, by rw [e, ← htop, h0], trivial⟩
          · exact ⟨_, cap, by rw [e, htop], trivial⟩
        have hbw := hE.out.mx.below
        go_wp2_with (first | (go_at_call 39; refine use (cc.out _ hbw) ?_; intro pwc; refine Stop.out ?_))
        refine ⟨?_⟩
        obtain ⟨w3, hw3⟩ : ∃ w3, w3 = after w1 pwc := ⟨_, rfl⟩
        have hE1 : Kept (Elb w w3 X B n m p bf cf f (.slice vu top vc') piv) := ⟨by rw [hw3]; exact hE.out.keep (by repeat (first | exact Below.refl _ _ | refine Below.later ?_ _ | refine Below.box ?_ _ | refine Below.drew ?_ | refine Below.put ?_ (by dsimp only; omega) _))⟩
        rw [← hw3]
        clear hw3 hE hbw
        by_cases h : cl < m
        · go_wp2
          go_loopw [13] (fun v wr => ∃ (k : Nat), v = .int .i64 (k : Int) ∧ wr = w3 ∧ top ≤ k ∧ k ≤ n ∧ Kept (fnd f cl (n - top) top = fnd f cl (n - k) k)) (fun v _ => ((n : Int) - intOf v).toNat)
          case atStart => exact ⟨top, rfl, by first | rfl | trivial, Nat.le_refl _, htn, ⟨rfl⟩⟩
          case round =>
            obtain ⟨k, rfl, rfl, hk1, hk2, hfd⟩ := hrel
            obtain ⟨w1, rfl⟩ : ∃ x, x = wr := ⟨wr, rfl⟩
            have hE := hE1
            clear hE1
            by_cases hkn : k < n
            · obtain ⟨hcB, hfB, hlB⟩ := hE.out.cells k hkn
              obtain ⟨hcE, hfE⟩ := hE.out.mx.elem hkn h
              have hBlt := hE.out.mx.arr.lt
              by_cases hz : f k cl = 0
              · have hfd2 : Kept (fnd f cl (n - top) top = fnd f cl (n - (k + 1)) (k + 1)) := ⟨by
                  rw [hfd.out, show n - k = (n - (k + 1)) + 1 by omega, fnd, if_pos hz]⟩
                rw [hz] at hcE
                clear hfd hE hok hnext hz
                go_wp2
                go_roundw
                case rel => exact ⟨k + 1, by go_num, by first | rfl | trivial, by omega, by omega, hfd2⟩
                case measure => first | (simp [intOf]; omega) | (simp [intOf]; done)
              · have hfk : Kept (fnd f cl (n - top) top = k) := ⟨by
                  rw [hfd.out, show n - k = (n - (k + 1)) + 1 by omega, fnd, if_neg hz]⟩
                have hzb : (f k cl == 0) = false := by simp [hz]
                have hkn' : ((k : Int) == (n : Int)) = false := by simp; omega
                clear hfd hz
                have kS : Kept (elR p n (cl + 1) (elF p ls) = ⟨clr p (swp f top k) top cl, piv ++ [cl], fmul p (if k = top then fac else fneg p fac) (swp f top k top cl)⟩) := ⟨by
                  rw [hnext.out]; unfold elS; simp only [htop, hfk.out]; rw [if_neg (by omega)]⟩
                have hf1p : Kept (∀ i j, i < n → j < m → 0 ≤ swp f top k i j ∧ swp f top k i j < p) := ⟨swp_ok hok.out.el (by omega) hkn⟩
                have ktop : Kept (piv.length = top) := ⟨htop⟩
                clear htop
                have htn' : top < n := by omega
                obtain ⟨hcT, hfT, hlT⟩ := hE.out.cells top htn'
                obtain ⟨bf2, cf2, hEs'⟩ : ∃ bf2 cf2, Elb w ((w1.setCell ⟨B, top, none⟩ (.slice (some ⟨bf k, 0, none⟩) m (cf k))).setCell ⟨B, k, none⟩ (.slice (some ⟨bf top, 0, none⟩) m (cf top))) X B n m p bf2 cf2 (swp f top k) (.slice vu top vc') piv := ⟨_, _, hE.out.swap htn' hkn⟩
                have hEs := (⟨hEs'⟩ : Kept _)
                have hck : (w1.setCell ⟨B, top, none⟩ (.slice (some ⟨bf k, 0, none⟩) m (cf k))).cell? ⟨B, k, none⟩ = some (.slice (some ⟨bf k, 0, none⟩) m (cf k)) := by
                  have := (hE.out.mx.arr.set top (.slice (some ⟨bf k, 0, none⟩) m (cf k))).cell hkn
                  rw [this]; (try dsimp only); split <;> rfl
                have hfk' := (hE.out.mx.arr.set top (.slice (some ⟨bf k, 0, none⟩) m (cf k))).frozen k
                clear hE hok hnext hfk hEs'
                go_wp2
                refine wp_region_noPanic ?_
                refine wp_region_held_drew (S := fun _ => True) (by kernel_rfl) trivial (fun hHeld => ?_)
                refine wpAnyH_take (i := 0) (oi := ?o0q1) (v := ?v0q1) ?hi0q1 (by kernel_rfl) (by kernel_rfl) (by kernel_rfl) (fun _ _ _ h => h) (Or.inl ⟨?hg0q1, ?hy0q1⟩) (by assumption) ?rest0q1
                case hi0q1 => rfl
                case hg0q1 => rfl
                case' hy0q1 =>
                  dsimp only [List.getElem?_toArray, List.getElem?_cons_succ, List.getElem?_cons_zero, List.getElem_cons_succ, List.getElem_cons_zero, List.getElem_toArray]
                  intro w hSw
                  try dsimp only at hSw
                  go_simp
                  try with_reducible rfl
                case' rest0q1 =>
                  dsimp only [List.getElem?_toArray, List.getElem?_cons_succ, List.getElem?_cons_zero, List.getElem_cons_succ, List.getElem_cons_zero, List.getElem_toArray]
                  try simp only [Act.put, List.setIfInBounds_toArray, List.set_cons_zero, List.set_cons_succ]
                refine wpAnyH_take (i := 1) (oi := ?o1q2) (v := ?v1q2) ?hi1q2 (by kernel_rfl) (by kernel_rfl) (by kernel_rfl) (fun _ _ _ h => h) (Or.inl ⟨?hg1q2, ?hy1q2⟩) (by assumption) ?rest1q2
                case hi1q2 => rfl
                case hg1q2 => rfl
                case' hy1q2 =>
                  dsimp only [List.getElem?_toArray, List.getElem?_cons_succ, List.getElem?_cons_zero, List.getElem_cons_succ, List.getElem_cons_zero, List.getElem_toArray]
                  intro w hSw
                  try dsimp only at hSw
                  go_simp
                  try with_reducible rfl
                case' rest1q2 =>
                  dsimp only [List.getElem?_toArray, List.getElem?_cons_succ, List.getElem?_cons_zero, List.getElem_cons_succ, List.getElem_cons_zero, List.getElem_toArray]
                  try simp only [Act.put, List.setIfInBounds_toArray, List.set_cons_zero, List.set_cons_succ]
                refine wpAnyH_take (i := 2) (oi := ?o2q3) (v := ?v2q3) ?hi2q3 (by kernel_rfl) (by kernel_rfl) (by kernel_rfl) (fun _ _ _ h => h) (Or.inl ⟨?hg2q3, ?hy2q3⟩) (by assumption) ?rest2q3
                case hi2q3 => rfl
                case hg2q3 => rfl
                case' hy2q3 =>
                  dsimp only [List.getElem?_toArray, List.getElem?_cons_succ, List.getElem?_cons_zero, List.getElem_cons_succ, List.getElem_cons_zero, List.getElem_toArray]
                  intro w hSw
                  try dsimp only at hSw
                  go_simp
                  try with_reducible rfl
                case' rest2q3 =>
                  dsimp only [List.getElem?_toArray, List.getElem?_cons_succ, List.getElem?_cons_zero, List.getElem_cons_succ, List.getElem_cons_zero, List.getElem_toArray]
                  try simp only [Act.put, List.setIfInBounds_toArray, List.set_cons_zero, List.set_cons_succ]
                refine wpAnyH_take (i := 3) (oi := ?o3q4) (v := ?v3q4) ?hi3q4 (by kernel_rfl) (by kernel_rfl) (by kernel_rfl) (fun _ _ _ h => h) (Or.inl ⟨?hg3q4, ?hy3q4⟩) (by assumption) ?rest3q4
                case hi3q4 => rfl
                case hg3q4 => rfl
                case' hy3q4 =>
                  dsimp only [List.getElem?_toArray, List.getElem?_cons_succ, List.getElem?_cons_zero, List.getElem_cons_succ, List.getElem_cons_zero, List.getElem_toArray]
                  intro w hSw
                  try dsimp only at hSw
                  go_simp
                  try with_reducible rfl
                case' rest3q4 =>
                  dsimp only [List.getElem?_toArray, List.getElem?_cons_succ, List.getElem?_cons_zero, List.getElem_cons_succ, List.getElem_cons_zero, List.getElem_toArray]
                  try simp only [Act.put, List.setIfInBounds_toArray, List.set_cons_zero, List.set_cons_succ]
                refine wpAnyH_take (i := 4) (oi := ?o4q5) (v := ?v4q5) ?hi4q5 (by kernel_rfl) (by kernel_rfl) (by kernel_rfl) (fun _ _ _ h => h) (Or.inl ⟨?hg4q5, ?hy4q5⟩) (by assumption) ?rest4q5
                case hi4q5 => rfl
                case hg4q5 => rfl
                case' hy4q5 =>
                  dsimp only [List.getElem?_toArray, List.getElem?_cons_succ, List.getElem?_cons_zero, List.getElem_cons_succ, List.getElem_cons_zero, List.getElem_toArray]
                  intro w hSw
                  try dsimp only at hSw
                  go_simp
                  try with_reducible rfl
                case' rest4q5 =>
                  dsimp only [List.getElem?_toArray, List.getElem?_cons_succ, List.getElem?_cons_zero, List.getElem_cons_succ, List.getElem_cons_zero, List.getElem_toArray]
                  try simp only [Act.put, List.setIfInBounds_toArray, List.set_cons_zero, List.set_cons_succ]
                refine wpAnyH_take (i := 5) (oi := ?o5q6) (v := ?v5q6) ?hi5q6 (by kernel_rfl) (by kernel_rfl) (by kernel_rfl) (fun _ _ _ h => h) (Or.inl ⟨?hg5q6, ?hy5q6⟩) (by assumption) ?rest5q6
                case hi5q6 => rfl
                case hg5q6 => rfl
                case' hy5q6 =>
                  dsimp only [List.getElem?_toArray, List.getElem?_cons_succ, List.getElem?_cons_zero, List.getElem_cons_succ, List.getElem_cons_zero, List.getElem_toArray]
                  intro w hSw
                  try dsimp only at hSw
                  go_simp
                  try with_reducible rfl
                case' rest5q6 =>
                  dsimp only [List.getElem?_toArray, List.getElem?_cons_succ, List.getElem?_cons_zero, List.getElem_cons_succ, List.getElem_cons_zero, List.getElem_toArray]
                  try simp only [Act.put, List.setIfInBounds_toArray, List.set_cons_zero, List.set_cons_succ]
                refine wpAnyH_take (i := 6) (oi := ?o6q7) (v := ?v6q7) ?hi6q7 (by kernel_rfl) (by kernel_rfl) (by kernel_rfl) (fun _ _ _ h => h) (Or.inl ⟨?hg6q7, ?hy6q7⟩) (by assumption) ?rest6q7
                case hi6q7 => rfl
                case hg6q7 => rfl
                case' hy6q7 =>
                  dsimp only [List.getElem?_toArray, List.getElem?_cons_succ, List.getElem?_cons_zero, List.getElem_cons_succ, List.getElem_cons_zero, List.getElem_toArray]
                  intro w hSw
                  try dsimp only at hSw
                  go_simp
                  try with_reducible rfl
                case' rest6q7 =>
                  dsimp only [List.getElem?_toArray, List.getElem?_cons_succ, List.getElem?_cons_zero, List.getElem_cons_succ, List.getElem_cons_zero, List.getElem_toArray]
                  try simp only [Act.put, List.setIfInBounds_toArray, List.set_cons_zero, List.set_cons_succ]
                refine wpAnyH_take (i := 8) (oi := ?o8q8) (v := ?v8q8) ?hi8q8 (by kernel_rfl) (by kernel_rfl) (by kernel_rfl) (fun _ _ _ h => h) (Or.inl ⟨?hg8q8, ?hy8q8⟩) (by assumption) ?rest8q8
                case hi8q8 => rfl
                case hg8q8 => rfl
                case' hy8q8 =>
                  dsimp only [List.getElem?_toArray, List.getElem?_cons_succ, List.getElem?_cons_zero, List.getElem_cons_succ, List.getElem_cons_zero, List.getElem_toArray]
                  intro w hSw
                  try dsimp only at hSw
                  go_simp
                  try with_reducible rfl
                case' rest8q8 =>
                  dsimp only [List.getElem?_toArray, List.getElem?_cons_succ, List.getElem?_cons_zero, List.getElem_cons_succ, List.getElem_cons_zero, List.getElem_toArray]
                  try simp only [Act.put, List.setIfInBounds_toArray, List.set_cons_zero, List.set_cons_succ]
                refine wpAnyH_take (i := 9) (oi := ?o9q9) (v := ?v9q9) ?hi9q9 (by kernel_rfl) (by kernel_rfl) (by kernel_rfl) (fun _ _ _ h => h) (Or.inl ⟨?hg9q9, ?hy9q9⟩) (by assumption) ?rest9q9
                case hi9q9 => rfl
                case hg9q9 => rfl
                case' hy9q9 =>
                  dsimp only [List.getElem?_toArray, List.getElem?_cons_succ, List.getElem?_cons_zero, List.getElem_cons_succ, List.getElem_cons_zero, List.getElem_toArray]
                  intro w hSw
                  try dsimp only at hSw
                  go_simp
                  try with_reducible rfl
                case' rest9q9 =>
                  dsimp only [List.getElem?_toArray, List.getElem?_cons_succ, List.getElem?_cons_zero, List.getElem_cons_succ, List.getElem_cons_zero, List.getElem_toArray]
                  try simp only [Act.put, List.setIfInBounds_toArray, List.set_cons_zero, List.set_cons_succ]
                refine wpAnyH_take (i := 10) (oi := ?o10q10) (v := ?v10q10) ?hi10q10 (by kernel_rfl) (by kernel_rfl) (by kernel_rfl) (fun _ _ _ h => h) (Or.inl ⟨?hg10q10, ?hy10q10⟩) (by assumption) ?rest10q10
                case hi10q10 => rfl
                case hg10q10 => rfl
                case' hy10q10 =>
                  dsimp only [List.getElem?_toArray, List.getElem?_cons_succ, List.getElem?_cons_zero, List.getElem_cons_succ, List.getElem_cons_zero, List.getElem_toArray]
                  intro w hSw
                  try dsimp only at hSw
                  go_simp
                  try with_reducible rfl
                case' rest10q10 =>
                  dsimp only [List.getElem?_toArray, List.getElem?_cons_succ, List.getElem?_cons_zero, List.getElem_cons_succ, List.getElem_cons_zero, List.getElem_toArray]
                  try simp only [Act.put, List.setIfInBounds_toArray, List.set_cons_zero, List.set_cons_succ]
                refine wpAnyH_ready (rs := [7, 11]) (by kernel_rfl) (by simp) ?_
                refine AllReadyH.cons rfl (fun K hK => ?brA) (AllReadyH.cons rfl (fun K hK => ?brB) AllReadyH.nil)
                case' brA =>
                  dsimp only [List.getElem?_toArray, List.getElem?_cons_succ, List.getElem?_cons_zero, List.getElem_cons_succ, List.getElem_cons_zero, List.getElem_toArray]
                  go_simp
                  refine hK.out _ _ ?_ (fun hHeld => ?_)
                  · trivial
                  clear hK K
                  try simp only [Act.put, List.setIfInBounds_toArray, List.set_cons_zero, List.set_cons_succ]
                  refine wpAnyH_ready (rs := [11]) (by kernel_rfl) (by simp) ?_
                  refine AllReadyH.cons rfl (fun K hK => ?_) AllReadyH.nil
                  dsimp only [List.getElem?_toArray, List.getElem?_cons_succ, List.getElem?_cons_zero, List.getElem_cons_succ, List.getElem_cons_zero, List.getElem_toArray]
                  go_simp
                  refine hK.out _ _ ?_ (fun hHeld => ?_)
                  · trivial
                  clear hK K
                  try simp only [Act.put, List.setIfInBounds_toArray, List.set_cons_zero, List.set_cons_succ]
                  refine wpAnyH_ready (rs := [12]) (by kernel_rfl) (by simp) ?_
                  refine AllReadyH.cons rfl (fun K hK => ?_) AllReadyH.nil
                  dsimp only [List.getElem?_toArray, List.getElem?_cons_succ, List.getElem?_cons_zero, List.getElem_cons_succ, List.getElem_cons_zero, List.getElem_toArray]
                  go_simp
                  refine hK.out _ _ ?_ (fun hHeld => ?_)
                  · trivial
                  clear hK K
                  try simp only [Act.put, List.setIfInBounds_toArray, List.set_cons_zero, List.set_cons_succ]
                  refine wpAnyH_ready (rs := [13]) (by kernel_rfl) (by simp) ?_
                  refine AllReadyH.cons rfl (fun K hK => ?_) AllReadyH.nil
                  dsimp only [List.getElem?_toArray, List.getElem?_cons_succ, List.getElem?_cons_zero, List.getElem_cons_succ, List.getElem_cons_zero, List.getElem_toArray]
                  go_simp
                  refine hK.out _ _ ?_ (fun hHeld => ?_)
                  · trivial
                  clear hK K
                  try simp only [Act.put, List.setIfInBounds_toArray, List.set_cons_zero, List.set_cons_succ]
                  refine wpAnyH_ready (rs := [14]) (by kernel_rfl) (by simp) ?_
                  refine AllReadyH.cons rfl (fun K hK => ?_) AllReadyH.nil
                  dsimp only [List.getElem?_toArray, List.getElem?_cons_succ, List.getElem?_cons_zero, List.getElem_cons_succ, List.getElem_cons_zero, List.getElem_toArray]
                  go_simp
                  refine hK.out _ _ ?_ (fun hHeld => ?_)
                  · trivial
                  clear hK K
                  try simp only [Act.put, List.setIfInBounds_toArray, List.set_cons_zero, List.set_cons_succ]
                  refine wpAnyH_ready (rs := [15]) (by kernel_rfl) (by simp) ?_
                  refine AllReadyH.cons rfl (fun K hK => ?_) AllReadyH.nil
                  dsimp only [List.getElem?_toArray, List.getElem?_cons_succ, List.getElem?_cons_zero, List.getElem_cons_succ, List.getElem_cons_zero, List.getElem_toArray]
                  go_simp
                  refine hK.out _ _ ?_ (fun hHeld => ?_)
                  · trivial
                  clear hK K
                  try simp only [Act.put, List.setIfInBounds_toArray, List.set_cons_zero, List.set_cons_succ]
                  refine wpAnyH_done (by kernel_rfl) ?_ _
                  refine NoPanic.normal ?_
                case' brB =>
                  dsimp only [List.getElem?_toArray, List.getElem?_cons_succ, List.getElem?_cons_zero, List.getElem_cons_succ, List.getElem_cons_zero, List.getElem_toArray]
                  go_simp
                  refine hK.out _ _ ?_ (fun hHeld => ?_)
                  · trivial
                  clear hK K
                  try simp only [Act.put, List.setIfInBounds_toArray, List.set_cons_zero, List.set_cons_succ]
                  refine wpAnyH_ready (rs := [7]) (by kernel_rfl) (by simp) ?_
                  refine AllReadyH.cons rfl (fun K hK => ?_) AllReadyH.nil
                  dsimp only [List.getElem?_toArray, List.getElem?_cons_succ, List.getElem?_cons_zero, List.getElem_cons_succ, List.getElem_cons_zero, List.getElem_toArray]
                  go_simp
                  refine hK.out _ _ ?_ (fun hHeld => ?_)
                  · trivial
                  clear hK K
                  try simp only [Act.put, List.setIfInBounds_toArray, List.set_cons_zero, List.set_cons_succ]
                  refine wpAnyH_ready (rs := [12]) (by kernel_rfl) (by simp) ?_
                  refine AllReadyH.cons rfl (fun K hK => ?_) AllReadyH.nil
                  dsimp only [List.getElem?_toArray, List.getElem?_cons_succ, List.getElem?_cons_zero, List.getElem_cons_succ, List.getElem_cons_zero, List.getElem_toArray]
                  go_simp
                  refine hK.out _ _ ?_ (fun hHeld => ?_)
                  · trivial
                  clear hK K
                  try simp only [Act.put, List.setIfInBounds_toArray, List.set_cons_zero, List.set_cons_succ]
                  refine wpAnyH_ready (rs := [13]) (by kernel_rfl) (by simp) ?_
                  refine AllReadyH.cons rfl (fun K hK => ?_) AllReadyH.nil
                  dsimp only [List.getElem?_toArray, List.getElem?_cons_succ, List.getElem?_cons_zero, List.getElem_cons_succ, List.getElem_cons_zero, List.getElem_toArray]
                  go_simp
                  refine hK.out _ _ ?_ (fun hHeld => ?_)
                  · trivial
                  clear hK K
                  try simp only [Act.put, List.setIfInBounds_toArray, List.set_cons_zero, List.set_cons_succ]
                  refine wpAnyH_ready (rs := [14]) (by kernel_rfl) (by simp) ?_
                  refine AllReadyH.cons rfl (fun K hK => ?_) AllReadyH.nil
                  dsimp only [List.getElem?_toArray, List.getElem?_cons_succ, List.getElem?_cons_zero, List.getElem_cons_succ, List.getElem_cons_zero, List.getElem_toArray]
                  go_simp
                  refine hK.out _ _ ?_ (fun hHeld => ?_)
                  · trivial
                  clear hK K
                  try simp only [Act.put, List.setIfInBounds_toArray, List.set_cons_zero, List.set_cons_succ]
                  refine wpAnyH_ready (rs := [15]) (by kernel_rfl) (by simp) ?_
                  refine AllReadyH.cons rfl (fun K hK => ?_) AllReadyH.nil
                  dsimp only [List.getElem?_toArray, List.getElem?_cons_succ, List.getElem?_cons_zero, List.getElem_cons_succ, List.getElem_cons_zero, List.getElem_toArray]
                  go_simp
                  refine hK.out _ _ ?_ (fun hHeld => ?_)
                  · trivial
                  clear hK K
                  try simp only [Act.put, List.setIfInBounds_toArray, List.set_cons_zero, List.set_cons_succ]
                  refine wpAnyH_done (by kernel_rfl) ?_ _
                  refine NoPanic.normal ?_
                all_goals (
                  obtain ⟨w2, hw2⟩ : ∃ w2, w2 = (w1.setCell ⟨B, top, none⟩ (.slice (some ⟨bf k, 0, none⟩) m (cf k))).setCell ⟨B, k, none⟩ (.slice (some ⟨bf top, 0, none⟩) m (cf top)) := ⟨_, rfl⟩
                  rw [← hw2] at hEs
                  rw [← hw2]
                  clear hw2 hcB hfB hlB hcE hfE hBlt hcT hfT hlT hck hfk'
                  generalize swp f top k = f1 at *
                  obtain ⟨hcT, hfT, hlT⟩ := hEs.out.cells top htn'
                  obtain ⟨hcE, hfE⟩ := hEs.out.mx.elem htn' h
                  have hBl := hEs.out.mx.arr.lt
                  have hpvp := hf1p.out top cl htn' h
                  obtain ⟨pv, hpv⟩ : ∃ pv, f1 top cl = pv := ⟨_, rfl⟩
                  rw [hpv] at hcE hpvp kS
                  have ci : Kept (∀ w, Calls Try.prog 81 #[.int .u64 p, .int .u64 pv] w (Gives (.int .u64 (finv p pv)) w)) := ⟨fun w => rinv_c p pv w ⟨by omega, by omega⟩ ⟨hpvp.1, by omega⟩⟩
                  have hvU : U (finv p pv) := finv_U
                  obtain ⟨R, hR⟩ : ∃ R : Nat → Int, ∀ j, fmul p (f1 top j) (finv p pv) = R j := ⟨_, fun _ => rfl⟩
                  have kR : Kept (∀ j, fmul p (f1 top j) (finv p pv) = R j ∧ 0 ≤ R j ∧ R j < p) := ⟨fun j => ⟨hR j, by rw [← hR]; exact fmul_lt hv⟩⟩
                  have kclr : Kept (∀ i j, clr p f1 top cl i j = if i = top then R j else fsub p (f1 i j) (fmul p (f1 i cl) (R j))) := ⟨fun i j => by unfold clr; rw [hpv, hR]⟩
                  clear hR hpv
                  generalize finv p pv = v at *
                  go_wp2_with (first | (go_at_call 81; (first | with_reducible refine use1 (ci.out _) ?_ | with_reducible refine use (ci.out _) ?_); intro pw))
                  go_loopw [15] (fun vj wr => ∃ (j0 : Nat), vj = .int .i64 (j0 : Int) ∧ j0 ≤ m ∧ Kept (Elb w wr X B n m p bf2 cf2 (fun i j => if i = top ∧ j < j0 then R j else f1 i j) (.slice vu top vc') piv)) (fun vj _ => ((m : Int) - intOf vj).toNat)
                  case atStart => exact ⟨0, rfl, by omega, ⟨(hEs.out.keep (by repeat (first | exact Below.refl _ _ | refine Below.later ?_ _ | refine Below.box ?_ _ | refine Below.drew ?_ | refine Below.put ?_ (by dsimp only; omega) _))).congr fun i j _ _ => by rw [if_neg (by omega)]⟩⟩
                  case round =>
                    clear hEs hcT hfT hlT hcE hfE hBl ci
                    obtain ⟨j0, rfl, hj0, hE⟩ := hrel
                    obtain ⟨w4, rfl⟩ : ∃ x, x = wr := ⟨wr, rfl⟩
                    obtain ⟨hcT, hfT, hlT⟩ := hE.out.cells top htn'
                    have hBl := hE.out.mx.arr.lt
                    by_cases h1 : j0 < m
                    · have hcE : w4.cell? ⟨bf2 top, j0, none⟩ = some (.int .u64 (f1 top j0)) := by have := (hE.out.mx.elem htn' h1).1; simpa using this
                      have hfE := (hE.out.mx.elem htn' h1).2
                      have he0 := hf1p.out top j0 htn' h1
                      have hRj := (kR.out j0).1
                      obtain ⟨rj, hrj⟩ : ∃ rj, R j0 = rj := ⟨_, rfl⟩
                      have krj : Kept (∀ j, j = j0 → rj = R j) := ⟨fun j e => by rw [e, hrj]⟩
                      rw [hrj] at hRj
                      have cmj : Kept (∀ w, Calls Try.prog 43 #[.int .u64 p, .int .u64 (f1 top j0), .int .u64 v] w (Gives (.int .u64 rj) w)) := ⟨fun w => by rw [← hRj]; exact rmul_c p _ v w ⟨he0.1, by omega⟩ hvU⟩
                      clear hrj hRj he0
                      generalize f1 top j0 = e0 at *
                      go_wp2
                      first | refine region_tail1 (by kernel_rfl) (by kernel_rfl) (by kernel_rfl) ?_ | refine region_tail (by kernel_rfl) (by kernel_rfl) (by kernel_rfl) ?_
                      simp only [initOf, lastOf]
                      repeat (go_big_quiet_step (first | (go_at_call 43; with_reducible exact quiet (cmj.out _))))
                      refine wpQuiet_nil ?_
                      intro _
                      go_wp2
                      go_roundw
                      case rel => exact ⟨j0 + 1, by go_num, by omega, ⟨((hE.out.keep (by repeat (first | exact Below.refl _ _ | refine Below.later ?_ _ | refine Below.box ?_ _ | refine Below.drew ?_ | refine Below.put ?_ (by dsimp only; omega) _))).put htn' j0 rj).congr fun i j _ _ => by
                        try dsimp only
                        by_cases e1 : i = top
                        · by_cases e2 : j = j0
                          · rw [if_pos (show i = top ∧ j = j0 from ⟨e1, e2⟩), if_pos (show i = top ∧ j < j0 + 1 from ⟨e1, by omega⟩), krj.out j e2]
                          · rw [if_neg (show ¬ (i = top ∧ j = j0) from fun e => e2 e.2)]
                            by_cases e3 : j < j0
                            · rw [if_pos (show i = top ∧ j < j0 from ⟨e1, e3⟩), if_pos (show i = top ∧ j < j0 + 1 from ⟨e1, by omega⟩)]
                            · rw [if_neg (show ¬ (i = top ∧ j < j0) from fun e => e3 e.2), if_neg (show ¬ (i = top ∧ j < j0 + 1) from fun e => e3 (by omega))]
                        · rw [if_neg (show ¬ (i = top ∧ j = j0) from fun e => e1 e.1), if_neg (show ¬ (i = top ∧ j < j0) from fun e => e1 e.1), if_neg (show ¬ (i = top ∧ j < j0 + 1) from fun e => e1 e.1)]⟩⟩
                      case measure => first | (simp [intOf]; omega) | (simp [intOf]; done)
                    · have hE5 : Kept (Elb w w4 X B n m p bf2 cf2 (fun i j => if i = top then R j else if i < 0 then fsub p (f1 i j) (fmul p (f1 i cl) (R j)) else f1 i j) (.slice vu top vc') piv) := ⟨hE.out.congr fun i j _ hj => by
                        try dsimp only
                        by_cases e1 : i = top
                        · rw [if_pos (show i = top ∧ j < j0 from ⟨e1, by omega⟩), if_pos e1]
                        · rw [if_neg (show ¬ (i = top ∧ j < j0) from fun e => e1 e.1), if_neg e1, if_neg (by omega)]⟩
                      clear hE
                      go_wp2
                      go_loopw [16] (fun vr wr => ∃ (r : Nat), vr = .int .i64 (r : Int) ∧ r ≤ n ∧ Kept (Elb w wr X B n m p bf2 cf2 (fun i j => if i = top then R j else if i < r then fsub p (f1 i j) (fmul p (f1 i cl) (R j)) else f1 i j) (.slice vu top vc') piv)) (fun vr _ => ((n : Int) - intOf vr).toNat)
                      case atStart => exact ⟨0, rfl, by omega, ⟨hE5.out.keep (by repeat (first | exact Below.refl _ _ | refine Below.later ?_ _ | refine Below.box ?_ _ | refine Below.drew ?_ | refine Below.put ?_ (by dsimp only; omega) _))⟩⟩
                      case round =>
                        clear hE5 hcT hfT hlT hBl
                        obtain ⟨r, rfl, hr, hE⟩ := hrel
                        obtain ⟨w5, rfl⟩ : ∃ x, x = wr := ⟨wr, rfl⟩
                        have hBl := hE.out.mx.arr.lt
                        by_cases h2 : r < n
                        · obtain ⟨hcR, hfR, hlR⟩ := hE.out.cells r h2
                          obtain ⟨hcT, hfT, hlT⟩ := hE.out.cells top htn'
                          by_cases h3 : r = top
                          · have hrt : ((r : Int) != (top : Int)) = false := by simp [h3]
                            obtain ⟨tv, hcE⟩ : ∃ tv, w5.cell? ⟨bf2 r, cl, none⟩ = some (.int .u64 tv) := ⟨_, (hE.out.mx.elem h2 h).1⟩
                            have hE6 : Kept (Elb w w5 X B n m p bf2 cf2 (fun i j => if i = top then R j else if i < r + 1 then fsub p (f1 i j) (fmul p (f1 i cl) (R j)) else f1 i j) (.slice vu top vc') piv) := ⟨hE.out.congr fun i j _ _ => by
                              try dsimp only
                              by_cases e1 : i = top
                              · rw [if_pos e1, if_pos e1]
                              · rw [if_neg e1, if_neg e1]
                                by_cases e2 : i < r
                                · rw [if_pos e2, if_pos (show i < r + 1 by omega)]
                                · rw [if_neg e2, if_neg (show ¬ i < r + 1 by omega)]⟩
                            clear hE h3
                            go_wp2
                            go_loopw [18] (fun vj wr => vj = .int .i64 0 ∧ wr = w5) (fun _ _ => 0)
                            case atStart => exact ⟨rfl, by first | rfl | trivial⟩
                            case round =>
                              obtain ⟨rfl, rfl⟩ := hrel
                              go_wp2
                              go_roundw
                              case rel => exact ⟨r + 1, by go_num, by omega, ⟨hE6.out.keep (by repeat (first | exact Below.refl _ _ | refine Below.later ?_ _ | refine Below.box ?_ _ | refine Below.drew ?_ | refine Below.put ?_ (by dsimp only; omega) _))⟩⟩
                              case measure => first | (simp [intOf]; omega) | (simp [intOf]; done)
                          · have hrt : ((r : Int) != (top : Int)) = true := by simp; omega
                            have hcE : w5.cell? ⟨bf2 r, cl, none⟩ = some (.int .u64 (f1 r cl)) := by have := (hE.out.mx.elem h2 h).1; simpa [h3] using this
                            have hmp := hf1p.out r cl h2 h
                            obtain ⟨tm, htm⟩ : ∃ tm, f1 r cl = tm := ⟨_, rfl⟩
                            have ktm := (⟨htm⟩ : Kept _)
                            rw [htm] at hcE hmp
                            have k3 := (⟨h3⟩ : Kept _)
                            clear htm h3
                            go_wp2
                            go_loopw [18] (fun vj wr => ∃ (j0 : Nat), vj = .int .i64 (j0 : Int) ∧ j0 ≤ m ∧ Kept (Elb w wr X B n m p bf2 cf2 (fun i j => if i = r ∧ j < j0 then fsub p (f1 r j) (fmul p tm (R j)) else if i = top then R j else if i < r then fsub p (f1 i j) (fmul p (f1 i cl) (R j)) else f1 i j) (.slice vu top vc') piv)) (fun vj _ => ((m : Int) - intOf vj).toNat)
                            case atStart => exact ⟨0, rfl, by omega, ⟨(hE.out.keep (by repeat (first | exact Below.refl _ _ | refine Below.later ?_ _ | refine Below.box ?_ _ | refine Below.drew ?_ | refine Below.put ?_ (by dsimp only; omega) _))).congr fun i j _ _ => by (try dsimp only); rw [if_neg (show ¬ (i = r ∧ j < 0) from fun e => absurd e.2 (by omega))]⟩⟩
                            case round =>
                              clear hE hcR hfR hlR hcT hfT hlT hcE hBl
                              obtain ⟨j0, rfl, hj0, hE⟩ := hrel
                              obtain ⟨w6, rfl⟩ : ∃ x, x = wr := ⟨wr, rfl⟩
                              have hBl := hE.out.mx.arr.lt
                              obtain ⟨hcR, hfR, hlR⟩ := hE.out.cells r h2
                              obtain ⟨hcT, hfT, hlT⟩ := hE.out.cells top htn'
                              by_cases h5 : j0 < m
                              · have k3' : ¬ top = r := fun e => k3.out e.symm
                                have hcE : w6.cell? ⟨bf2 r, j0, none⟩ = some (.int .u64 (f1 r j0)) := by have := (hE.out.mx.elem h2 h5).1; simpa [k3.out] using this
                                have hfE := (hE.out.mx.elem h2 h5).2
                                have hcF : w6.cell? ⟨bf2 top, j0, none⟩ = some (.int .u64 (R j0)) := by have := (hE.out.mx.elem htn' h5).1; simpa [k3'] using this
                                have he0 := hf1p.out r j0 h2 h5
                                have hRp := (kR.out j0).2
                                obtain ⟨ss, hss⟩ : ∃ ss, fsub p (f1 r j0) (fmul p tm (R j0)) = ss := ⟨_, rfl⟩
                                have kss : Kept (∀ j, j = j0 → fsub p (f1 r j) (fmul p tm (R j)) = ss) := ⟨fun j e => by rw [e]; exact hss⟩
                                have cmj : Kept (∀ w, Calls Try.prog 43 #[.int .u64 p, .int .u64 tm, .int .u64 (R j0)] w (Gives (.int .u64 (fmul p tm (R j0))) w)) := ⟨fun w => rmul_c p _ _ w ⟨hmp.1, by omega⟩ ⟨hRp.1, by omega⟩⟩
                                have csj : Kept (∀ w, Calls Try.prog 42 #[.int .u64 p, .int .u64 (f1 r j0), .int .u64 (fmul p tm (R j0))] w (Gives (.int .u64 ss) w)) := ⟨fun w => by rw [← hss]; exact rsub_c p _ _ w ⟨he0.1, by omega⟩ fmul_U⟩
                                clear hss he0 hRp k3'
                                generalize fmul p tm (R j0) = mm at *
                                generalize f1 r j0 = e0 at *
                                generalize R j0 = rj at *
                                go_wp2
                                first | refine region_tail1 (by kernel_rfl) (by kernel_rfl) (by kernel_rfl) ?_ | refine region_tail (by kernel_rfl) (by kernel_rfl) (by kernel_rfl) ?_
                                simp only [initOf, lastOf]
                                repeat (go_big_quiet_step (first | (go_at_call 43; with_reducible exact quiet (cmj.out _)) | (go_at_call 42; with_reducible exact quiet (csj.out _))))
                                refine wpQuiet_nil ?_
                                intro _
                                go_wp2
                                go_roundw
                                case rel => exact ⟨j0 + 1, by go_num, by omega, ⟨((hE.out.keep (by repeat (first | exact Below.refl _ _ | refine Below.later ?_ _ | refine Below.box ?_ _ | refine Below.drew ?_ | refine Below.put ?_ (by dsimp only; omega) _))).put h2 j0 ss).congr fun i j _ _ => by
                                  try dsimp only
                                  by_cases e1 : i = r
                                  · by_cases e2 : j = j0
                                    · rw [if_pos (show i = r ∧ j = j0 from ⟨e1, e2⟩), if_pos (show i = r ∧ j < j0 + 1 from ⟨e1, by omega⟩), kss.out j e2]
                                    · rw [if_neg (show ¬ (i = r ∧ j = j0) from fun e => e2 e.2)]
                                      by_cases e3 : j < j0
                                      · rw [if_pos (show i = r ∧ j < j0 from ⟨e1, e3⟩), if_pos (show i = r ∧ j < j0 + 1 from ⟨e1, by omega⟩)]
                                      · rw [if_neg (show ¬ (i = r ∧ j < j0) from fun e => e3 e.2), if_neg (show ¬ (i = r ∧ j < j0 + 1) from fun e => e3 (by omega))]
                                  · rw [if_neg (show ¬ (i = r ∧ j = j0) from fun e => e1 e.1), if_neg (show ¬ (i = r ∧ j < j0) from fun e => e1 e.1), if_neg (show ¬ (i = r ∧ j < j0 + 1) from fun e => e1 e.1)]⟩⟩
                                case measure => first | (simp [intOf]; omega) | (simp [intOf]; done)
                              · have hE6 : Kept (Elb w w6 X B n m p bf2 cf2 (fun i j => if i = top then R j else if i < r + 1 then fsub p (f1 i j) (fmul p (f1 i cl) (R j)) else f1 i j) (.slice vu top vc') piv) := ⟨hE.out.congr fun i j hi hj => by
                                  try dsimp only
                                  by_cases e1 : i = top
                                  · rw [if_neg (show ¬ (i = r ∧ j < j0) from fun e => k3.out (by omega)), if_pos e1, if_pos e1]
                                  · by_cases e3 : i = r
                                    · rw [if_pos (show i = r ∧ j < j0 from ⟨e3, by omega⟩), if_neg e1, if_pos (show i < r + 1 by omega), e3, ktm.out]
                                    · rw [if_neg (show ¬ (i = r ∧ j < j0) from fun e => e3 e.1), if_neg e1, if_neg e1]
                                      by_cases e2 : i < r
                                      · rw [if_pos e2, if_pos (show i < r + 1 by omega)]
                                      · rw [if_neg e2, if_neg (show ¬ i < r + 1 by omega)]⟩
                                clear hE
                                go_wp2
                                go_roundw
                                case rel => exact ⟨r + 1, by go_num, by omega, ⟨hE6.out.keep (by repeat (first | exact Below.refl _ _ | refine Below.later ?_ _ | refine Below.box ?_ _ | refine Below.drew ?_ | refine Below.put ?_ (by dsimp only; omega) _))⟩⟩
                                case measure => first | (simp [intOf]; omega) | (simp [intOf]; done)
                        · have hrn : r = n := by omega
                          have hE6 : Kept (Elb w w5 X B n m p bf2 cf2 (clr p f1 top cl) (.slice vu top vc') piv) := ⟨hE.out.congr fun i j hi hj => by
                            try dsimp only
                            rw [kclr.out]
                            by_cases e1 : i = top
                            · rw [if_pos e1, if_pos e1]
                            · rw [if_neg e1, if_neg e1, if_pos (show i < r by omega)]⟩
                          clear hE
                          go_wp2_with (first | (at_builtin; refine wpList_pushF rfl _ _ rfl _ piv (hE6.out.keep (by repeat (first | exact Below.refl _ _ | refine Below.later ?_ _ | refine Below.box ?_ _ | refine Below.drew ?_ | refine Below.put ?_ (by dsimp only; omega) _))) rfl cl _ rfl (by first | simp | (rw [World.cell?_alloc_new]; rfl)) (by rw [ktop.out]; omega) ?_; intro v7 w7 hE7; refine Stop.out ?_))
                          refine ⟨?_⟩
                          have hE8 := (⟨hE7⟩ : Kept _)
                          clear hE7 hE6
                          go_wp2
                          go_roundw
                          case rel => exact ⟨cl + 1, bf2, cf2, by go_num, by omega, ⟨by rw [kS.out]; exact hE8.out.keep (by repeat (first | exact Below.refl _ _ | refine Below.later ?_ _ | refine Below.box ?_ _ | refine Below.drew ?_ | refine Below.put ?_ (by dsimp only; omega) _))⟩⟩
                          case measure => first | (simp [intOf]; omega) | (simp [intOf]; done))
            · have hkn' : k = n := by omega
              have hS : Kept (elR p n (cl + 1) (elF p ls) = ⟨f, piv, fac⟩) := ⟨by
                rw [hnext.out]; unfold elS; simp only [htop]; rw [hfd.out, hkn', Nat.sub_self, fnd, if_pos (Nat.le_refl _)]⟩
              have hkb : ((k : Int) == (n : Int)) = true := by simp [hkn']
              clear hfd hok hnext hkn'
              go_wp2
              go_roundw
              case rel => exact ⟨cl + 1, bf, cf, by go_num, by omega, ⟨by rw [hS.out]; exact hE.out.keep (by repeat (first | exact Below.refl _ _ | refine Below.later ?_ _ | refine Below.box ?_ _ | refine Below.drew ?_ | refine Below.put ?_ (by dsimp only; omega) _))⟩⟩
              case measure => first | (simp [intOf]; omega) | (simp [intOf]; done)
        · have hcw : cl = m := by omega
          have hes : Kept (elR p n m (elF p ls) = ⟨f, piv, fac⟩) := ⟨by rw [← hcw]; exact kes.out⟩
          have ho : Kept (w3.ownsRow w.heap.size 3 1 (.slice vu top vc') piv.length (intsV piv)) := ⟨by
            refine ⟨hE1.out.own.1, ?_⟩
            rcases hE1.out.own.2 with e | ⟨g, cap, cur, e, hg, rest⟩
            · exact .inl e
            · exact .inr ⟨g, cap, cur, e, by have := kwX.out; omega, rest⟩⟩
          have ktop := (⟨htop⟩ : Kept _)
          clear hok hnext kes hcw htop
          go_wp2
          exact bodyPost_ret (v := .tuple #[.slice (some ⟨B, 0, none⟩) n C, .slice vu top vc']) (by simp [results, Try.results73, go_sem]) rfl ⟨B, C, bf, cf, vu, vc', by rw [hes.out, ktop.out], by rw [hes.out]; exact hE1.out.mx, by rw [hes.out]; show w3.ownsRow w.heap.size _ 1 (.slice vu piv.length vc') piv.length (intsV piv); have := ho.out; rw [← ktop.out] at this; exact this⟩
end Go.Proofs.Ytjnlnbkdnjainaa
