/- linear.Inverse. -/
import Derived.Test.YtjnlnbkdnjainaaHLinB
import Derived.Test.YtjnlnbkdnjainaaHWid
import Derived.Test.YtjnlnbkdnjainaaHKer
namespace Go.Proofs.Ytjnlnbkdnjainaa
open Go.RowKit Go.Sort

set_option maxRecDepth 100000
/-- A matrix whose rows are filled one after another. -/
structure Fil (W w : World) (B n i m : Nat) (bf cf : Nat → Nat) (f : Nat → Nat → Int) : Prop where
  below : Below W.heap.size W w
  geB : W.heap.size ≤ B
  arr : w.rowIs B 32 n (fun k => if k < i then .slice (some ⟨bf k, 0, none⟩) m (cf k) else .slice none 0 0)
  row : ∀ k, k < i → Pfx w (bf k) 22 m (fun j => .int .u64 (f k j))
  geR : ∀ k, k < i → W.heap.size ≤ bf k ∧ bf k ≠ B
  inj : ∀ a b, a < i → b < i → bf a = bf b → a = b
  cap : ∀ k, k < i → m ≤ cf k
namespace Fil
variable {W w w' : World} {B n i m : Nat} {bf cf : Nat → Nat} {f : Nat → Nat → Int}
theorem keep (h : Fil W w B n i m bf cf f) (hb : Below w.heap.size w w') : Fil W w' B n i m bf cf f :=
  ⟨Below.next h.below hb, h.geB, h.arr.of_block (hb.block B h.arr.lt), fun k hk => (h.row k hk).of_block (hb.block _ (h.row k hk).lt), h.geR, h.inj, h.cap⟩
theorem push (h : Fil W w B n i m bf cf f) (hi : i < n) {w1 w2 : World} (hb : Below w.heap.size w w1) {g cap N : Nat} {news : List Int} (hN : N = m) (hl : news.length = m) (e : ∀ j, j < m → news.getD j 0 = f i j)
    (hown : w2.ownsRow W.heap.size 22 1 (.slice (some ⟨g, 0, none⟩) N cap) N (unums news)) (hgr : w1.grownBy w2 none) (hat : g = w1.heap.size) :
    Fil W (w2.setCell ⟨B, i, none⟩ (.slice (some ⟨g, 0, none⟩) m cap)) B n (i + 1) m (fun k => if k = i then g else bf k) (fun k => if k = i then cap else cf k) f := by
  subst hN
  have h1 := h.keep hb
  have hBl := h1.arr.lt
  have hblk : ∀ k, k < w1.heap.size → w2.heap[k]? = w1.heap[k]? := fun k hk => hgr.block k hk (fun e => by cases e)
  have hgW : W.heap.size ≤ g := by have := h1.below.size; omega
  rcases hown.2 with ⟨e3, _⟩ | ⟨g2, cap2, cur, e3, _, hc, hcap, _, hsz, htk⟩
  · cases e3
  injection e3 with e3 _ e4
  injection e3 with e3; injection e3 with e3; subst e3 e4
  refine ⟨Below.put (Below.grown h1.below hgr h1.below.size (fun k hk => by cases hk)) h.geB _, h.geB, ?_, fun k hk => ?_, fun k hk => ?_, fun a b ha hb2 e2 => ?_, fun k hk => ?_⟩
  · refine ((h1.arr.of_block (hblk B hBl)).set i _).congr fun k hk => ?_
    by_cases e1 : k = i
    · subst e1; simp
    · by_cases e3 : k < i
      · simp [e1, e3, show k < i + 1 by omega]
      · simp [e1, e3, show ¬ k < i + 1 by omega]
  · by_cases e1 : k = i
    · subst e1
      simp only [if_true]
      refine (Pfx.setOther (a := ⟨B, k, none⟩) (f := fun j => .int .u64 (f k j)) ⟨cap, fun j => (cur[j]?).getD undef, ⟨cur, hc, by omega, fun j hj => by dsimp only; rw [Array.getElem?_eq_getElem (by omega)]; rfl⟩, hcap, fun j hj => ?_⟩ (by dsimp only; omega) _)
      have h2 : (cur.toList.take (N * 1))[j]? = (unums news)[j]? := by rw [htk]
      rw [List.getElem?_take, if_pos (by omega), Array.getElem?_toList] at h2
      dsimp only
      have := e j hj
      rw [List.getD, List.getElem?_eq_getElem (by omega)] at this
      simp only [Option.getD_some] at this
      rw [h2, unums, List.getElem?_map, List.getElem?_eq_getElem (by omega), Option.map_some, Option.getD_some, this]
    · simp only [if_neg e1]
      have h2 := h1.row k (by omega)
      exact (h2.of_block (hblk _ h2.lt)).setOther (a := ⟨B, i, none⟩) (h.geR k (by omega)).2 _
  · by_cases e1 : k = i
    · simp only [e1, if_true]; exact ⟨hgW, by omega⟩
    · simp only [if_neg e1]; exact h.geR k (by omega)
  · by_cases e3 : a = i <;> by_cases e4 : b = i
    · omega
    · simp only [if_pos e3, if_neg e4] at e2
      have := (h1.row b (by omega)).lt; omega
    · simp only [if_neg e3, if_pos e4] at e2
      have := (h1.row a (by omega)).lt; omega
    · simp only [if_neg e3, if_neg e4] at e2; exact h.inj a b (by omega) (by omega) e2
  · split
    · exact hcap
    · exact h.cap k (by omega)
theorem done (h : Fil W w B n n m bf cf f) : Mx W w B n m bf cf f :=
  ⟨h.below, h.geB, (Pfx.of_row h.arr).congr fun k hk => by rw [if_pos hk], h.row, h.geR, h.inj, h.cap⟩
end Fil
/-- The matrix with the identity at its right. -/
def iF (p : Int) (n : Nat) (ls : List (List Int)) : Nat → Nat → Int := fun i j => if j < n then elF p ls i j else if j - n = i then 1 else 0
def GivesI (ok : Bool) (n : Nat) (g : Nat → Nat → Int) (w : World) (e : Ending) (w' : World) : Prop :=
  Below w.heap.size w w' ∧ (ok = false → e = .returned (.tuple #[.slice none 0 0, .bool false])) ∧ (ok = true → ∃ B bf cf, e = .returned (.tuple #[.slice (some ⟨B, 0, none⟩) n n, .bool true]) ∧ Mx w w' B n n bf cf g)
set_option maxHeartbeats 16000000 in
theorem inverse_lc (p : Int) (n : Nat) (u : Option Addr) (c : Nat) (ls : List (List Int)) (w : World) (h1 : Mt w u ls) (hv : vld p = true) (hM : vldM ls = true) (hn : ls.length = n) (hm : colsN ls = n) :
    Calls Try.prog 22 #[.agg #[.int .u64 p], .slice u n c] w (GivesI (decide ((elR p n n (iF p n ls)).piv.length = n)) n (fun i j => (elR p n n (iF p n ls)).f i (n + j)) w) := by
  have hp := vld_pos hv
  obtain ⟨g1, g2, g3⟩ := vldM_row hM
  have hs := h1.small
  have cf : Kept (∀ w', Below w.heap.size w w' → Calls Try.prog 54 #[.agg #[.int .u64 p], .slice u n c] w' (Gives (.bool true) w')) := ⟨fun w' hw => by have := fits_lc p u c ls w' (h1.below (Nat.le_refl _) hw); rw [hv, hM, hn] at this; exact this⟩
  have cc : Kept (∀ w', Below w.heap.size w w' → Calls Try.prog 55 #[.slice u n c] w' (Gives (.int .i64 (n : Int)) w')) := ⟨fun w' hw => by have := columns_c u c ls w' (h1.below (Nat.le_refl _) hw); rw [hn, hm] at this; exact this⟩
  have cr : Kept (∀ w', Below w.heap.size w w' → Calls Try.prog 57 #[.agg #[.int .u64 p], .slice u n c] w' (GivesM0 w' n n (elF p ls))) := ⟨fun w' hw => reduced_lc0 p n n u c ls w' hv (h1.below (Nat.le_refl _) hw) hn (by omega) (by omega) (fun l hl => by rw [g3 l hl, hm])⟩
  obtain ⟨F, hF⟩ : ∃ F, iF p n ls = F := ⟨_, rfl⟩
  have hFl : ∀ i j, 0 ≤ F i j ∧ F i j < p := fun i j => by
    rw [← hF]; unfold iF
    split
    · exact elF_lt (by omega) i j
    · split
      · exact ⟨by omega, by omega⟩
      · exact ⟨by omega, by omega⟩
  obtain ⟨N2, hN2⟩ : ∃ N2, n + n = N2 := ⟨_, rfl⟩
  have ce : Kept (∀ W w' B bf cf, Mx W w' B n N2 bf cf F → Calls Try.prog 58 #[.agg #[.int .u64 p], .slice (some ⟨B, 0, none⟩) n n, .int .i64 (n : Int)] w' (GivesE W B n N2 (elR p n n F) w')) := ⟨fun W w' B bf cf hM => elim_c p n N2 n W w' B n bf cf _ hv (by omega) (by omega) (by omega) hM (fun i j _ _ => hFl i j)⟩
  have kF : Kept (∀ k j, k < n → j < n → elF p ls k j = F k j) := ⟨fun k j _ hj => by rw [← hF]; unfold iF; rw [if_pos hj]⟩
  have kFb : Kept (∀ k j, j < n → (if j = k then 1 else 0) = F k (n + j)) := ⟨fun k j hj => by rw [← hF]; unfold iF; simp [show ¬ n + j < n by omega, Nat.add_sub_cancel_left]⟩
  have hmk := run_make_row' (P := Try.prog) 32 22 (.int .u64 0) 8 Try.underlying32 (by kernel_rfl) rfl .i64 .i64 n (by omega) (by omega)
  have hmr := run_make_rows2 n (by omega)
  have hok := elR_ok (n := n) (m := N2) (f := F) hv (fun i j _ _ => hFl i j) n
  have hn6 : n ≤ 64 := by omega
  rw [hF]
  generalize elR p n n F = es at *
  obtain ⟨f, piv, fac⟩ := es
  simp only
  obtain ⟨np, hnp⟩ : ∃ np, piv.length = np := ⟨_, rfl⟩
  have knp := (⟨hnp⟩ : Kept _)
  have hnpn : np ≤ n := by rw [← hnp]; exact hok.len
  have kel : Kept (∀ i j, i < n → j < N2 → 0 ≤ f i j ∧ f i j < p) := ⟨hok.el⟩
  rw [hnp]
  clear h1 hM hn hm g1 g2 g3 hok hnp hs hF hFl
  go_enter Try.func22, Try.ntmps22
  go_wp2_with (first | (go_at_call 54; (first | with_reducible refine use1 (cf.out _ (by repeat (first | exact Below.refl _ _ | refine Below.later ?_ _ | refine Below.box ?_ _ | refine Below.drew ?_ | refine Below.put ?_ (by dsimp only; omega) _))) ?_ | with_reducible refine use (cf.out _ (by repeat (first | exact Below.refl _ _ | refine Below.later ?_ _ | refine Below.box ?_ _ | refine Below.drew ?_ | refine Below.put ?_ (by dsimp only; omega) _))) ?_); intro pw) | (go_at_call 55; (first | with_reducible refine use1 (cc.out _ (by repeat (first | exact Below.refl _ _ | refine Below.later ?_ _ | refine Below.box ?_ _ | refine Below.drew ?_ | refine Below.put ?_ (by dsimp only; omega) _))) ?_ | with_reducible refine use (cc.out _ (by repeat (first | exact Below.refl _ _ | refine Below.later ?_ _ | refine Below.box ?_ _ | refine Below.drew ?_ | refine Below.put ?_ (by dsimp only; omega) _))) ?_); intro pw) | (go_at_call 57; refine Stop.out ?_))
  refine ⟨?_⟩
  refine call_genE (fun W' => Below w.heap.size w W' ∧ W'.cell? ⟨w.heap.size, 0, none⟩ = some (.int .u64 p) ∧ w.heap.size < W'.heap.size) ?fx ?_
  case fx => exact ⟨(by repeat (first | exact Below.refl _ _ | refine Below.later ?_ _ | refine Below.box ?_ _ | refine Below.drew ?_ | refine Below.put ?_ (by dsimp only; omega) _)), by simp [go_sem], by simp⟩
  rintro W1 ⟨hB1, hb1, hl1⟩
  refine (cr.out W1 hB1).mono ?_
  rintro e w2 ⟨B, bf0, rfl, hRd⟩
  have kB1 := (⟨hB1⟩ : Kept _)
  have kbx : Kept (∀ w', Below W1.heap.size W1 w' → w'.cell? ⟨w.heap.size, 0, none⟩ = some (.int .u64 p) ∧ w.heap.size < w'.heap.size) := ⟨fun w' hw => by
    exact ⟨by rw [hw.cell (p := ⟨w.heap.size, 0, none⟩) hl1]; exact hb1, by have := hw.size; omega⟩⟩
  have hW0 : Kept (Wid W1 w2 B n 0 n N2 bf0 (fun _ => 0) F) := ⟨Wid.of_red hRd kF.out⟩
  clear hB1 hb1 hl1 hRd cr cf cc kF
  go_wp2
  go_loopw [33] (fun v wr => ∃ (i : Nat) (bf cf : Nat → Nat), v = .int .i64 (i : Int) ∧ i ≤ n ∧ Kept (Wid W1 wr B n i n N2 bf cf F)) (fun v _ => ((n : Int) - intOf v).toNat)
  case atStart => exact ⟨0, _, _, rfl, by omega, hW0⟩
  case round =>
    clear hW0
    obtain ⟨i, bf, cf, rfl, hi, hR⟩ := hrel
    obtain ⟨w1, rfl⟩ : ∃ x, x = wr := ⟨wr, rfl⟩
    by_cases h : i < n
    · obtain ⟨hcB, hfB, hlB, hlb⟩ := hR.out.cells h
      have hApp : Kept (∀ w', Below w1.heap.size w1 w' → w'.ownsRow W1.heap.size 22 1 (.slice (some ⟨bf i, 0, none⟩) n n) n ((List.range n).map fun j => .int .u64 (F i j))) := ⟨fun w' hw' => (hR.out.keep hi hw').own h (by omega)⟩
      have hAb : Kept (∀ w', Below w1.heap.size w1 w' → W1.heap.size ≤ w'.heap.size) := ⟨fun w' hw' => Nat.le_trans hR.out.below.size hw'.size⟩
      have kn1 : Kept (some B ≠ (Value.slice (some ⟨bf i, 0, none⟩) n n).ownBlock) := ⟨fun e => (hR.out.geR i h).2 (by injection e with e; exact e.symm)⟩
      obtain ⟨i0, hi0, hz0, hz1, hz2'⟩ := info_parts (show (Try.prog.info? 22).map (fun i => (i.zero, i.size, i.bytes)) = some (some (.int .u64 0), 1, 8) from by kernel_rfl)
      have hmc : (madeCells #[Value.int .u64 0] n)[i]? = some (.int .u64 0) := by simp [madeCells, h, Nat.mod_one]
      have kun : Kept (Pfx (w1.alloc (.cells ((madeCells #[.int .u64 0] n).setIfInBounds i (.int .u64 1)) 22)) w1.heap.size 22 n (fun j => .int .u64 (if j = i then 1 else 0))) := ⟨unit_pfx w1 i n _⟩
      go_wp2_with (first | (at_builtin; refine Stop.out ?_))
      refine ⟨?_⟩
      refine wpList_append_lies _ rfl _ _ _ rfl W1.heap.size 22 i0 (.int .u64 0) 1 8 Try.underlying32 hi0 hz0 hz1 hz2' rfl (by decide) (.slice (some ⟨bf i, 0, none⟩) n n) n ((List.range n).map fun j => .int .u64 (F i j)) rfl (hApp.out _ (by repeat (first | exact Below.refl _ _ | refine Below.later ?_ _ | refine Below.box ?_ _ | refine Below.drew ?_ | refine Below.put ?_ (by dsimp only; omega) _))) ⟨w1.heap.size, 0, none⟩ n n (unums ((List.range n).map fun j => if j = i then 1 else 0)) rfl (by simp [unums]) ?hnews (by intro u hu; obtain ⟨z, _, e⟩ := List.mem_map.1 hu; rw [← e]; rfl) (by omega) (by simp only [maxLen]; omega) (by omega) (hAb.out _ (by repeat (first | exact Below.refl _ _ | refine Below.later ?_ _ | refine Below.box ?_ _ | refine Below.drew ?_ | refine Below.put ?_ (by dsimp only; omega) _))) _ rfl ?hgo
      case hnews =>
        intro j u hu
        rw [unums, List.map_map, List.getElem?_map] at hu
        obtain ⟨j', hj', e⟩ := Option.map_eq_some_iff.1 hu
        have hj2 := List.getElem?_eq_some_iff.1 hj'
        have hjn : j < n := by have := hj2.1; simpa using this
        have : j' = j := by rw [← hj2.2]; simp
        subst this
        rw [Addr.add_lit, Nat.zero_add, kun.out.cell hjn]
        exact congrArg some e
      intro g cap w3 hown hgrow hat hlt
      have hcB3 : w3.cell? ⟨B, i, none⟩ = some (.slice (some ⟨bf i, 0, none⟩) n n) := by
        rw [hgrow.cell_far ⟨B, i, none⟩ (by simp; omega) kn1.out, World.cell?_alloc_lt _ _ _ hlB]; exact hcB
      have hfB3 : w3.frozen? ⟨B, i, none⟩ = false := by
        rw [hgrow.frozen_far ⟨B, i, none⟩ (by simp; omega) kn1.out, World.frozen?_of_block (Go.Deep.blk_alloc_lt _ _ _ hlB)]; exact hfB
      have hlB3 : B < w3.heap.size := by have := hgrow.size; simp at this; omega
      have kR5 : Kept (Wid W1 (w3.setCell ⟨B, i, none⟩ (.slice (some ⟨g, 0, none⟩) N2 cap)) B n (i + 1) n N2 (fun k => if k = i then g else bf k) (fun k => if k = i then cap else cf k) F) := ⟨by
        refine Wid.push (w1 := _) (w2 := w3) (news := (List.range n).map fun j => if j = i then 1 else 0) (N := n + n) hR.out h ?hb hN2 (by rw [List.length_map, List.length_range]; exact hN2) ?he hown hgrow hat
        case hb => exact (by repeat (first | exact Below.refl _ _ | refine Below.later ?_ _ | refine Below.box ?_ _ | refine Below.drew ?_ | refine Below.put ?_ (by dsimp only; omega) _))
        case he =>
          intro j hj
          rw [List.length_map, List.length_range] at hj
          rw [← kFb.out i j hj, List.getD, List.getElem?_map, List.getElem?_range hj]; rfl⟩
      rw [hN2]
      clear hR hown hgrow hat hApp hAb hcB hfB hlb hi0 hz0 hz1 hz2' hlt kun hmc
      go_wp2
      go_roundw
      case rel => exact ⟨i + 1, _, _, by go_num, by omega, kR5⟩
      case measure => first | (simp [intOf]; omega) | (simp [intOf]; done)
    · have hin : i = n := by omega
      have hD := hR.out
      rw [hin] at hD
      have kM := (⟨hD.done⟩ : Kept _)
      have hb3 := (kbx.out w1 hR.out.below).1
      have hl3 := (kbx.out w1 hR.out.below).2
      clear hR hD hin kFb hi
      go_wp2_with (first | (go_at_call 58; refine (ce.out W1 _ B bf cf (kM.out.keep (by repeat (first | exact Below.refl _ _ | refine Below.later ?_ _ | refine Below.box ?_ _ | refine Below.drew ?_ | refine Below.put ?_ (by dsimp only; omega) _)))).mono ?_; rintro e w5 ⟨bf5, cf5, v5, rfl, hMe, hOe⟩; refine Stop.out ?_))
      refine ⟨?_⟩
      clear hb3 hl3
      try simp only at hMe hOe
      obtain ⟨u5, c5, rfl⟩ : ∃ u5 c5, v5 = .slice u5 piv.length c5 := by
        rcases hOe.2 with ⟨e, h0⟩ | ⟨g, cap, cur, e, _⟩
        · exact ⟨none, 0, by rw [e, h0]⟩
        · exact ⟨_, cap, e⟩
      have kMe := (⟨hMe⟩ : Kept _)
      have kbw : Kept (Below w.heap.size w w5) := ⟨Below.next kB1.out hMe.below⟩
      rw [knp.out]
      clear hMe hOe kM ce
      by_cases hne : np = n
      case neg =>
        have hnb : ((np : Int) != (n : Int)) = true := by simp; omega
        go_wp2
        exact bodyPost_ret (v := .tuple #[.slice none 0 0, .bool false]) (by simp [results, Try.results22, go_sem]) rfl ⟨kbw.out, fun _ => rfl, fun e => by simp [hne] at e⟩
      case pos =>
        subst hne
        go_wp2
        obtain ⟨V, hV⟩ : ∃ V, w5.heap.size = V := ⟨_, rfl⟩
        have hP0 : Kept (Fil w5 (w5.alloc (.cells (madeCells #[.slice none 0 0] np) 32)) V np 0 np (fun _ => 0) (fun _ => 0) (fun i j => f i (np + j))) := ⟨⟨(by repeat (first | exact Below.refl _ _ | refine Below.later ?_ _ | refine Below.box ?_ _ | refine Below.drew ?_ | refine Below.put ?_ (by dsimp only; omega) _)), by omega, by
          have := World.rowIs_made w5 (.slice none 0 0) np 32
          rw [hV] at this
          exact this.congr fun k _ => by rw [if_neg (by omega)], fun k hk => absurd hk (by omega), fun k hk => absurd hk (by omega), fun a b ha => absurd ha (by omega), fun k hk => absurd hk (by omega)⟩⟩
        rw [hV]
        generalize w5.alloc (.cells (madeCells #[.slice none 0 0] np) 32) = w6 at hP0 ⊢
        go_loopw [66] (fun v wr => ∃ (k : Nat) (bf cf : Nat → Nat), v = .int .i64 (k : Int) ∧ k ≤ np ∧ Kept (Fil w5 wr V np k np bf cf (fun i j => f i (np + j)))) (fun v _ => ((np : Int) - intOf v).toNat)
        case atStart => exact ⟨0, _, _, rfl, by omega, hP0⟩
        case round =>
          clear hP0
          obtain ⟨k, bf, cf, rfl, hk, hP⟩ := hrel
          obtain ⟨w1, rfl⟩ : ∃ x, x = wr := ⟨wr, rfl⟩
          by_cases h7 : k < np
          · have hMx := kMe.out.keep hP.out.below
            obtain ⟨hcB, hfB, hlB, hlb⟩ := hMx.cells h7
            have hcap := hMx.cap k h7
            have hVc := hP.out.arr.cell h7
            rw [if_neg (by omega)] at hVc
            have hVf := hP.out.arr.frozen k
            have hVl := hP.out.arr.lt
            have kel2 : Kept (∀ j, j < N2 → w1.cell? ⟨bf5 k, j, none⟩ = some (.int .u64 (f k j))) := ⟨fun j hj => (hMx.elem h7 hj).1⟩
            have hAb : Kept (∀ w', Below w1.heap.size w1 w' → w5.heap.size ≤ w'.heap.size) := ⟨fun w' hw' => Nat.le_trans hP.out.below.size hw'.size⟩
            obtain ⟨i0, hi0, hz0, hz1, hz2'⟩ := info_parts (show (Try.prog.info? 22).map (fun i => (i.zero, i.size, i.bytes)) = some (some (.int .u64 0), 1, 8) from by kernel_rfl)
            obtain ⟨cc5, hcc⟩ : ∃ cc5, cf5 k = cc5 := ⟨_, rfl⟩
            rw [hcc] at hcap hcB
            have hcn : ¬ cc5 = np := by omega
            have hN3 : N2 - np = np := by omega
            clear hMx hcc
            go_wp2_with (first | (at_builtin; refine Stop.out ?_))
            refine ⟨?_⟩
            refine wpList_append_lies _ rfl _ _ _ rfl w5.heap.size 22 i0 (.int .u64 0) 1 8 Try.underlying32 hi0 hz0 hz1 hz2' rfl (by decide) (.slice none 0 0) 0 [] rfl (World.ownsRow_nil _ _ _ _) ⟨bf5 k, np, none⟩ np (cc5 - np) (unums ((List.range np).map fun j => f k (np + j))) ?hsl (by simp [unums]) ?hnewsz (by intro u hu; obtain ⟨z, _, e⟩ := List.mem_map.1 hu; rw [← e]; rfl) (by omega) (by simp only [maxLen]; omega) (by omega) (hAb.out _ (by repeat (first | exact Below.refl _ _ | refine Below.later ?_ _ | refine Below.box ?_ _ | refine Below.drew ?_ | refine Below.put ?_ (by dsimp only; omega) _))) _ rfl ?hgoz
            case hsl =>
              obtain ⟨vx, hvx⟩ : ∃ vx, vx = Value.slice (some { block := bf5 k, off := np }) np (cc5 - np) := ⟨_, rfl⟩
              rw [← hvx]
              simp only [Act.eval, go_sem]
              simp only [Nat.zero_add, Nat.reduceAdd, Nat.reduceLT, Array.getD, List.size_toArray, List.length_cons, List.length_nil, List.getElem_cons_succ, List.getElem_cons_zero, List.getElem_toArray, dite_true, Array.getInternal_eq_getElem]
            case hnewsz =>
              intro j u hu
              rw [unums, List.map_map, List.getElem?_map] at hu
              obtain ⟨j', hj', e⟩ := Option.map_eq_some_iff.1 hu
              have hj2 := List.getElem?_eq_some_iff.1 hj'
              have hjn : j < np := by have := hj2.1; simpa using this
              have : j' = j := by rw [← hj2.2]; simp
              subst this
              rw [Addr.add_lit, kel2.out (np + j') (by omega)]
              exact congrArg some e
            intro g cap w3 hown hgrow hat hlt
            have hat2 : g = w1.heap.size := by
              rcases hat with e | e
              · cases e
              · exact e
            have hVc3 : w3.cell? ⟨V, k, none⟩ = some (.slice none 0 0) := by
              rw [hgrow.cell_far ⟨V, k, none⟩ hVl (fun e => by cases e)]; exact hVc
            have hVf3 : w3.frozen? ⟨V, k, none⟩ = false := by
              rw [hgrow.frozen_far ⟨V, k, none⟩ hVl (fun e => by cases e)]; exact hVf
            have hVl3 : V < w3.heap.size := by have := hgrow.size; omega
            have kP5 : Kept (Fil w5 (w3.setCell ⟨V, k, none⟩ (.slice (some ⟨g, 0, none⟩) np cap)) V np (k + 1) np (fun k' => if k' = k then g else bf k') (fun k' => if k' = k then cap else cf k') (fun i j => f i (np + j))) := ⟨by
              refine Fil.push (w1 := w1) (w2 := w3) (news := (List.range np).map fun j => f k (np + j)) (N := 0 + np) hP.out h7 (Below.refl _ _) (by omega) (by simp) ?hez (by simpa using hown) hgrow hat2
              case hez =>
                intro j hj
                rw [List.getD, List.getElem?_map, List.getElem?_range hj]; rfl⟩
            rw [Nat.zero_add]
            clear hP hown hgrow hat hAb hcB hfB hlB hlb hcap hVc hVf hVl hi0 hz0 hz1 hz2' hlt kel2 hat2
            go_wp2
            go_roundw
            case rel => exact ⟨k + 1, _, _, by go_num, by omega, kP5⟩
            case measure => first | (simp [intOf]; omega) | (simp [intOf]; done)
          · have hkn : k = np := by omega
            have hD2 := hP.out
            rw [hkn] at hD2
            have kD := (⟨hD2.done⟩ : Kept _)
            have kbz : Kept (Below w.heap.size w w1) := ⟨Below.next kbw.out hP.out.below⟩
            clear hP hD2 hkn
            go_wp2
            exact bodyPost_ret (v := .tuple #[.slice (some ⟨V, 0, none⟩) np np, .bool true]) (by simp [results, Try.results22, go_sem]) rfl ⟨kbz.out, fun e => by simp at e, fun _ => ⟨V, bf, cf, rfl, kD.out.base kbw.out⟩⟩
end Go.Proofs.Ytjnlnbkdnjainaa
