/- moidoreref05.Kernel. -/
import Derived.Test.YtjnlnbkdnjainaaHL5a
namespace Go.Proofs.Ytjnlnbkdnjainaa
open Go.RowKit Go.Sort

set_option maxRecDepth 100000
/-- The blocks from lo to hi are as they were. -/
structure Ag (lo hi : Nat) (w w' : World) : Prop where
  size : hi ≤ w'.heap.size
  block : ∀ k, lo ≤ k → k < hi → w'.heap[k]? = w.heap[k]?
theorem Ag.below {lo hi : Nat} {w w1 w2 : World} (h : Ag lo hi w w1) (hb : Below w1.heap.size w1 w2) : Ag lo hi w w2 :=
  ⟨Nat.le_trans h.size hb.size, fun k h1 h2 => by rw [hb.block k (Nat.lt_of_lt_of_le h2 h.size), h.block k h1 h2]⟩
theorem Mx.agree {W w w' : World} {B n m : Nat} {bf cf : Nat → Nat} {f : Nat → Nat → Int} (h : Mx W w B n m bf cf f) (ha : Ag W.heap.size w.heap.size w w') :
    (Pfx w' B 32 n (fun i => .slice (some ⟨bf i, 0, none⟩) m (cf i))) ∧ ∀ i, i < n → Pfx w' (bf i) 22 m (fun j => .int .u64 (f i j)) :=
  ⟨h.arr.of_block (ha.block B h.geB h.arr.lt), fun i hi => (h.row i hi).of_block (ha.block _ (h.geR i hi).1 (h.row i hi).lt)⟩
theorem mt_pfx {w : World} {B n m : Nat} {bf cf : Nat → Nat} {f : Nat → Nat → Int} (ha : Pfx w B 32 n (fun i => .slice (some ⟨bf i, 0, none⟩) m (cf i))) (hr : ∀ i, i < n → Pfx w (bf i) 22 m (fun j => .int .u64 (f i j)))
    (hn : n ≤ 1000000) (hm : m ≤ 1000000) (hU : ∀ i j, i < n → j < m → U (f i j)) : Mt w (some ⟨B, 0, none⟩) (matL n m f) := by
  refine ⟨by rw [matL_len]; omega, fun _ => ⟨B, 0, rfl, ha.lt, fun i l hl => ?_⟩⟩
  have hi : i < n := by have := (List.getElem?_eq_some_iff.1 hl).1; rw [matL_len] at this; exact this
  rw [matL, List.getElem?_map, List.getElem?_range hi] at hl
  injection hl with hl
  have hll : l.length = m := by rw [← hl]; simp
  refine ⟨some ⟨bf i, 0, none⟩, cf i, by rw [Nat.zero_add, ha.cell hi, hll], ?_⟩
  rw [← hl]
  exact (hr i hi).ls hm (fun j hj => hU i j hi hj)
theorem wpList_pushC2 {W w : World} {i : Nat} {bf cf : Nat → Nat} {ls : List (List Int)} {ops : Array Oper} {rest : List Oper} {o : Oper} {a : Act} {Q : Exit → Act → World → Prop} (hgd : o.guard = none) (s x : Operand)
    (ho : o.op = .call { callee := .builtin .append, args := #[s, x], argTypes := #[28, 28] }) (v : Value) (h0 : Cpy W w v i bf cf ls) (hs : a.eval s = v)
    (b : Nat) (hx : a.eval x = .slice (some ⟨b, 0, none⟩) 1 1) (rb cap n : Nat) (hc : w.cell? ⟨b, 0, none⟩ = some (.slice (some ⟨rb, 0, none⟩) n cap)) (hn : (ls.getD i []).length = n) (hrow : Ls w (some ⟨rb, 0, none⟩) (ls.getD i [])) (hrl : ls.getD i [] ≠ [] → rb < w.heap.size) (hap : v.ownBlock ≠ some rb) (hsmall : i ≤ 1048576)
    (h : ∀ v' w', Cpy W w' v' (i + 1) (fun k => if k = i then rb else bf k) (fun k => if k = i then cap else cf k) ls → (∀ k, k < w.heap.size → v.ownBlock ≠ some k → w'.heap[k]? = w.heap[k]?) → w.heap.size ≤ w'.heap.size → (v'.ownBlock = v.ownBlock ∨ v'.ownBlock = some w.heap.size) → wpList Try.prog ops Q rest (a.put o.dst v') w') : wpList Try.prog ops Q (o :: rest) a w := by
  obtain ⟨i0, hi, hii⟩ := Option.map_eq_some_iff.1 (show (Try.prog.info? 32).map (fun i => (i.zero, i.size, i.bytes)) = some (some (.slice none 0 0), 1, 24) from by kernel_rfl)
  simp only [Prod.mk.injEq] at hii
  obtain ⟨hz, hsz, hby⟩ := hii
  refine wpList_append_own_at w hgd s x 28 ho W.heap.size 32 i0 (.slice none 0 0) 1 24 Try.underlying28 hi hz hsz hby rfl (by decide) v i _ hs h0.own ⟨b, 0, none⟩ 1 1 [.slice (some ⟨rb, 0, none⟩) n cap] hx rfl ?_ ?_ (by simp only [maxLen]; omega) (by omega) h0.below.size ?_
  · intro j u hj
    match j, hj with
    | 0, hj => simp at hj; subst hj; rw [Addr.add_lit]; exact hc
    | j + 1, hj => simp at hj
  · intro u hu; rw [List.mem_singleton] at hu; subst hu; rfl
  · intro v' w' hown' hgr _ hat
    have hkeep : ∀ k, k < w.heap.size → v.ownBlock ≠ some k → w'.heap[k]? = w.heap[k]? := fun k hk hne => hgr.block k hk (fun e => hne e.symm)
    have hne' : ∀ k, k < w.heap.size → v.ownBlock ≠ some k → v'.ownBlock ≠ some k := fun k hk hne e => by
      rcases hat with e2 | e2
      · rw [e2] at e; exact hne e
      · rw [e2] at e; injection e with e; omega
    have hls : ∀ k l, k < w.heap.size → v.ownBlock ≠ some k → Ls w (some ⟨k, 0, none⟩) l → Ls w' (some ⟨k, 0, none⟩) l := fun k l hk hne hl =>
      ⟨hl.small, hl.all, fun hnl => by
        obtain ⟨b', o', e, hlt, hcc⟩ := hl.mem hnl
        injection e with e; injection e with e1 e2; subst e1 e2
        exact ⟨k, 0, rfl, Nat.lt_of_lt_of_le hlt hgr.size, fun i x hx => by rw [World.cell?_of_block (w := w) (a := ⟨k, 0 + i, none⟩) (hkeep k hk hne)]; exact hcc i x hx⟩⟩
    refine h v' w' ⟨Below.grown h0.below hgr h0.below.size (fun k hk => (h0.own.lt k hk).1), ?_, fun k hk => ?_, fun k hk hnn => ?_⟩ hkeep hgr.size hat
    · have er : ((List.range (i + 1)).map fun k => Value.slice (some ⟨if k = i then rb else bf k, 0, none⟩) (ls.getD k []).length (if k = i then cap else cf k)) = ((List.range i).map fun k => Value.slice (some ⟨bf k, 0, none⟩) (ls.getD k []).length (cf k)) ++ [.slice (some ⟨rb, 0, none⟩) n cap] := by
        rw [List.range_succ, List.map_append]
        congr 1
        · refine List.map_congr_left fun k hk => ?_
          have := List.mem_range.1 hk
          rw [if_neg (by omega), if_neg (by omega)]
        · simp only [List.map_cons, List.map_nil, if_true, hn]
      rw [er]; exact hown'
    · by_cases e : k = i
      · simp only [e, if_true]
        by_cases hnn : ls.getD i [] = []
        · rw [hnn]; exact Ls.nil _ _
        · exact hls rb _ (hrl hnn) hap hrow
      · simp only [if_neg e]
        by_cases hnn : ls.getD k [] = []
        · rw [hnn]; exact Ls.nil _ _
        · exact hls _ _ (h0.lt k (by omega) hnn).1 (h0.lt k (by omega) hnn).2 (h0.row k (by omega))
    · by_cases e : k = i
      · have hr := hrl (by rw [← e]; exact hnn)
        simp only [e, if_true]; exact ⟨Nat.lt_of_lt_of_le hr hgr.size, hne' rb hr hap⟩
      · simp only [if_neg e]
        have hr := h0.lt k (by omega) hnn
        exact ⟨Nat.lt_of_lt_of_le hr.1 hgr.size, hne' _ hr.1 hr.2⟩
theorem colsN_matL {n m : Nat} {f : Nat → Nat → Int} (h : n = 0 → m = 0) : colsN (matL n m f) = m := by
  cases n with
  | zero => rw [h rfl]; rfl
  | succ n =>
    unfold matL
    rw [List.range_succ_eq_map, List.map_cons]
    simp [colsN]
/-- Whether the first k pivots leave column c free. -/
def frB (piv : List Nat) (c : Nat) : Nat → Bool
  | 0 => true
  | k + 1 => frB piv c k && decide (piv.getD k 0 ≠ c)
theorem frB_iff (piv : List Nat) (c : Nat) : ∀ k, frB piv c k = true ↔ ∀ i, i < k → piv.getD i 0 ≠ c
  | 0 => by simp [frB]
  | k + 1 => by
    rw [frB, Bool.and_eq_true, frB_iff piv c k, decide_eq_true_eq]
    constructor
    · rintro ⟨h1, h2⟩ i hi
      by_cases e : i = k
      · rw [e]; exact h2
      · exact h1 i (by omega)
    · exact fun h => ⟨fun i hi => h i (by omega), h k (by omega)⟩
theorem frB_all (piv : List Nat) (c : Nat) : frB piv c piv.length = decide (c ∉ piv) := by
  cases h : frB piv c piv.length
  · symm
    rw [decide_eq_false_iff_not, Decidable.not_not]
    have h1 := (not_congr (frB_iff piv c piv.length)).1 (by rw [h]; simp)
    by_cases hm : c ∈ piv
    · exact hm
    · exact absurd (fun i hi e => hm (by rw [List.getD, List.getElem?_eq_getElem hi] at e; rw [← e]; exact List.getElem_mem hi)) h1
  · symm
    rw [decide_eq_true_eq]
    intro hm
    obtain ⟨i, hi, e⟩ := List.getElem_of_mem hm
    exact (frB_iff piv c piv.length).1 h i hi (by rw [List.getD, List.getElem?_eq_getElem hi]; exact e)
theorem rkernel_no (p : Int) (u : Option Addr) (c : Nat) (ls : List (List Int)) (w : World) (h1 : Mt w u ls) (hv : (vld p && vldM ls) = false) : Calls Try.prog 34 #[.int .u64 p, .slice u ls.length c] w (fun e w' => e = .returned (.slice (some ⟨w.heap.size, 0, none⟩) 0 0) ∧ Below w.heap.size w w') := by
  have hs := h1.small
  have cr : Kept (∀ w', Below w.heap.size w w' → Calls Try.prog 41 #[.int .u64 p, .slice u ls.length c] w' (Gives (.tuple #[.slice none 0 0, .slice none 0 0]) w')) := ⟨fun w' hw => rreduce_no p u c ls w' (h1.below (Nat.le_refl _) hw) hv⟩
  have cc : Kept (∀ w', Calls Try.prog 39 #[.slice none 0 0] w' (Gives (.int .i64 0) w')) := ⟨fun w' => rcolumns_c none 0 [] w' ⟨by simp, fun h => absurd rfl h⟩⟩
  generalize ls.length = n at *
  clear h1 hv
  go_enter Try.func34, Try.ntmps34
  go_wp2_with (first | (go_at_call 41; (first | with_reducible refine use1 (cr.out _ (by repeat (first | exact Below.refl _ _ | refine Below.later ?_ _ | refine Below.box ?_ _ | refine Below.drew ?_ | refine Below.put ?_ (by dsimp only; omega) _))) ?_ | with_reducible refine use (cr.out _ (by repeat (first | exact Below.refl _ _ | refine Below.later ?_ _ | refine Below.box ?_ _ | refine Below.drew ?_ | refine Below.put ?_ (by dsimp only; omega) _))) ?_); intro pw))
  generalize hw3 : after (w.alloc (.cells #[] 32)) pw = w3
  have kB : Kept (Below w.heap.size w w3) := ⟨by rw [← hw3]; exact (by repeat (first | exact Below.refl _ _ | refine Below.later ?_ _ | refine Below.box ?_ _ | refine Below.drew ?_ | refine Below.put ?_ (by dsimp only; omega) _))⟩
  clear hw3
  go_loopw [5, 8] (fun vo v wr => vo = .slice (some ⟨w.heap.size, 0, none⟩) 0 0 ∧ v = .int .i64 0 ∧ wr = w3) (fun _ _ _ => 0)
  case atStart => exact ⟨rfl, rfl, by first | rfl | trivial⟩
  case round =>
    obtain ⟨rfl, rfl, rfl⟩ := hrel
    go_wp2_with (first | (go_at_call 39; refine use (cc.out _) ?_; intro pw9))
    exact bodyPost_ret (v := .slice (some ⟨w.heap.size, 0, none⟩) 0 0) (by simp [results, Try.results34, go_sem]) rfl ⟨rfl, Below.later kB.out _⟩
set_option maxHeartbeats 8000000 in
theorem rkernel_lc (p : Int) (n m : Nat) (u : Option Addr) (c : Nat) (ls : List (List Int)) (w : World) (h1 : Mt w u ls) (hv : vld p = true) (hM : vldM ls = true) (hn : ls.length = n) (hm : colsN ls = m) : Calls Try.prog 34 #[.int .u64 p, .slice u n c] w (GivesC (kerL p m (elR p n m (elF p ls)).f (elR p n m (elF p ls)).piv) w) := by
  have hp := vld_pos hv
  obtain ⟨g1, g2, g3⟩ := vldM_row hM
  have hs := h1.small
  have cr : Kept (∀ w', Below w.heap.size w w' → Calls Try.prog 41 #[.int .u64 p, .slice u n c] w' (GivesRf n m (elR p n m (elF p ls)) w')) := ⟨fun w' hw => rreduce_lc p n m u c ls w' (h1.below (Nat.le_refl _) hw) hv hM hn hm⟩
  have hmk := run_make_row' (P := Try.prog) 32 22 (.int .u64 0) 8 Try.underlying32 (by kernel_rfl) rfl .i64 .i64 m (by omega) (by omega)
  have hok := elR_ok (n := n) (m := m) (f := elF p ls) hv (fun i j _ _ => elF_lt (by omega) i j) m
  have kinc := (⟨elR_inc p n (elF p ls) m⟩ : Kept _)
  have hn6 : n ≤ 64 := by omega
  have hm6 : m ≤ 64 := by omega
  have hn0 : n = 0 → m = 0 := fun e => by
    have : ls = [] := List.length_eq_zero_iff.1 (by omega)
    rw [← hm, this]; rfl
  generalize elR p n m (elF p ls) = es at *
  obtain ⟨f, piv, fac⟩ := es
  simp only at kinc ⊢
  obtain ⟨np, hnp⟩ : ∃ np, piv.length = np := ⟨_, rfl⟩
  have knp := (⟨hnp⟩ : Kept _)
  have hnpn : np ≤ n := by rw [← hnp]; exact hok.len
  have kel : Kept (∀ i j, i < n → j < m → 0 ≤ f i j ∧ f i j < p) := ⟨hok.el⟩
  have kall : Kept (∀ c, frB piv c np = decide (c ∉ piv)) := ⟨fun c => by rw [← hnp]; exact frB_all piv c⟩
  have kcm : Kept (colsN (matL n m f) = m) := ⟨colsN_matL hn0⟩
  obtain ⟨KL, hKL⟩ : ∃ KL, kerL p m f piv = KL := ⟨_, rfl⟩
  have kKL := (⟨hKL⟩ : Kept _)
  rw [hKL]
  clear h1 hM hn hm g1 g2 g3 hok hnp hs hKL hn0
  go_enter Try.func34, Try.ntmps34
  go_wp2_with (first | (go_at_call 41; refine Stop.out ?_))
  refine ⟨?_⟩
  obtain ⟨w0, hw0⟩ : ∃ w0, w0 = w.alloc (.cells #[] 32) := ⟨_, rfl⟩
  have kB0 : Kept (Below w.heap.size w w0) := ⟨by rw [hw0]; exact (by repeat (first | exact Below.refl _ _ | refine Below.later ?_ _ | refine Below.box ?_ _ | refine Below.drew ?_ | refine Below.put ?_ (by dsimp only; omega) _))⟩
  have hG0 : Kept (Cpy w w0 (.slice (some ⟨w.heap.size, 0, none⟩) 0 0) (frees piv 0).length (fun _ => 0) (fun _ => 0) KL) := ⟨by
    rw [hw0]
    exact ⟨(Grown.empty 32 w).below, (Grown.empty 32 w).own, fun k hk => absurd hk (by simp [frees]), fun k hk => absurd hk (by simp [frees])⟩⟩
  have hsz0 : w0.heap.size = w.heap.size + 1 := by rw [hw0]; simp
  rw [← hw0]
  clear hw0
  refine (cr.out w0 kB0.out).mono ?_
  rintro e w2 ⟨B, C, bf0, cf0, up, c5, rfl, hMx, hOw⟩
  simp only at hMx hOw ⊢
  obtain ⟨lo, hlo⟩ : ∃ lo, w0.heap.size = lo := ⟨_, rfl⟩
  have kM : Kept (∀ w', Ag lo w2.heap.size w2 w' → (Pfx w' B 32 n (fun i => .slice (some ⟨bf0 i, 0, none⟩) m (cf0 i))) ∧ ∀ i, i < n → Pfx w' (bf0 i) 22 m (fun j => .int .u64 (f i j))) := ⟨fun w' hw => hMx.agree (by rw [hlo]; exact hw)⟩
  have kMt : Kept (∀ w', Ag lo w2.heap.size w2 w' → Mt w' (some ⟨B, 0, none⟩) (matL n m f)) := ⟨fun w' hw => mt_pfx (kM.out w' hw).1 (kM.out w' hw).2 (by omega) (by omega) (fun i j hi hj => ⟨(kel.out i j hi hj).1, by have := (kel.out i j hi hj).2; omega⟩)⟩
  have cc : Kept (∀ w', Ag lo w2.heap.size w2 w' → Calls Try.prog 39 #[.slice (some ⟨B, 0, none⟩) n C] w' (Gives (.int .i64 (m : Int)) w')) := ⟨fun w' hw => by have := rcolumns_c (some ⟨B, 0, none⟩) C (matL n m f) w' (kMt.out w' hw); rw [matL_len, kcm.out] at this; exact this⟩
  have kpv : Kept (∀ w', Ag lo w2.heap.size w2 w' → ∀ k, k < np → ∃ b, up = some ⟨b, 0, none⟩ ∧ b < w'.heap.size ∧ w'.cell? ⟨b, k, none⟩ = some (.int .i64 ((piv.getD k 0 : Nat) : Int))) := ⟨fun w' hw k hk => by
    rcases hOw.2 with ⟨_, e⟩ | ⟨g, cap, cur, e, hge, hcc, hcap, _, hsz, htk⟩
    · rw [knp.out] at e; omega
    · obtain ⟨b, e2, hb2, hc2⟩ := piv_get hOw w2 (Below.refl _ _) k (by rw [knp.out]; exact hk)
      injection e with e
      have hgb : g = b := by rw [e2] at e; injection e with e; injection e with e; exact e.symm
      subst hgb
      exact ⟨g, e2, Nat.lt_of_lt_of_le hb2 hw.size, by rw [World.cell?_of_block (a := ⟨g, k, none⟩) (hw.block g (by rw [← hlo]; exact hge) hb2)]; exact hc2⟩⟩
  have kB2 : Kept (Below w.heap.size w w2) := ⟨Below.next kB0.out hMx.below⟩
  have hG2 : Kept (Cpy w w2 (.slice (some ⟨w.heap.size, 0, none⟩) 0 0) (frees piv 0).length (fun _ => 0) (fun _ => 0) KL) := ⟨hG0.out.keep hMx.below⟩
  rw [knp.out]
  have kG : Kept (w.heap.size < lo ∧ lo ≤ w2.heap.size) := ⟨by have := hMx.below.size; have := hsz0; omega⟩
  clear hMx hOw cr hG0 hlo hsz0
  have kfl : Kept (∀ c, c ≤ 64 → (frees piv c).length ≤ 64) := ⟨fun c hc => by have := frees_len piv c; omega⟩
  go_wp2
  go_loopw [5, 8] (fun vo vc wr => ∃ (cl : Nat) (bf cf : Nat → Nat), vc = .int .i64 (cl : Int) ∧ cl ≤ m ∧ Kept (Cpy w wr vo (frees piv cl).length bf cf KL) ∧ Kept (Ag lo w2.heap.size w2 wr) ∧ Kept (∀ g, vo.ownBlock = some g → g < lo ∨ w2.heap.size ≤ g)) (fun _ v _ => ((m : Int) - intOf v).toNat)
  case atStart => exact ⟨0, _, _, rfl, by omega, hG2, ⟨⟨Nat.le_refl _, fun _ _ _ => rfl⟩⟩, ⟨fun g e => by simp only [Value.ownBlock, Option.some.injEq] at e; have := kG.out.1; exact .inl (by omega)⟩⟩
  case round =>
    clear hG2
    obtain ⟨cl, bf, cf, rfl, hc, hR, hBw, hOb⟩ := hrel
    obtain ⟨w1, rfl⟩ : ∃ x, x = wr := ⟨wr, rfl⟩
    go_wp2_with (first | (go_at_call 39; refine use (cc.out _ hBw.out) ?_; intro pwc; refine Stop.out ?_))
    refine ⟨?_⟩
    obtain ⟨w3, hw3⟩ : ∃ w3, w3 = after w1 pwc := ⟨_, rfl⟩
    have kR3 : Kept (Cpy w w3 u5 (frees piv cl).length bf cf KL) := ⟨by rw [hw3]; exact hR.out.keep (by repeat (first | exact Below.refl _ _ | refine Below.later ?_ _ | refine Below.box ?_ _ | refine Below.drew ?_ | refine Below.put ?_ (by dsimp only; omega) _))⟩
    have kB3 : Kept (Ag lo w2.heap.size w2 w3) := ⟨by rw [hw3]; exact hBw.out.below (by repeat (first | exact Below.refl _ _ | refine Below.later ?_ _ | refine Below.box ?_ _ | refine Below.drew ?_ | refine Below.put ?_ (by dsimp only; omega) _))⟩
    rw [← hw3]
    clear hw3 hR hBw
    by_cases h : cl < m
    · go_wp2_with (first | (go_at_call 39; refine use (cc.out _ kB3.out) ?_; intro pwd; refine Stop.out ?_))
      refine ⟨?_⟩
      obtain ⟨w4, hw4⟩ : ∃ w4, w4 = after w3 pwd := ⟨_, rfl⟩
      have kR4 : Kept (Cpy w w4 u5 (frees piv cl).length bf cf KL) := ⟨by rw [hw4]; exact kR3.out.keep (by repeat (first | exact Below.refl _ _ | refine Below.later ?_ _ | refine Below.box ?_ _ | refine Below.drew ?_ | refine Below.put ?_ (by dsimp only; omega) _))⟩
      have kB5 : Kept (Ag lo w2.heap.size w2 w4) := ⟨by rw [hw4]; exact kB3.out.below (by repeat (first | exact Below.refl _ _ | refine Below.later ?_ _ | refine Below.box ?_ _ | refine Below.drew ?_ | refine Below.put ?_ (by dsimp only; omega) _))⟩
      rw [← hw4]
      clear hw4 kR3 kB3
      have hmc : (madeCells #[Value.int .u64 0] m)[cl]? = some (.int .u64 0) := by simp [madeCells, h, Nat.mod_one]
      go_wp2
      clear hmc
      obtain ⟨V, hV⟩ : ∃ V, w4.heap.size = V := ⟨_, rfl⟩
      have hP0 : Kept (Pfx (w4.alloc (.cells ((madeCells #[.int .u64 0] m).setIfInBounds cl (.int .u64 1)) 22)) V 22 m (fun j => .int .u64 (kvf p f piv cl 0 j))) := ⟨by
        rw [← hV]
        exact unit_pfx w4 cl m _⟩
      have hBl0 : Kept (Below V w4 (w4.alloc (.cells ((madeCells #[.int .u64 0] m).setIfInBounds cl (.int .u64 1)) 22))) := ⟨by rw [← hV]; exact (by repeat (first | exact Below.refl _ _ | refine Below.later ?_ _ | refine Below.box ?_ _ | refine Below.drew ?_ | refine Below.put ?_ (by dsimp only; omega) _))⟩
      rw [hV]
      generalize w4.alloc (.cells ((madeCells #[.int .u64 0] m).setIfInBounds cl (.int .u64 1)) 22) = w5 at hP0 hBl0 ⊢
      go_loopw [10, 11] (fun vf v wr => ∃ (k : Nat) (b : Bool), v = .int .i64 (k : Int) ∧ vf = .bool b ∧ k ≤ np ∧ Kept (b = frB piv cl k) ∧ Kept (Pfx wr V 22 m (fun j => .int .u64 (kvf p f piv cl k j))) ∧ Kept (Below V w4 wr)) (fun _ v _ => ((np : Int) - intOf v).toNat)
      case atStart => exact ⟨0, true, rfl, rfl, by omega, ⟨rfl⟩, hP0, hBl0⟩
      case round =>
        clear hP0 hBl0
        obtain ⟨k, b, rfl, rfl, hk, hfb, hP, hBl⟩ := hrel
        obtain ⟨w1, rfl⟩ : ∃ x, x = wr := ⟨wr, rfl⟩
        have kB6 : Kept (Ag lo w2.heap.size w2 w1) := ⟨kB5.out.below (by rw [hV]; exact hBl.out)⟩
        by_cases h5 : k < np
        · obtain ⟨b1, e5, hb1, hc1⟩ := kpv.out w1 kB6.out k h5
          subst e5
          have hpl := kinc.out.lt k (by rw [knp.out]; exact h5)
          have hMx := kM.out w1 kB6.out
          have hcB := hMx.1.cell (show k < n by omega)
          have hlB := hMx.1.lt
          have hcE := (hMx.2 k (by omega)).cell h
          have hlb := (hMx.2 k (by omega)).lt
          have hfU : U (f k cl) := ⟨(kel.out k cl (by omega) h).1, by have := (kel.out k cl (by omega) h).2; omega⟩
          have cng : Kept (∀ w, Calls Try.prog 69 #[.int .u64 p, .int .u64 (f k cl)] w (Gives (.int .u64 (fneg p (f k cl))) w)) := ⟨fun w => rneg_c p (f k cl) w hfU⟩
          have kz : Kept (∀ j, kvf p f piv cl (k + 1) j = if j = piv.getD k 0 then fneg p (f k cl) else kvf p f piv cl k j) := ⟨fun j => rfl⟩
          have kfb : Kept (frB piv cl (k + 1) = (b && decide (piv.getD k 0 ≠ cl))) := ⟨by rw [frB, ← hfb.out]⟩
          generalize fneg p (f k cl) = ng at *
          generalize f k cl = fkc at *
          generalize piv.getD k 0 = pk at *
          have hVc := hP.out.cell hpl
          have hVf := hP.out.frozen pk
          have hVl := hP.out.lt
          clear hMx hfU hfb
          by_cases hpc : pk = cl
          · have hbne : (((pk : Nat) : Int) != (cl : Int)) = false := by simp [hpc]
            have kfb2 : Kept (false = frB piv cl (k + 1)) := ⟨by rw [kfb.out]; simp [hpc]⟩
            clear kfb hpc
            cases b
            · go_wp2
              first | refine region_tail1 (by kernel_rfl) (by kernel_rfl) (by kernel_rfl) ?_ | refine region_tail (by kernel_rfl) (by kernel_rfl) (by kernel_rfl) ?_
              simp only [initOf, lastOf]
              repeat (go_big_quiet_step (first | (go_at_call 69; with_reducible exact quiet (cng.out _))))
              refine wpQuiet_nil ?_
              intro _
              go_wp2
              go_roundw
              case rel => exact ⟨k + 1, false, by go_num, rfl, by omega, kfb2, ⟨((hP.out.of_block (w' := _) (Below.block (show Below w1.heap.size w1 _ from (by repeat (first | exact Below.refl _ _ | refine Below.later ?_ _ | refine Below.box ?_ _ | refine Below.drew ?_ | refine Below.put ?_ (by dsimp only; omega) _))) _ hP.out.lt)).set pk (.int .u64 ng)).congr fun j _ => by
                rw [kz.out]; by_cases e : j = pk <;> simp [e]⟩, ⟨by have hb2 := hBl.out; rw [← hV] at hb2 ⊢; exact Below.put (Below.later hb2 _) (Nat.le_refl _) _⟩⟩
              case measure => first | (simp [intOf]; omega) | (simp [intOf]; done)
            · go_wp2
              first | refine region_tail1 (by kernel_rfl) (by kernel_rfl) (by kernel_rfl) ?_ | refine region_tail (by kernel_rfl) (by kernel_rfl) (by kernel_rfl) ?_
              simp only [initOf, lastOf]
              repeat (go_big_quiet_step (first | (go_at_call 69; with_reducible exact quiet (cng.out _))))
              refine wpQuiet_nil ?_
              intro _
              go_wp2
              go_roundw
              case rel => exact ⟨k + 1, false, by go_num, rfl, by omega, kfb2, ⟨((hP.out.of_block (w' := _) (Below.block (show Below w1.heap.size w1 _ from (by repeat (first | exact Below.refl _ _ | refine Below.later ?_ _ | refine Below.box ?_ _ | refine Below.drew ?_ | refine Below.put ?_ (by dsimp only; omega) _))) _ hP.out.lt)).set pk (.int .u64 ng)).congr fun j _ => by
                rw [kz.out]; by_cases e : j = pk <;> simp [e]⟩, ⟨by have hb2 := hBl.out; rw [← hV] at hb2 ⊢; exact Below.put (Below.later hb2 _) (Nat.le_refl _) _⟩⟩
              case measure => first | (simp [intOf]; omega) | (simp [intOf]; done)
          · have hbne : (((pk : Nat) : Int) != (cl : Int)) = true := by simp; omega
            have kfb2 : Kept (b = frB piv cl (k + 1)) := ⟨by rw [kfb.out]; simp [hpc]⟩
            clear kfb hpc
            cases b
            · go_wp2
              first | refine region_tail1 (by kernel_rfl) (by kernel_rfl) (by kernel_rfl) ?_ | refine region_tail (by kernel_rfl) (by kernel_rfl) (by kernel_rfl) ?_
              simp only [initOf, lastOf]
              repeat (go_big_quiet_step (first | (go_at_call 69; with_reducible exact quiet (cng.out _))))
              refine wpQuiet_nil ?_
              intro _
              go_wp2
              go_roundw
              case rel => exact ⟨k + 1, false, by go_num, rfl, by omega, kfb2, ⟨((hP.out.of_block (w' := _) (Below.block (show Below w1.heap.size w1 _ from (by repeat (first | exact Below.refl _ _ | refine Below.later ?_ _ | refine Below.box ?_ _ | refine Below.drew ?_ | refine Below.put ?_ (by dsimp only; omega) _))) _ hP.out.lt)).set pk (.int .u64 ng)).congr fun j _ => by
                rw [kz.out]; by_cases e : j = pk <;> simp [e]⟩, ⟨by have hb2 := hBl.out; rw [← hV] at hb2 ⊢; exact Below.put (Below.later hb2 _) (Nat.le_refl _) _⟩⟩
              case measure => first | (simp [intOf]; omega) | (simp [intOf]; done)
            · go_wp2
              first | refine region_tail1 (by kernel_rfl) (by kernel_rfl) (by kernel_rfl) ?_ | refine region_tail (by kernel_rfl) (by kernel_rfl) (by kernel_rfl) ?_
              simp only [initOf, lastOf]
              repeat (go_big_quiet_step (first | (go_at_call 69; with_reducible exact quiet (cng.out _))))
              refine wpQuiet_nil ?_
              intro _
              go_wp2
              go_roundw
              case rel => exact ⟨k + 1, true, by go_num, rfl, by omega, kfb2, ⟨((hP.out.of_block (w' := _) (Below.block (show Below w1.heap.size w1 _ from (by repeat (first | exact Below.refl _ _ | refine Below.later ?_ _ | refine Below.box ?_ _ | refine Below.drew ?_ | refine Below.put ?_ (by dsimp only; omega) _))) _ hP.out.lt)).set pk (.int .u64 ng)).congr fun j _ => by
                rw [kz.out]; by_cases e : j = pk <;> simp [e]⟩, ⟨by have hb2 := hBl.out; rw [← hV] at hb2 ⊢; exact Below.put (Below.later hb2 _) (Nat.le_refl _) _⟩⟩
              case measure => first | (simp [intOf]; omega) | (simp [intOf]; done)
        · have hkn : k = np := by omega
          have hall : Kept (b = decide (cl ∉ piv)) := ⟨by rw [hfb.out, hkn, kall.out]⟩
          have kVl : Kept (V < w1.heap.size) := ⟨hP.out.lt⟩
          have kR5 : Kept (Cpy w w1 u5 (frees piv cl).length bf cf KL) := ⟨kR4.out.keep (by rw [hV]; exact hBl.out)⟩
          by_cases hmem : cl ∈ piv
          · obtain rfl : b = false := by rw [hall.out]; simp [hmem]
            have kR6 : Kept (Cpy w w1 u5 (frees piv (cl + 1)).length bf cf KL) := ⟨by rw [frees_next, if_pos hmem]; exact kR5.out⟩
            clear hP hall kR5 kR4 hkn hmem hfb
            go_wp2
            go_roundw
            case rel => exact ⟨cl + 1, _, _, by go_num, by omega, kR6, kB6, hOb⟩
            case measure => first | (simp [intOf]; omega) | (simp [intOf]; done)
          · obtain rfl : b = true := by rw [hall.out]; simp [hmem]
            have hgd : Kept (KL.getD (frees piv cl).length [] = (List.range m).map (kvf p f piv cl k)) := ⟨by rw [← kKL.out, kerL_at p m f piv cl h hmem, kerR, hkn, knp.out]⟩
            have kLs : Kept (Ls w1 (some ⟨V, 0, none⟩) ((List.range m).map (kvf p f piv cl k))) := ⟨hP.out.ls (by omega) (fun i _ => kvf_U p f piv cl k i)⟩
            have hap : Kept (u5.ownBlock ≠ some V) := ⟨fun e => by have := (kR4.out.own.lt _ e).2; omega⟩
            have hil := kfl.out cl (by omega)
            have kfn : Kept ((frees piv (cl + 1)).length = (frees piv cl).length + 1) := ⟨by rw [frees_next, if_neg hmem, List.length_append]; rfl⟩
            obtain ⟨i, hi⟩ : ∃ i, (frees piv cl).length = i := ⟨_, rfl⟩
            rw [hi] at hgd kR5 hil kfn
            clear hP hall hi kR4 hkn hmem hfb
            go_wp2_with (first | (at_builtin; refine wpList_pushC2 rfl _ _ rfl _ (kR5.out.keep (by repeat (first | exact Below.refl _ _ | refine Below.later ?_ _ | refine Below.box ?_ _ | refine Below.drew ?_ | refine Below.put ?_ (by dsimp only; omega) _))) rfl _ rfl V m m (by first | simp | (rw [World.cell?_alloc_new]; rfl)) (by rw [hgd.out]; simp) (by rw [hgd.out]; exact kLs.out.below (Nat.le_refl _) (by repeat (first | exact Below.refl _ _ | refine Below.later ?_ _ | refine Below.box ?_ _ | refine Below.drew ?_ | refine Below.put ?_ (by dsimp only; omega) _))) (fun _ => by have := kVl.out; simp; omega) hap.out (by omega) ?_; intro v5 w6 hR5 hke hsz hat; refine Stop.out ?_))
            refine ⟨?_⟩
            have kR6 := (⟨hR5⟩ : Kept _)
            have kBb : Kept (Below w1.heap.size w1 (w1.alloc (.cells #[.slice (some ⟨V, 0, none⟩) m m] 32))) := ⟨(by repeat (first | exact Below.refl _ _ | refine Below.later ?_ _ | refine Below.box ?_ _ | refine Below.drew ?_ | refine Below.put ?_ (by dsimp only; omega) _))⟩
            have kA6 : Kept (Ag lo w2.heap.size w2 w6) := ⟨⟨Nat.le_trans (kB6.out.below kBb.out).size hsz, fun k h1 h2 => by
              rw [hke k (Nat.lt_of_lt_of_le h2 (kB6.out.below kBb.out).size) (fun e => by have := hOb.out k e; omega)]
              exact (kB6.out.below kBb.out).block k h1 h2⟩⟩
            have kO6 : Kept (∀ g, v5.ownBlock = some g → g < lo ∨ w2.heap.size ≤ g) := ⟨fun g e => by
              rcases hat with e2 | e2
              · exact hOb.out g (by rw [← e2]; exact e)
              · rw [e2] at e; injection e with e
                have := (kB6.out.below kBb.out).size
                exact .inr (by omega)⟩
            clear hR5 kR5 hke hsz hat
            go_wp2
            go_roundw
            case rel => exact ⟨cl + 1, _, _, by go_num, by omega, by rw [kfn.out]; exact kR6, kA6, kO6⟩
            case measure => first | (simp [intOf]; omega) | (simp [intOf]; done)
    · have hin : cl = m := by omega
      have hlen : KL.length = (frees piv m).length := by rw [← kKL.out, kerL, List.length_map]
      have hD := kR3.out
      rw [hin, ← hlen] at hD
      obtain ⟨u', c', e, hMt, hz⟩ := hD.mt (by rw [hlen]; have := kfl.out m hm6; omega)
      have kM2 := (⟨hMt⟩ : Kept _)
      have kz := (⟨hz⟩ : Kept _)
      have kb : Kept (Below w.heap.size w w3) := ⟨kR3.out.below⟩
      subst e
      clear hD hMt hz hin kKL kR3
      go_wp2
      exact bodyPost_ret (v := .slice u' KL.length c') (by simp [results, Try.results34, go_sem]) rfl ⟨u', c', rfl, kM2.out, kz.out, kb.out⟩
end Go.Proofs.Ytjnlnbkdnjainaa
