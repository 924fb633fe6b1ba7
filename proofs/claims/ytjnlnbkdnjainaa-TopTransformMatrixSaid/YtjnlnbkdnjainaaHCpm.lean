/- moidorelaw05.cp: a copy of rows of any lengths. -/
import Derived.Test.YtjnlnbkdnjainaaQC
import Derived.Test.YtjnlnbkdnjainaaHLinE
namespace Go.Proofs.Ytjnlnbkdnjainaa
open Go.RowKit Go.Sort

set_option maxRecDepth 100000
structure Cpy (W w : World) (v : Value) (i : Nat) (bf cf : Nat → Nat) (ls : List (List Int)) : Prop where
  below : Below W.heap.size W w
  own : w.ownsRow W.heap.size 32 1 v i ((List.range i).map fun k => .slice (some ⟨bf k, 0, none⟩) (ls.getD k []).length (cf k))
  row : ∀ k, k < i → Ls w (some ⟨bf k, 0, none⟩) (ls.getD k [])
  lt : ∀ k, k < i → ls.getD k [] ≠ [] → bf k < w.heap.size ∧ v.ownBlock ≠ some (bf k)
theorem Cpy.keep {W w w' : World} {v : Value} {i : Nat} {bf cf : Nat → Nat} {ls : List (List Int)} (h : Cpy W w v i bf cf ls) (hb : Below w.heap.size w w') : Cpy W w' v i bf cf ls := by
  refine ⟨Below.next h.below hb, ⟨h.own.1, ?_⟩, fun k hk => (h.row k hk).below (Nat.le_refl _) hb, fun k hk hne => ⟨Nat.lt_of_lt_of_le (h.lt k hk hne).1 hb.size, (h.lt k hk hne).2⟩⟩
  rcases h.own.2 with e | ⟨g, cap, cur, e, hg, hc, rest⟩
  · exact .inl e
  · exact .inr ⟨g, cap, cur, e, hg, by rw [hb.block g (Array.getElem?_eq_some_iff.1 hc).1]; exact hc, rest⟩
theorem Cpy.mt {W w : World} {v : Value} {bf cf : Nat → Nat} {ls : List (List Int)} (h : Cpy W w v ls.length bf cf ls) (hs : (ls.length : Int) ≤ 9223372036854775807) : ∃ u c, v = .slice u ls.length c ∧ Mt w u ls ∧ (u = none → c = 0) := by
  have hG : Grown 32 W w v ls.length ((List.range ls.length).map fun k => .slice (some ⟨bf k, 0, none⟩) (ls.getD k []).length (cf k)) := ⟨h.below, h.own⟩
  obtain ⟨u, c, e, h1, h2, _⟩ := hG.form
  refine ⟨u, c, e, ⟨hs, fun hne => ?_⟩, fun e => (h1 e).2⟩
  cases u with
  | none => exact absurd (List.length_eq_zero_iff.1 (h1 rfl).1) hne
  | some a =>
    obtain ⟨b, rfl, _, hlt, hc⟩ := h2 a rfl
    refine ⟨b, 0, rfl, hlt, fun i l hl => ?_⟩
    have hi : i < ls.length := (List.getElem?_eq_some_iff.1 hl).1
    have hgd : ls.getD i [] = l := by rw [List.getD, hl]; rfl
    refine ⟨some ⟨bf i, 0, none⟩, cf i, ?_, by have := h.row i hi; rw [hgd] at this; exact this⟩
    rw [Nat.zero_add, hc i (.slice (some ⟨bf i, 0, none⟩) (ls.getD i []).length (cf i)) (by rw [List.getElem?_map, List.getElem?_range hi]; rfl), hgd]
theorem wpList_pushC {W w : World} {i : Nat} {bf cf : Nat → Nat} {ls : List (List Int)} {ops : Array Oper} {rest : List Oper} {o : Oper} {a : Act} {Q : Exit → Act → World → Prop} (hgd : o.guard = none) (s x : Operand)
    (ho : o.op = .call { callee := .builtin .append, args := #[s, x], argTypes := #[28, 28] }) (v : Value) (h0 : Cpy W w v i bf cf ls) (hs : a.eval s = v)
    (b : Nat) (hx : a.eval x = .slice (some ⟨b, 0, none⟩) 1 1) (rb cap n : Nat) (hc : w.cell? ⟨b, 0, none⟩ = some (.slice (some ⟨rb, 0, none⟩) n cap)) (hn : (ls.getD i []).length = n) (hrow : Ls w (some ⟨rb, 0, none⟩) (ls.getD i [])) (hrl : ls.getD i [] ≠ [] → rb < w.heap.size) (hap : v.ownBlock ≠ some rb) (hsmall : i ≤ 1048576)
    (h : ∀ v' w', Cpy W w' v' (i + 1) (fun k => if k = i then rb else bf k) (fun k => if k = i then cap else cf k) ls → wpList Try.prog ops Q rest (a.put o.dst v') w') : wpList Try.prog ops Q (o :: rest) a w := by
  obtain ⟨i0, hi, hii⟩ := Option.map_eq_some_iff.1 (show (Try.prog.info? 32).map (fun i => (i.zero, i.size, i.bytes)) = some (some (.slice none 0 0), 1, 24) from by kernel_rfl)
  simp only [Prod.mk.injEq] at hii
  obtain ⟨hz, hsz, hby⟩ := hii
  refine wpList_append_own_at w hgd s x 28 ho W.heap.size 32 i0 (.slice none 0 0) 1 24 Try.underlying28 hi hz hsz hby rfl (by decide) v i _ hs h0.own ⟨b, 0, none⟩ 1 1 [.slice (some ⟨rb, 0, none⟩) n cap] hx rfl ?_ ?_ (by simp only [maxLen]; omega) (by omega) h0.below.size ?_
  · intro j u hj
    match j, hj with
    | 0, hj => simp at hj; subst hj; rw [Addr.add_lit]; exact hc
    | j + 1, hj => simp at hj
  · intro u hu; rw [List.mem_singleton] at hu; subst hu; rfl
  · intro v' w' hown' hgr _ hat
    have hkeep : ∀ k, k < w.heap.size → v.ownBlock ≠ some k → w'.heap[k]? = w.heap[k]? := fun k hk hne => hgr.block k hk (fun e => hne e.symm)
    have hne' : ∀ k, k < w.heap.size → v.ownBlock ≠ some k → v'.ownBlock ≠ some k := fun k hk hne e => by
      rcases hat with e2 | e2
      · rw [e2] at e; exact hne e
      · rw [e2] at e; injection e with e; omega
    have hls : ∀ k l, k < w.heap.size → v.ownBlock ≠ some k → Ls w (some ⟨k, 0, none⟩) l → Ls w' (some ⟨k, 0, none⟩) l := fun k l hk hne hl =>
      ⟨hl.small, hl.all, fun hnl => by
        obtain ⟨b', o', e, hlt, hcc⟩ := hl.mem hnl
        injection e with e; injection e with e1 e2; subst e1 e2
        exact ⟨k, 0, rfl, Nat.lt_of_lt_of_le hlt hgr.size, fun i x hx => by rw [World.cell?_of_block (w := w) (a := ⟨k, 0 + i, none⟩) (hkeep k hk hne)]; exact hcc i x hx⟩⟩
    refine h v' w' ⟨Below.grown h0.below hgr h0.below.size (fun k hk => (h0.own.lt k hk).1), ?_, fun k hk => ?_, fun k hk hnn => ?_⟩
    · have er : ((List.range (i + 1)).map fun k => Value.slice (some ⟨if k = i then rb else bf k, 0, none⟩) (ls.getD k []).length (if k = i then cap else cf k)) = ((List.range i).map fun k => Value.slice (some ⟨bf k, 0, none⟩) (ls.getD k []).length (cf k)) ++ [.slice (some ⟨rb, 0, none⟩) n cap] := by
        rw [List.range_succ, List.map_append]
        congr 1
        · refine List.map_congr_left fun k hk => ?_
          have := List.mem_range.1 hk
          rw [if_neg (by omega), if_neg (by omega)]
        · simp only [List.map_cons, List.map_nil, if_true, hn]
      rw [er]; exact hown'
    · by_cases e : k = i
      · simp only [e, if_true]
        by_cases hnn : ls.getD i [] = []
        · rw [hnn]; exact Ls.nil _ _
        · exact hls rb _ (hrl hnn) hap hrow
      · simp only [if_neg e]
        by_cases hnn : ls.getD k [] = []
        · rw [hnn]; exact Ls.nil _ _
        · exact hls _ _ (h0.lt k (by omega) hnn).1 (h0.lt k (by omega) hnn).2 (h0.row k (by omega))
    · by_cases e : k = i
      · have hr := hrl (by rw [← e]; exact hnn)
        simp only [e, if_true]; exact ⟨Nat.lt_of_lt_of_le hr hgr.size, hne' rb hr hap⟩
      · simp only [if_neg e]
        have hr := h0.lt k (by omega) hnn
        exact ⟨Nat.lt_of_lt_of_le hr.1 hgr.size, hne' _ hr.1 hr.2⟩
def GivesC (ls : List (List Int)) (w : World) (e : Ending) (w' : World) : Prop := ∃ u c, e = .returned (.slice u ls.length c) ∧ Mt w' u ls ∧ (u = none → c = 0) ∧ Below w.heap.size w w'
theorem cp_c (u : Option Addr) (c : Nat) (ls : List (List Int)) (w : World) (h1 : Mt w u ls) (hn6 : ls.length ≤ 1000) (hrow : ∀ l ∈ ls, l.length ≤ 1000)
    (hcap : ∀ b o i v n c', u = some ⟨b, o, none⟩ → i < ls.length → w.cell? ⟨b, o + i, none⟩ = some (.slice v n c') → v = none → c' = 0) :
    Calls Try.prog 33 #[.slice u ls.length c] w (GivesC ls w) := by
  obtain ⟨n, hn⟩ : ∃ n, ls.length = n := ⟨_, rfl⟩
  have kn := (⟨hn⟩ : Kept _)
  have k1 := (⟨h1.get hn⟩ : Kept _)
  have kc := (⟨hcap⟩ : Kept _)
  have kr := (⟨hrow⟩ : Kept _)
  rw [hn] at hn6 ⊢
  clear h1 hn hcap hrow
  go_enter Try.func33, Try.ntmps33
  go_wp2
  go_loopw [3, 8] (fun vo v wr => ∃ (i : Nat) (bf cf : Nat → Nat), v = .int .i64 (i : Int) ∧ i ≤ n ∧ Kept (Cpy w wr vo i bf cf ls)) (fun _ v _ => ((n : Int) - intOf v).toNat)
  case atStart => exact ⟨0, fun _ => 0, fun _ => 0, rfl, by omega, ⟨⟨Below.refl _ _, World.ownsRow_nil _ _ _ _, fun k hk => absurd hk (by omega), fun k hk => absurd hk (by omega)⟩⟩⟩
  case round =>
    obtain ⟨i, bf, cf, rfl, hi, hR⟩ := hrel
    obtain ⟨w1, rfl⟩ : ∃ x, x = wr := ⟨wr, rfl⟩
    by_cases h : i < n
    · obtain ⟨b1, o1, l, v1, d1, rfl, hx1, hb1, hc1, hL1⟩ := k1.out i h
      have hB1 := hR.out.below
      have hc1' : w1.cell? ⟨b1, o1 + i, none⟩ = some (.slice v1 l.length d1) := by rw [hB1.cell (p := ⟨b1, o1 + i, none⟩) hb1]; exact hc1
      have hb1' : b1 < w1.heap.size := by have := hB1.size; omega
      have hz : Kept (v1 = none → d1 = 0) := ⟨kc.out b1 o1 i v1 l.length d1 rfl (by rw [kn.out]; exact h) hc1⟩
      have hl6 := kr.out l (List.mem_of_getElem? hx1)
      have hgd : Kept (ls.getD i [] = l) := ⟨by rw [List.getD, hx1]; rfl⟩
      have kL := (⟨hL1.below (Nat.le_refl _) hB1⟩ : Kept (Ls w1 v1 l))
      obtain ⟨nl, hnl⟩ : ∃ nl, l.length = nl := ⟨_, rfl⟩
      have knl := (⟨hnl⟩ : Kept _)
      rw [hnl] at hc1' hl6
      clear hx1 hc1 hL1 hB1 hb1 hnl
      go_wp2_with (first | (at_builtin; refine wpList_append_ls (W := w1) rfl _ _ rfl (by repeat (first | exact Below.refl _ _ | refine Below.later ?_ _ | refine Below.box ?_ _ | refine Below.drew ?_ | refine Below.put ?_ (by dsimp only; omega) _)) w1.heap.size (Nat.le_refl _) rfl (heap_alloc_new _ _) v1 l nl d1 knl.out rfl (kL.out.below (Nat.le_refl _) (by repeat (first | exact Below.refl _ _ | refine Below.later ?_ _ | refine Below.box ?_ _ | refine Below.drew ?_ | refine Below.put ?_ (by dsimp only; omega) _))) hz.out (by omega) ?_; intro b' cap w3 hBw hb hLs hkeep hsz; refine Stop.out ?_))
      refine ⟨?_⟩
      have kR3 : Kept (Cpy w w3 u3 i bf cf ls) := ⟨hR.out.keep hBw⟩
      have hap : Kept (u3.ownBlock ≠ some b') := ⟨fun e => by have := (hR.out.own.lt _ e).2; omega⟩
      have kLs := (⟨hLs⟩ : Kept _)
      have hbl : Kept (ls.getD i [] ≠ [] → b' < w3.heap.size) := ⟨fun hne => by
        rw [hgd.out] at hne
        obtain ⟨b2, o2, e2, hlt, _⟩ := hLs.mem hne
        injection e2 with e2; injection e2 with e2 _; subst e2; exact hlt⟩
      clear hkeep hsz hLs hBw hR hb hc1' hb1' kL
      go_wp2_with (first | (at_builtin; refine wpList_pushC rfl _ _ rfl _ (kR3.out.keep (by repeat (first | exact Below.refl _ _ | refine Below.later ?_ _ | refine Below.box ?_ _ | refine Below.drew ?_ | refine Below.put ?_ (by dsimp only; omega) _))) rfl _ rfl b' cap nl (by first | simp | (rw [World.cell?_alloc_new]; rfl)) (by rw [hgd.out, knl.out]) (by rw [hgd.out]; exact kLs.out.below (Nat.le_refl _) (by repeat (first | exact Below.refl _ _ | refine Below.later ?_ _ | refine Below.box ?_ _ | refine Below.drew ?_ | refine Below.put ?_ (by dsimp only; omega) _))) (fun hne => by have := hbl.out hne; simp; omega) hap.out (by omega) ?_; intro v5 w5 hR5; refine Stop.out ?_))
      refine ⟨?_⟩
      have kR5 := (⟨hR5⟩ : Kept _)
      clear hR5 kR3
      go_wp2
      go_roundw
      case rel => exact ⟨i + 1, _, _, by go_num, by omega, kR5⟩
      case measure => first | (simp [intOf]; omega) | (simp [intOf]; done)
    · have hin : i = ls.length := by rw [kn.out]; omega
      have hD := hR.out
      rw [hin] at hD
      obtain ⟨u', c', e, hMt, hz⟩ := hD.mt (by rw [kn.out]; omega)
      rw [kn.out] at e
      have kM := (⟨hMt⟩ : Kept _)
      have kz := (⟨hz⟩ : Kept _)
      have kb := (⟨hR.out.below⟩ : Kept _)
      subst e
      clear hR hD hMt hz hin k1
      go_wp2
      exact bodyPost_ret (v := .slice u' n c') (by simp [results, Try.results33, go_sem]) rfl ⟨u', c', by rw [kn.out], kM.out, kz.out, kb.out⟩
end Go.Proofs.Ytjnlnbkdnjainaa
