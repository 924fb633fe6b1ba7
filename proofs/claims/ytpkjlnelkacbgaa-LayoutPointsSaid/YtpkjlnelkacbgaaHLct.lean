/- layout.cut. -/
import Derived.Test.YtpkjlnelkacbgaaQM
import Derived.Laws.CopyOwn
import Derived.Laws.MakeOwn
import Derived.Test.YtpkjlnelkacbgaaQC
import Derived.Test.YtpkjlnelkacbgaaHTgt
namespace Go.Proofs.Ytpkjlnelkacbgaa
open Go.RowKit Go.Sort

set_option maxRecDepth 100000
theorem Ls.takeL {w : World} {u : Option Addr} {l : List Int} (h : Ls w u l) (n : Nat) : Ls w u (l.take n) :=
  ⟨by have := h.small; rw [List.length_take]; omega, fun x hx => h.all x (List.mem_of_mem_take hx), fun hne => by
    obtain ⟨b, o, e, hlt, hc⟩ := h.mem (fun e => by subst e; simp at hne)
    exact ⟨b, o, e, hlt, fun i x hx => by
      rw [List.getElem?_take] at hx
      split at hx
      · exact hc i x hx
      · cases hx⟩⟩
theorem madeCells_rep (z : Value) (n : Nat) : madeCells #[z] n = (List.replicate n z).toArray := by
  apply Array.ext
  · simp [madeCells]
  · intro i h1 h2
    simp [madeCells, Nat.mod_one]
/-- copy into a new row of zeros. -/
theorem wpList_copyL {wr : World} {ops : Array Oper} {rest : List Oper} {o : Oper} {a : Act} {Q : Exit → Act → World → Prop} (hgd : o.guard = none) (d s : Operand)
    (ho : o.op = .call { callee := .builtin .copy, args := #[d, s], argTypes := #[43, 43] }) (b n1 c' k1 : Nat) (u' : Option Addr) (l : List Int) (hn : l.length = n1) (hl : Ls wr u' l) (hk : Nat.min n1 b = k1)
    (hd : a.eval d = .slice (some ⟨wr.heap.size, 0, none⟩) b b) (hs : a.eval s = .slice u' n1 c')
    (h : ∀ w', Below wr.heap.size wr w' → w'.rowIs wr.heap.size 22 b (fun j => .int .u64 (l.getD j 0)) → wpList Try.prog ops Q rest (a.put o.dst (.int .i64 (k1 : Int))) w') :
    wpList Try.prog ops Q (o :: rest) a (wr.alloc (.cells (madeCells #[.int .u64 0] b) 22)) := by
  have hcl : ((l.take b).map fun z => Value.int .u64 z).length = k1 := by rw [List.length_map, List.length_take, hn, ← hk, Nat.min_comm]
  have hk2 : k1 ≤ b ∧ k1 ≤ n1 := by rw [← hk]; exact ⟨Nat.min_le_right _ _, Nat.min_le_left _ _⟩
  have hk3 : k1 = n1 ∨ k1 = b := by have : min n1 b = k1 := hk; omega
  refine wpList_copy_splice hgd d s 43 43 ho 22 Try.underlying43 (by kernel_rfl) _ _ b b n1 c' hd hs wr.heap.size 0 (List.replicate b (.int .u64 0)) 22
    (by rw [← madeCells_rep]; exact Go.Deep.blk_alloc_new _ _) ((l.take b).map fun z => Value.int .u64 z) (by rw [hcl, ← hk]) (fun hpos => ⟨rfl, ?_⟩) (by rw [hcl]; simp; omega) (fun v hv => ?_) wr.heap.size wr ((Below.refl _ wr).alloc (Nat.le_refl _) _) (Nat.le_refl _) (fun w' hH hB => ?_)
  · obtain ⟨bu, ou, e, hlt, hc⟩ := hl.mem (fun e => by subst e; simp at hpos)
    refine ⟨⟨bu, ou, none⟩, e, fun j v hv => ?_⟩
    rw [List.getElem?_map, List.getElem?_take] at hv
    split at hv
    · cases hlj : l[j]? with
      | none => rw [hlj] at hv; cases hv
      | some z =>
        rw [hlj] at hv; injection hv with hv; subst hv
        rw [Addr.add_lit, World.cell?_alloc_lt _ _ _ hlt]
        exact hc j z hlj
    · cases hv
  · obtain ⟨z, _, e⟩ := List.mem_map.1 hv
    subst e; rfl
  · rw [hcl]
    refine h w' hB ⟨_, hH, ?_, fun i hi => ?_⟩
    · simp [splice]; omega
    · simp only [List.getElem?_toArray, splice, List.take_zero, List.nil_append, Nat.zero_add]
      rw [hcl]
      by_cases hik : i < k1
      · rw [List.getElem?_append_left (by rw [hcl]; exact hik), List.getElem?_map, List.getElem?_take, if_pos hi]
        have hli : l[i]? = some l[i] := List.getElem?_eq_getElem (by omega)
        rw [List.getD, hli]; rfl
      · rw [List.getElem?_append_right (by rw [hcl]; omega), hcl, List.getElem?_drop, List.getElem?_replicate, if_pos (by omega), List.getD, List.getElem?_eq_none (by omega)]; rfl
theorem Mat.made (W : World) (c : Nat) (hc : c ≤ 1000000) : Mat W (W.alloc (.cells (madeCells #[.slice none 0 0] c) 43)) (.slice (some ⟨W.heap.size, 0, none⟩) 0 c) [] [] := by
  obtain ⟨i, hi, hii⟩ := Option.map_eq_some_iff.1 (show (Try.prog.info? 43).map (fun i => (i.zero, i.size, i.bytes)) = some (some (.slice none 0 0), 1, 24) from by kernel_rfl)
  simp only [Prod.mk.injEq] at hii
  obtain ⟨hz, hsz, hby⟩ := hii
  obtain ⟨w', h1, h2, _⟩ := run_make_own W W.heap.size 49 43 i (.slice none 0 0) 1 Try.underlying49 hi hz hsz .i64 .i64 c (by rw [hby]; omega) (by simp only [maxLen]; omega) (Nat.le_refl _)
  have h3 := run_make W 49 43 i (.slice none 0 0) Try.underlying49 hi hz .i64 .i64 0 (c : Int) (by omega) (by omega) (by rw [hby]; omega) (by omega)
  rw [h1, hsz] at h3
  injection h3 with _ h3
  rw [Nat.mul_one, Int.toNat_natCast] at h3
  rw [h3] at h2
  exact ⟨⟨(Below.refl _ W).alloc (Nat.le_refl _) _, h2⟩, rfl, fun i b l h => by simp at h, fun b h => by simp at h, List.nodup_nil, fun l h => by simp at h⟩
theorem run_make_rows (c : Nat) (hc : c ≤ 1000000) (w : World) : (Instr.makeSlice 49 (.int .i64 0) (.int .i64 (c : Int))).run Try.prog w = .ok (.slice (some ⟨w.heap.size, 0, none⟩) 0 c) (w.alloc (.cells (madeCells #[.slice none 0 0] c) 43)) := by
  obtain ⟨i, hi, hii⟩ := Option.map_eq_some_iff.1 (show (Try.prog.info? 43).map (fun i => (i.zero, i.size, i.bytes)) = some (some (.slice none 0 0), 1, 24) from by kernel_rfl)
  simp only [Prod.mk.injEq] at hii
  obtain ⟨hz, hsz, hby⟩ := hii
  have h3 := run_make w 49 43 i (.slice none 0 0) Try.underlying49 hi hz .i64 .i64 0 (c : Int) (by omega) (by omega) (by rw [hby]; omega) (by omega)
  rw [hsz, Nat.mul_one, Int.toNat_natCast] at h3
  exact h3
@[go_sem] theorem vidx_0 (x y z t : Value) (w : World) : (Instr.index 84 (.agg #[x, y, z, t]) (.int .i64 0)).run Try.prog w = .ok x w := by kernel_rfl
@[go_sem] theorem vidx_1 (x y z t : Value) (w : World) : (Instr.index 84 (.agg #[x, y, z, t]) (.int .i64 1)).run Try.prog w = .ok y w := by kernel_rfl
@[go_sem] theorem vidx_2 (x y z t : Value) (w : World) : (Instr.index 84 (.agg #[x, y, z, t]) (.int .i64 2)).run Try.prog w = .ok z w := by kernel_rfl
@[go_sem] theorem vidx_3 (x y z t : Value) (w : World) : (Instr.index 84 (.agg #[x, y, z, t]) (.int .i64 3)).run Try.prog w = .ok t w := by kernel_rfl
theorem vidx_c (i : Nat) (hi : i < 4) (f : Nat → Value) (w : World) : (Instr.index 84 (.agg #[f 0, f 1, f 2, f 3]) (.int .i64 (i : Int))).run Try.prog w = .ok (f i) w := by
  match i, hi with
  | 0, _ => exact vidx_0 _ _ _ _ _
  | 1, _ => exact vidx_1 _ _ _ _ _
  | 2, _ => exact vidx_2 _ _ _ _ _
  | 3, _ => exact vidx_3 _ _ _ _ _
def upl (b n : Nat) : Nat := (n + b - 1) / b
def slLen : Value → Nat
  | .slice _ n _ => n
  | _ => 0
theorem upl_eq {b n kk : Nat} (h1 : kk * b < n + b) (h2 : n ≤ kk * b) : kk = upl b n := by
  unfold upl
  refine (Nat.div_eq_of_lt_le ?_ ?_).symm
  · omega
  · rw [Nat.add_mul, Nat.one_mul]; omega
theorem upl_le {b n M : Nat} (hb : 1 ≤ b) (h : n ≤ M) : upl b n ≤ M := by
  unfold upl
  rcases Nat.eq_zero_or_pos n with h0 | h0
  · subst h0; rw [Nat.zero_add, Nat.div_eq_of_lt (by omega)]; omega
  · refine Nat.le_trans (Nat.div_le_of_le_mul ?_) h
    have : n * b ≥ n + b - 1 := by
      have h1 : (n - 1) * (b - 1) ≥ 0 := Nat.zero_le _
      obtain ⟨n', rfl⟩ : ∃ n', n = n' + 1 := ⟨n - 1, by omega⟩
      obtain ⟨b', rfl⟩ : ∃ b', b = b' + 1 := ⟨b - 1, by omega⟩
      rw [Nat.add_mul, Nat.mul_add]; omega
    rw [Nat.mul_comm] at this; exact this

set_option maxHeartbeats 8000000 in
theorem lcut_c (b : Nat) (uf : Nat → Option Addr) (cf : Nat → Nat) (lf : Nat → List Int) (p q k n s r : Int) (P0 P1 P2 P3 : Nat) (w : World) (hb : 1 ≤ b ∧ b ≤ 256) (hP : P0 ≤ 70000 ∧ P1 ≤ 70000 ∧ P2 ≤ 70000 ∧ P3 ≤ 70000) (hlen : ∀ i, (lf i).length ≤ 70000)
    (hcf : ∀ i, i < 4 → (uf i = none → cf i = 0) ∧ (lf i).length ≤ cf i) (hL : ∀ i, i < 4 → Ls w (uf i) (lf i)) :
    Calls Try.prog 41 #[.agg #[.int .u64 p, .int .i64 (b : Int), .int .i64 q, .int .i64 k, .int .i64 n, .int .i64 s, .int .i64 r, .int .i64 (P0 : Nat), .int .i64 (P1 : Nat), .int .i64 (P2 : Nat), .int .i64 (P3 : Nat)],
      .agg #[.slice (uf 0) (lf 0).length (cf 0), .slice (uf 1) (lf 1).length (cf 1), .slice (uf 2) (lf 2).length (cf 2), .slice (uf 3) (lf 3).length (cf 3)]] w (GivesMat (cuts b (fun i => upl b (lf i).length) lf 4) w) := by
  obtain ⟨pf, hpf⟩ : ∃ pf : Nat → Nat, ∀ i, upl b (lf i).length = pf i := ⟨_, fun _ => rfl⟩
  rw [show (fun i => upl b (lf i).length) = pf from funext hpf]
  have kp : Kept (∀ i, upl b (lf i).length = pf i ∧ pf i ≤ 70000) := ⟨fun i => ⟨hpf i, by rw [← hpf]; exact upl_le hb.1 (hlen i)⟩⟩
  have kL : Kept (∀ i, i < 4 → Ls w (uf i) (lf i)) := ⟨hL⟩
  have kc : Kept (∀ i, i < 4 → (uf i = none → cf i = 0) ∧ (lf i).length ≤ cf i) := ⟨hcf⟩
  obtain ⟨nf, hnf⟩ : ∃ nf : Nat → Nat, ∀ i, (lf i).length = nf i := ⟨_, fun _ => rfl⟩
  obtain ⟨sf, hsf⟩ : ∃ sf : Nat → Value, ∀ i : Nat, Value.slice (uf i) (nf i) (cf i) = sf i := ⟨_, fun _ => rfl⟩
  have hs0 := hsf 0
  have hs1 := hsf 1
  have hs2 := hsf 2
  have hs3 := hsf 3
  rw [hnf, hnf, hnf, hnf]
  have kn : Kept (∀ i, (lf i).length = nf i) := ⟨hnf⟩
  have ks : Kept (∀ i, sf i = Value.slice (uf i) (nf i) (cf i)) := ⟨fun i => (hsf i).symm⟩
  have kh : Kept (∀ i, nf i ≤ 70000) := ⟨fun i => by rw [← hnf]; exact hlen i⟩
  have hidx : Kept (∀ i : Nat, i < 4 → ∀ w, (Instr.index 84 (.agg #[.slice (uf 0) (nf 0) (cf 0), .slice (uf 1) (nf 1) (cf 1), .slice (uf 2) (nf 2) (cf 2), .slice (uf 3) (nf 3) (cf 3)]) (.int .i64 (i : Int))).run Try.prog w = .ok (sf i) w) := ⟨fun i hi w => by
    rw [hs0, hs1, hs2, hs3]; exact vidx_c i hi sf w⟩
  obtain ⟨T, hT⟩ : ∃ T, P0 + P1 + P2 + P3 = T := ⟨_, rfl⟩
  have hT6 : T ≤ 280000 := by omega
  have ct : Kept (∀ w', Calls Try.prog 15 #[.agg #[.int .u64 p, .int .i64 (b : Int), .int .i64 q, .int .i64 k, .int .i64 n, .int .i64 s, .int .i64 r, .int .i64 (P0 : Nat), .int .i64 (P1 : Nat), .int .i64 (P2 : Nat), .int .i64 (P3 : Nat)]] w' (Gives (.int .i64 (T : Int)) w')) := ⟨fun w' => by
    have := total_c p b q k n s r P0 P1 P2 P3 w' (by omega) (by omega) (by omega) (by omega)
    rw [show (P0 : Int) + (P1 : Int) + (P2 : Int) + (P3 : Int) = (T : Int) by omega] at this
    exact this⟩
  have hmr := run_make_rows T (by omega)
  have hmk := run_make_row' (P := Try.prog) 43 22 (.int .u64 0) 8 Try.underlying43 (by kernel_rfl) rfl .i64 .i64 b (by omega) (by omega)
  clear hL hcf hpf hnf hsf hs0 hs1 hs2 hs3 hlen
  go_enter Try.func41, Try.ntmps41
  go_wp2_with (first | (go_at_call 15; refine Stop.out ?_))
  refine ⟨?_⟩
  refine call_gen (fun W' => Below w.heap.size w W' ∧ W'.cell? ⟨w.heap.size, 1, none⟩ = some (.int .i64 (b : Int)) ∧ W'.cell? ⟨w.heap.size + 1, 0, none⟩ = some (.slice (uf 0) (nf 0) (cf 0)) ∧ W'.cell? ⟨w.heap.size + 1, 1, none⟩ = some (.slice (uf 1) (nf 1) (cf 1)) ∧ W'.cell? ⟨w.heap.size + 1, 2, none⟩ = some (.slice (uf 2) (nf 2) (cf 2)) ∧ W'.cell? ⟨w.heap.size + 1, 3, none⟩ = some (.slice (uf 3) (nf 3) (cf 3)) ∧ w.heap.size + 1 < W'.heap.size) ?fx ?_
  case fx => exact ⟨(by repeat (first | exact Below.refl _ _ | refine Below.later ?_ _ | refine Below.box ?_ _ | refine Below.drew ?_ | refine Below.put ?_ (by dsimp only; omega) _)), by simp [go_sem], by simp [go_sem], by simp [go_sem], by simp [go_sem], by simp [go_sem], by simp⟩
  rintro W0 ⟨hB0, g1, v0, v1, v2, v3, hlt⟩
  refine use (ct.out W0) ?_
  intro pt
  obtain ⟨W1, hW1⟩ : ∃ W1, W1 = after W0 pt := ⟨_, rfl⟩
  have hB1 : Kept (Below w.heap.size w W1) := ⟨by rw [hW1]; exact Below.later hB0 _⟩
  have hlt1 : w.heap.size + 1 < W1.heap.size := by rw [hW1, after_size]; omega
  have hlt0 : w.heap.size < W1.heap.size := by omega
  have hl0 : w.heap.size < W0.heap.size := by omega
  have g1' : W1.cell? ⟨w.heap.size, 1, none⟩ = some (.int .i64 (b : Int)) := by rw [hW1, after_cell _ _ _ _ hl0]; exact g1
  have v0' : W1.cell? ⟨w.heap.size + 1, 0, none⟩ = some (.slice (uf 0) (nf 0) (cf 0)) := by rw [hW1, after_cell _ _ _ _ hlt]; exact v0
  have v1' : W1.cell? ⟨w.heap.size + 1, 1, none⟩ = some (.slice (uf 1) (nf 1) (cf 1)) := by rw [hW1, after_cell _ _ _ _ hlt]; exact v1
  have v2' : W1.cell? ⟨w.heap.size + 1, 2, none⟩ = some (.slice (uf 2) (nf 2) (cf 2)) := by rw [hW1, after_cell _ _ _ _ hlt]; exact v2
  have v3' : W1.cell? ⟨w.heap.size + 1, 3, none⟩ = some (.slice (uf 3) (nf 3) (cf 3)) := by rw [hW1, after_cell _ _ _ _ hlt]; exact v3
  have kg : Kept (∀ w', Below W1.heap.size W1 w' → w'.cell? ⟨w.heap.size, 1, none⟩ = some (.int .i64 (b : Int))) := ⟨fun w' hw => by rw [hw.cell (p := ⟨w.heap.size, 1, none⟩) hlt0]; exact g1'⟩
  rw [← hW1]
  clear g1 v0 v1 v2 v3 hlt hW1 ct hB0 hl0 hT g1'
  go_wp2
  clear v0' v1' v2' v3'
  go_loopw [5, 13] (fun vo vi wr => ∃ (i : Nat) (bs : List Nat), vi = .int .i64 (i : Int) ∧ i ≤ 4 ∧ Kept (Mat W1 wr vo bs (cuts b pf lf i))) (fun _ vi _ => (4 - intOf vi).toNat)
  case atStart => exact ⟨0, [], rfl, by omega, ⟨Mat.made W1 T (by omega)⟩⟩
  case round =>
    obtain ⟨i, bs, rfl, hi, hM⟩ := hrel
    obtain ⟨w0, rfl⟩ : ∃ x, x = wr := ⟨wr, rfl⟩
    by_cases h : i < 4
    · have hi2 : (i : Int) < 4 := by omega
      have hix := hidx.out i h
      go_wp2
      go_loopw [5, 7] (fun vo v wr => ∃ (kk : Nat) (bs : List Nat) (u' : Option Addr) (c' : Nat), v = .slice u' (nf i - kk * b) c' ∧ Kept (kk * b < nf i + b) ∧ Kept (Ls w u' ((lf i).drop (kk * b)) ∧ (u' = none → c' = 0) ∧ nf i - kk * b ≤ c') ∧ Kept (Mat W1 wr vo bs (cuts b pf lf i ++ cutL b kk (lf i)))) (fun _ v _ => slLen v)
      case atStart => exact ⟨0, bs, uf i, cf i, by rw [ks.out]; simp, ⟨by omega⟩, ⟨by rw [Nat.zero_mul, List.drop_zero]; exact kL.out i h, (kc.out i h).1, by have := (kc.out i h).2; rw [kn.out] at this; omega⟩, ⟨by simp only [cutL, List.range_zero, List.map_nil, List.append_nil]; exact hM.out⟩⟩
      case round =>
        clear hM hix
        obtain ⟨kk, bs2, u', c', rfl, hkb, hLu, hM⟩ := hrel
        obtain ⟨w1, rfl⟩ : ∃ x, x = wr := ⟨wr, rfl⟩
        obtain ⟨n1, hn1⟩ : ∃ n1, nf i - kk * b = n1 := ⟨_, rfl⟩
        rw [hn1] at hLu
        rw [hn1]
        have hn16 : n1 ≤ 70000 := by have := kh.out i; omega
        have hc1 := hLu.out.2.2
        have fb := kg.out w1 hM.out.grown.below
        have hlw : w.heap.size < w1.heap.size := by have := hM.out.grown.below.size; omega
        by_cases h2 : 0 < n1
        · have hll : ((lf i).drop (kk * b)).length = n1 := by rw [List.length_drop, kn.out]; exact hn1
          obtain ⟨bu, ou, rfl, hlu, _⟩ := hLu.out.1.mem (fun e => by rw [e] at hll; simp at hll; omega)
          obtain ⟨k1, hk1⟩ : ∃ k1, Nat.min n1 b = k1 := ⟨_, rfl⟩
          have hk1a : k1 ≤ n1 ∧ 0 < k1 := by have : min n1 b = k1 := hk1; omega
          have hk1b : (k1 : Int) ≤ (n1 : Int) := by omega
          have hk1c : (n1 : Int) ≤ (c' : Int) := by omega
          have hLw : Kept (Ls w1 (some ⟨bu, ou, none⟩) ((lf i).drop (kk * b))) := ⟨hLu.out.1.below (Nat.le_refl _) (Below.next hB1.out hM.out.grown.below)⟩
          have hdr : Kept ((lf i).drop ((kk + 1) * b) = ((lf i).drop (kk * b)).drop k1) := ⟨by
            rw [List.drop_drop, Nat.add_mul, Nat.one_mul]
            have : min n1 b = k1 := hk1
            by_cases e : k1 = b
            · rw [e]
            · rw [List.drop_eq_nil_of_le (by rw [kn.out]; omega), List.drop_eq_nil_of_le (by rw [kn.out]; omega)]⟩
          have hkn : Kept (nf i - (kk + 1) * b = n1 - k1) := ⟨by
            rw [Nat.add_mul, Nat.one_mul]
            have : min n1 b = k1 := hk1
            omega⟩
          have hkb2 : Kept ((kk + 1) * b < nf i + b) := ⟨by rw [Nat.add_mul, Nat.one_mul]; omega⟩
          have hge : Kept (W1.heap.size ≤ w1.heap.size) := ⟨hM.out.grown.below.size⟩
          have hpb : Kept (w1.heap.size ∉ bs2) := ⟨fun hm => by have := (hM.out.ge _ hm).2.2; omega⟩
          have hpv : Kept (u5.ownBlock ≠ some w1.heap.size) := ⟨fun e => by have := (hM.out.grown.own.lt _ e).2; omega⟩
          have hUc : Kept (∀ x ∈ chunk b (lf i) kk, U x) := ⟨chunk_U (kL.out i h).all⟩
          have hcl : Kept ((cuts b pf lf i ++ cutL b kk (lf i)).length ≤ 1048576) := ⟨by
            have h5 := cuts_len (b := b) (lf := lf) (fun i => (kp.out i).2) i
            rw [List.length_append, cutL_len]
            have h6 : i * 70000 ≤ 4 * 70000 := Nat.mul_le_mul_right _ hi
            have h7 : kk * 1 ≤ kk * b := Nat.mul_le_mul_left _ hb.1
            have h8 := kh.out i
            have h9 := hkb.out
            omega⟩
          have hLk : Kept (Ls w (some ⟨bu, ou + k1, none⟩) ((lf i).drop ((kk + 1) * b))) := ⟨by rw [hdr.out]; exact hLu.out.1.drop k1⟩
          have hL0 : Kept (c' - k1 = 0 → Ls w (some ⟨bu, ou, none⟩) ((lf i).drop ((kk + 1) * b))) := ⟨fun e => by rw [hdr.out, List.drop_eq_nil_of_le (by rw [hll]; omega)]; exact Ls.nil _ _⟩
          have hll' := (⟨hll⟩ : Kept _)
          have hk1' := (⟨hk1⟩ : Kept _)
          clear hkb hLu hn1 hll hk1
          go_wp2_with (first | (with_reducible refine wpList_copyL rfl _ _ rfl b n1 c' k1 (some ⟨bu, ou, none⟩) ((lf i).drop (kk * b)) hll'.out hLw.out hk1'.out (by with_unfolding_all rfl) (by with_unfolding_all rfl) ?_; intro w3 hB3 hro3; refine Stop.out ?_))
          refine ⟨?_⟩
          have hB3 : Kept (Below w1.heap.size w1 w3) := ⟨hB3⟩
          have hro : Kept (w3.rowIs w1.heap.size 22 b (fun j => .int .u64 ((chunk b (lf i) kk).getD j 0))) := ⟨hro3.congr fun j hj => by
            rw [chunk_at b (lf i) kk j hj, List.getD, List.getD, List.getElem?_drop]⟩
          clear hro3 hLw
          by_cases hcap : c' - k1 = 0
          · have hcap' : (c' - k1 == 0) = true := by simp; omega
            have hL0' := (⟨hL0.out hcap⟩ : Kept _)
            go_wp2_with (first | (at_builtin; refine wpList_pushRow (W := W1) rfl _ _ rfl _ bs2 _ ((hM.out.keep hB3.out).box _) rfl w1.heap.size b (chunk b (lf i) kk) (chunk_len _ _ _) (hro.out.alloc _) hge.out hpb.out hpv.out hUc.out _ rfl (by first | simp | (rw [World.cell?_alloc_new]; rfl)) hcl.out ?_; intro v2 w4 hM2; refine Stop.out ?_))
            have hM3 : Kept (Mat W1 w4 v2 (bs2 ++ [w1.heap.size]) (cuts b pf lf i ++ cutL b (kk + 1) (lf i))) := ⟨by rw [cutL_next, ← List.append_assoc]; exact hM2⟩
            clear hM2
            refine ⟨?_⟩
            go_wp2
            go_roundw
            case rel => exact ⟨kk + 1, bs2 ++ [w1.heap.size], some ⟨bu, ou, none⟩, 0, by rw [hkn.out], hkb2, ⟨hL0'.out, fun e => (by cases e), by rw [hkn.out]; omega⟩, hM3⟩
            case measure => first | (simp [slLen]; omega) | (simp [slLen]; done)
          · have hcap' : (c' - k1 == 0) = false := by simp; omega
            go_wp2_with (first | (at_builtin; refine wpList_pushRow (W := W1) rfl _ _ rfl _ bs2 _ ((hM.out.keep hB3.out).box _) rfl w1.heap.size b (chunk b (lf i) kk) (chunk_len _ _ _) (hro.out.alloc _) hge.out hpb.out hpv.out hUc.out _ rfl (by first | simp | (rw [World.cell?_alloc_new]; rfl)) hcl.out ?_; intro v2 w4 hM2; refine Stop.out ?_))
            have hM3 : Kept (Mat W1 w4 v2 (bs2 ++ [w1.heap.size]) (cuts b pf lf i ++ cutL b (kk + 1) (lf i))) := ⟨by rw [cutL_next, ← List.append_assoc]; exact hM2⟩
            clear hM2
            refine ⟨?_⟩
            go_wp2
            go_roundw
            case rel => exact ⟨kk + 1, bs2 ++ [w1.heap.size], some ⟨bu, ou + k1, none⟩, c' - k1, by rw [hkn.out], hkb2, ⟨hLk.out, fun e => (by cases e), by rw [hkn.out]; omega⟩, hM3⟩
            case measure => first | (simp [slLen]; omega) | (simp [slLen]; done)
        · have hn0 : n1 = 0 := by omega
          have hkk : kk = pf i := by rw [← (kp.out i).1, kn.out]; exact upl_eq hkb.out (by omega)
          have hM3 : Kept (Mat W1 w1 u5 bs2 (cuts b pf lf (i + 1))) := ⟨by rw [cuts, ← hkk]; exact hM.out⟩
          clear hM hkk hn1 hkb hLu h2
          subst hn0
          go_wp2
          go_roundw
          case rel => exact ⟨i + 1, bs2, by go_num, by omega, hM3⟩
          case measure => first | (simp [intOf]; omega) | (simp [intOf]; done)
    · have hi4 : i = 4 := by omega
      subst hi4
      go_wp2
      go_ret
      exact ⟨_, bs, rfl, hM.out.base hB1.out⟩
end Go.Proofs.Ytpkjlnelkacbgaa
