/- Lemmas of several texts in one file: Tab, TabV, TabR, TabS. -/
import Derived.Test.YtpkjlnelkacbgaaQC
import Derived.Test.YtpkjlnelkacbgaaQB
/- Tables in memory: terms, rows; what is valid. -/
namespace Go.Proofs.Ytpkjlnelkacbgaa
open Go.RowKit Go.Sort

def I (n : Int) : Prop := -9223372036854775808 ≤ n ∧ n ≤ 9223372036854775807

/-- At u there lie these terms. -/
structure Tm (w : World) (u : Option Addr) (l : List (Int × Int)) : Prop where
  small : (l.length : Int) ≤ 9223372036854775807
  all : ∀ x ∈ l, I x.1 ∧ U x.2
  mem : l ≠ [] → ∃ b o, u = some ⟨b, o, none⟩ ∧ b < w.heap.size ∧ ∀ (i : Nat) x, l[i]? = some x → w.cell? ⟨b, o + i * 2, none⟩ = some (.int .i64 x.1) ∧ w.cell? ⟨b, o + i * 2 + 1, none⟩ = some (.int .u64 x.2)
theorem Tm.below {w w' : World} {u : Option Addr} {l : List (Int × Int)} (h : Tm w u l) {B : Nat} (hB : w.heap.size ≤ B) (hb : Below B w w') : Tm w' u l :=
  ⟨h.small, h.all, fun hne => by
    obtain ⟨b, o, hu, hlt, hc⟩ := h.mem hne
    exact ⟨b, o, hu, Nat.lt_of_lt_of_le hlt hb.size, fun i x hx => by
      rw [hb.cell (p := ⟨b, o + i * 2, none⟩) (Nat.lt_of_lt_of_le hlt hB), hb.cell (p := ⟨b, o + i * 2 + 1, none⟩) (Nat.lt_of_lt_of_le hlt hB)]; exact hc i x hx⟩⟩
theorem Tm.later {w : World} {u : Option Addr} {l : List (Int × Int)} (h : Tm w u l) (p : Regrown) : Tm (after w p) u l := h.below (Nat.le_refl _) (after_below w p)
theorem Tm.box {w : World} {u : Option Addr} {l : List (Int × Int)} (h : Tm w u l) (o : Obj) : Tm (w.alloc o) u l := h.below (Nat.le_refl _) ((Below.refl _ w).alloc (Nat.le_refl _) o)
theorem Tm.get {w : World} {u : Option Addr} {l : List (Int × Int)} (h : Tm w u l) {n : Nat} (hn : l.length = n) : ∀ k, k < n → ∃ b o x y, u = some ⟨b, o, none⟩ ∧ l[k]? = some (x, y) ∧ b < w.heap.size ∧
    w.cell? ⟨b, o + k * 2, none⟩ = some (.int .i64 x) ∧ w.cell? ⟨b, o + k * 2 + 1, none⟩ = some (.int .u64 y) ∧ I x ∧ U y := fun k hk => by
  have hne : l ≠ [] := fun e => by subst e; simp at hn; omega
  obtain ⟨b, o, hu, hlt, hc⟩ := h.mem hne
  have hx : l[k]? = some l[k] := List.getElem?_eq_getElem (by omega)
  have ha := h.all _ (List.getElem_mem (l := l) (n := k) (by omega))
  exact ⟨b, o, l[k].1, l[k].2, hu, hx, hlt, (hc k _ hx).1, (hc k _ hx).2, ha.1, ha.2⟩

/-- Terms in ascending order of variables below n, coefficients not 0 and below p. -/
def linB (p n : Int) (last : Int) : List (Int × Int) → Bool
  | [] => true
  | x :: xs => !(decide (x.1 ≤ last)) && decide (x.1 < n) && !(x.2 == 0) && decide (x.2 < p) && linB p n x.1 xs

theorem drop_next {α : Type} {l : List α} {k : Nat} {x : α} (h : l[k]? = some x) : l.drop k = x :: l.drop (k + 1) := by
  obtain ⟨hk, hx⟩ := List.getElem?_eq_some_iff.1 h
  rw [List.drop_eq_getElem_cons hk, hx]

theorem validLinear_c (p q n : Int) (ur : Option Addr) (nr cr : Nat) (u : Option Addr) (c : Nat) (l : List (Int × Int)) (w : World) (h1 : Tm w u l) :
    Calls Try.prog 73 #[.agg #[.int .u64 p, .int .i64 q, .int .i64 n, .slice ur nr cr], .slice u l.length c] w (Gives (.bool (linB p n (-1) l)) w) := by
  obtain ⟨m, hm⟩ : ∃ m, l.length = m := ⟨_, rfl⟩
  have hs1 := h1.small
  have k1 := (⟨h1.get hm⟩ : Kept _)
  have e1 : Kept (l.length = m) := ⟨hm⟩
  rw [hm] at hs1 ⊢
  clear h1 hm
  go_enter Try.func73, Try.ntmps73
  go_wp2
  go_loopw [5, 10] (fun vs v wr => ∃ (last : Int) (k : Nat) (q0 : Regrown), vs = .int .i64 last ∧ v = .int .i64 (k : Int) ∧ wr = after (w.alloc (.cells #[.int .u64 p, .int .i64 q, .int .i64 n, .slice ur nr cr] 25)) q0 ∧ k ≤ m ∧ I last ∧ Kept (linB p n (-1) l = linB p n last (l.drop k))) (fun _ v _ => (m : Int).toNat - (intOf v).toNat)
  case atStart => exact ⟨-1, 0, ⟨_, #[]⟩, rfl, rfl, by rw [after_none], by omega, ⟨by omega, by omega⟩, ⟨by simp⟩⟩
  case round =>
    obtain ⟨last, k, q0, rfl, rfl, rfl, hk, hla, hI⟩ := hrel
    by_cases h : k < m
    · obtain ⟨b1, o1, x1, y1, rfl, hx1, hb1, hc1, hc2, hX, hU1⟩ := k1.out k h
      have hlx : Kept (linB p n last (l.drop k) = (!(decide (x1 ≤ last)) && decide (x1 < n) && !(y1 == 0) && decide (y1 < p) && linB p n x1 (l.drop (k + 1)))) := ⟨by rw [drop_next hx1]; rfl⟩
      have hI2 : Kept (linB p n (-1) l = (!(decide (x1 ≤ last)) && decide (x1 < n) && !(y1 == 0) && decide (y1 < p) && linB p n x1 (l.drop (k + 1)))) := ⟨by rw [hI.out, hlx.out]⟩
      clear hI hlx k1 hx1
      by_cases t1 : x1 ≤ last
      · have hno : Kept (linB p n (-1) l = false) := ⟨by rw [hI2.out]; simp [t1]⟩
        clear hI2
        go_wp2
        go_ret
        exact ⟨by rw [hno.out]; rfl, (by repeat (first | exact Below.refl _ _ | refine Below.later ?_ _ | refine Below.box ?_ _ | refine Below.drew ?_ | refine Below.put ?_ (by dsimp only; omega) _))⟩
      by_cases t2 : x1 ≥ n
      · have hno : Kept (linB p n (-1) l = false) := ⟨by rw [hI2.out]; have : ¬ x1 < n := by omega
                                                         simp [this]⟩
        clear hI2
        go_wp2
        go_ret
        exact ⟨by rw [hno.out]; rfl, (by repeat (first | exact Below.refl _ _ | refine Below.later ?_ _ | refine Below.box ?_ _ | refine Below.drew ?_ | refine Below.put ?_ (by dsimp only; omega) _))⟩
      by_cases t3 : y1 = 0
      · have hno : Kept (linB p n (-1) l = false) := ⟨by rw [hI2.out]; simp [t3]⟩
        clear hI2
        subst t3
        go_wp2
        go_ret
        exact ⟨by rw [hno.out]; rfl, (by repeat (first | exact Below.refl _ _ | refine Below.later ?_ _ | refine Below.box ?_ _ | refine Below.drew ?_ | refine Below.put ?_ (by dsimp only; omega) _))⟩
      by_cases t4 : y1 ≥ p
      · have hno : Kept (linB p n (-1) l = false) := ⟨by rw [hI2.out]; have : ¬ y1 < p := by omega
                                                         simp [this]⟩
        clear hI2
        go_wp2
        go_ret
        exact ⟨by rw [hno.out]; rfl, (by repeat (first | exact Below.refl _ _ | refine Below.later ?_ _ | refine Below.box ?_ _ | refine Below.drew ?_ | refine Below.put ?_ (by dsimp only; omega) _))⟩
      have hI3 : Kept (linB p n (-1) l = linB p n x1 (l.drop (k + 1))) := ⟨by rw [hI2.out]; have : x1 < n := by omega
                                                                              have : y1 < p := by omega
                                                                              simp [*]⟩
      clear hI2
      go_wp2
      go_roundw
      case rel =>
        obtain ⟨q1, hq1⟩ := after_of (show Below (w.alloc (.cells #[.int .u64 p, .int .i64 q, .int .i64 n, .slice ur nr cr] 25)).heap.size (w.alloc (.cells #[.int .u64 p, .int .i64 q, .int .i64 n, .slice ur nr cr] 25))
          ((after (w.alloc (.cells #[.int .u64 p, .int .i64 q, .int .i64 n, .slice ur nr cr] 25)) q0).alloc (.cells #[.int .i64 x1, .int .u64 y1] 69)) from (by repeat (first | exact Below.refl _ _ | refine Below.later ?_ _ | refine Below.box ?_ _ | refine Below.drew ?_ | refine Below.put ?_ (by dsimp only; omega) _)))
        exact ⟨x1, k + 1, q1, rfl, by go_num, hq1, by omega, hX, hI3⟩
      case measure => first | (simp [intOf]; omega) | (simp [intOf]; done)
    · have hI2 : Kept (linB p n (-1) l = true) := ⟨by rw [hI.out, List.drop_eq_nil_of_le (by have := e1.out; omega)]; rfl⟩
      clear hI k1
      go_wp2
      go_ret
      exact ⟨by rw [hI2.out]; rfl, (by repeat (first | exact Below.refl _ _ | refine Below.later ?_ _ | refine Below.box ?_ _ | refine Below.drew ?_ | refine Below.put ?_ (by dsimp only; omega) _))⟩

/-! ### rows -/
structure Lin where
  u : Option Addr
  c : Nat
  l : List (Int × Int)
def Lin.v (x : Lin) : Value := .slice x.u x.l.length x.c
structure Rw where
  a : Lin
  b : Lin
  c : Lin
structure Rws (w : World) (u : Option Addr) (l : List Rw) : Prop where
  small : (l.length : Int) ≤ 9223372036854775807
  all : ∀ x ∈ l, Tm w x.a.u x.a.l ∧ Tm w x.b.u x.b.l ∧ Tm w x.c.u x.c.l
  mem : l ≠ [] → ∃ b o, u = some ⟨b, o, none⟩ ∧ b < w.heap.size ∧ ∀ (i : Nat) x, l[i]? = some x → w.cell? ⟨b, o + i * 3, none⟩ = some x.a.v ∧ w.cell? ⟨b, o + i * 3 + 1, none⟩ = some x.b.v ∧ w.cell? ⟨b, o + i * 3 + 2, none⟩ = some x.c.v
theorem Rws.below {w w' : World} {u : Option Addr} {l : List Rw} (h : Rws w u l) {B : Nat} (hB : w.heap.size ≤ B) (hb : Below B w w') : Rws w' u l :=
  ⟨h.small, fun x hx => ⟨(h.all x hx).1.below hB hb, (h.all x hx).2.1.below hB hb, (h.all x hx).2.2.below hB hb⟩, fun hne => by
    obtain ⟨b, o, hu, hlt, hc⟩ := h.mem hne
    exact ⟨b, o, hu, Nat.lt_of_lt_of_le hlt hb.size, fun i x hx => by
      rw [hb.cell (p := ⟨b, o + i * 3, none⟩) (Nat.lt_of_lt_of_le hlt hB), hb.cell (p := ⟨b, o + i * 3 + 1, none⟩) (Nat.lt_of_lt_of_le hlt hB), hb.cell (p := ⟨b, o + i * 3 + 2, none⟩) (Nat.lt_of_lt_of_le hlt hB)]; exact hc i x hx⟩⟩
theorem Rws.later {w : World} {u : Option Addr} {l : List Rw} (h : Rws w u l) (p : Regrown) : Rws (after w p) u l := h.below (Nat.le_refl _) (after_below w p)
theorem Rws.box {w : World} {u : Option Addr} {l : List Rw} (h : Rws w u l) (o : Obj) : Rws (w.alloc o) u l := h.below (Nat.le_refl _) ((Below.refl _ w).alloc (Nat.le_refl _) o)
theorem Rws.get {w : World} {u : Option Addr} {l : List Rw} (h : Rws w u l) {n : Nat} (hn : l.length = n) : ∀ k, k < n → ∃ b o x, u = some ⟨b, o, none⟩ ∧ l[k]? = some x ∧ b < w.heap.size ∧
    w.cell? ⟨b, o + k * 3, none⟩ = some x.a.v ∧ w.cell? ⟨b, o + k * 3 + 1, none⟩ = some x.b.v ∧ w.cell? ⟨b, o + k * 3 + 2, none⟩ = some x.c.v ∧ Tm w x.a.u x.a.l ∧ Tm w x.b.u x.b.l ∧ Tm w x.c.u x.c.l := fun k hk => by
  have hne : l ≠ [] := fun e => by subst e; simp at hn; omega
  obtain ⟨b, o, hu, hlt, hc⟩ := h.mem hne
  have hx : l[k]? = some l[k] := List.getElem?_eq_getElem (by omega)
  have ha := h.all _ (List.getElem_mem (l := l) (n := k) (by omega))
  exact ⟨b, o, l[k], hu, hx, hlt, (hc k _ hx).1, (hc k _ hx).2.1, (hc k _ hx).2.2, ha.1, ha.2.1, ha.2.2⟩
theorem Tm.ulen {w : World} {u : Option Addr} {l : List (Int × Int)} (h : Tm w u l) : ∀ q, Tm (after w q) u l := fun q => h.later q

def rowB (p n : Int) (x : Rw) : Bool := linB p n (-1) x.a.l && linB p n (-1) x.b.l && linB p n (-1) x.c.l

theorem validRow_c (p q n : Int) (ur : Option Addr) (nr cr : Nat) (x : Rw) (w : World) (ha : Tm w x.a.u x.a.l) (hb : Tm w x.b.u x.b.l) (hc : Tm w x.c.u x.c.l) :
    Calls Try.prog 56 #[.agg #[.int .u64 p, .int .i64 q, .int .i64 n, .slice ur nr cr], .agg #[x.a.v, x.b.v, x.c.v]] w (Gives (.bool (rowB p n x)) w) := by
  obtain ⟨⟨au, ac, al⟩, ⟨bu, bc, bl⟩, ⟨cu, cc, cl⟩⟩ := x
  simp only [Lin.v, rowB] at *
  obtain ⟨tb, hB⟩ : ∃ t, linB p n (-1) bl = t := ⟨_, rfl⟩
  obtain ⟨tc, hC⟩ : ∃ t, linB p n (-1) cl = t := ⟨_, rfl⟩
  obtain ⟨ta, hA⟩ : ∃ t, linB p n (-1) al = t := ⟨_, rfl⟩
  have c1 : Kept (∀ w', Below w.heap.size w w' → Calls Try.prog 73 #[.agg #[.int .u64 p, .int .i64 q, .int .i64 n, .slice ur nr cr], .slice au al.length ac] w' (Gives (.bool ta) w')) := ⟨fun w' h => by
    have := validLinear_c p q n ur nr cr au ac al w' (ha.below (Nat.le_refl _) h); rw [hA] at this; exact this⟩
  have c2 : Kept (∀ w', Below w.heap.size w w' → Calls Try.prog 73 #[.agg #[.int .u64 p, .int .i64 q, .int .i64 n, .slice ur nr cr], .slice bu bl.length bc] w' (Gives (.bool tb) w')) := ⟨fun w' h => by
    have := validLinear_c p q n ur nr cr bu bc bl w' (hb.below (Nat.le_refl _) h); rw [hB] at this; exact this⟩
  have c3 : Kept (∀ w', Below w.heap.size w w' → Calls Try.prog 73 #[.agg #[.int .u64 p, .int .i64 q, .int .i64 n, .slice ur nr cr], .slice cu cl.length cc] w' (Gives (.bool tc) w')) := ⟨fun w' h => by
    have := validLinear_c p q n ur nr cr cu cc cl w' (hc.below (Nat.le_refl _) h); rw [hC] at this; exact this⟩
  rw [hA, hB, hC]
  generalize al.length = an at *
  generalize bl.length = bn at *
  generalize cl.length = cn at *
  clear hA hB hC ha hb hc
  go_enter Try.func56, Try.ntmps56
  cases ta
  · go_wp2_with (first | (go_at_call 73; (first | with_reducible refine use1 (c1.out _ (by repeat (first | exact Below.refl _ _ | refine Below.later ?_ _ | refine Below.box ?_ _ | refine Below.drew ?_ | refine Below.put ?_ (by dsimp only; omega) _))) ?_ | with_reducible refine use (c1.out _ (by repeat (first | exact Below.refl _ _ | refine Below.later ?_ _ | refine Below.box ?_ _ | refine Below.drew ?_ | refine Below.put ?_ (by dsimp only; omega) _))) ?_); intro pw))
    go_ret
    exact ⟨rfl, (by repeat (first | exact Below.refl _ _ | refine Below.later ?_ _ | refine Below.box ?_ _ | refine Below.drew ?_ | refine Below.put ?_ (by dsimp only; omega) _))⟩
  cases tb
  · go_wp2_with (first | (go_at_call 73; (first | with_reducible refine use1 (c1.out _ (by repeat (first | exact Below.refl _ _ | refine Below.later ?_ _ | refine Below.box ?_ _ | refine Below.drew ?_ | refine Below.put ?_ (by dsimp only; omega) _))) ?_ | with_reducible refine use (c1.out _ (by repeat (first | exact Below.refl _ _ | refine Below.later ?_ _ | refine Below.box ?_ _ | refine Below.drew ?_ | refine Below.put ?_ (by dsimp only; omega) _))) ?_); intro pw) | (go_at_call 73; (first | with_reducible refine use1 (c2.out _ (by repeat (first | exact Below.refl _ _ | refine Below.later ?_ _ | refine Below.box ?_ _ | refine Below.drew ?_ | refine Below.put ?_ (by dsimp only; omega) _))) ?_ | with_reducible refine use (c2.out _ (by repeat (first | exact Below.refl _ _ | refine Below.later ?_ _ | refine Below.box ?_ _ | refine Below.drew ?_ | refine Below.put ?_ (by dsimp only; omega) _))) ?_); intro pw))
    go_ret
    exact ⟨rfl, (by repeat (first | exact Below.refl _ _ | refine Below.later ?_ _ | refine Below.box ?_ _ | refine Below.drew ?_ | refine Below.put ?_ (by dsimp only; omega) _))⟩
  cases tc
  · go_wp2_with (first | (go_at_call 73; (first | with_reducible refine use1 (c1.out _ (by repeat (first | exact Below.refl _ _ | refine Below.later ?_ _ | refine Below.box ?_ _ | refine Below.drew ?_ | refine Below.put ?_ (by dsimp only; omega) _))) ?_ | with_reducible refine use (c1.out _ (by repeat (first | exact Below.refl _ _ | refine Below.later ?_ _ | refine Below.box ?_ _ | refine Below.drew ?_ | refine Below.put ?_ (by dsimp only; omega) _))) ?_); intro pw) | (go_at_call 73; (first | with_reducible refine use1 (c2.out _ (by repeat (first | exact Below.refl _ _ | refine Below.later ?_ _ | refine Below.box ?_ _ | refine Below.drew ?_ | refine Below.put ?_ (by dsimp only; omega) _))) ?_ | with_reducible refine use (c2.out _ (by repeat (first | exact Below.refl _ _ | refine Below.later ?_ _ | refine Below.box ?_ _ | refine Below.drew ?_ | refine Below.put ?_ (by dsimp only; omega) _))) ?_); intro pw) | (go_at_call 73; (first | with_reducible refine use1 (c3.out _ (by repeat (first | exact Below.refl _ _ | refine Below.later ?_ _ | refine Below.box ?_ _ | refine Below.drew ?_ | refine Below.put ?_ (by dsimp only; omega) _))) ?_ | with_reducible refine use (c3.out _ (by repeat (first | exact Below.refl _ _ | refine Below.later ?_ _ | refine Below.box ?_ _ | refine Below.drew ?_ | refine Below.put ?_ (by dsimp only; omega) _))) ?_); intro pw))
    go_ret
    exact ⟨rfl, (by repeat (first | exact Below.refl _ _ | refine Below.later ?_ _ | refine Below.box ?_ _ | refine Below.drew ?_ | refine Below.put ?_ (by dsimp only; omega) _))⟩
  · go_wp2_with (first | (go_at_call 73; (first | with_reducible refine use1 (c1.out _ (by repeat (first | exact Below.refl _ _ | refine Below.later ?_ _ | refine Below.box ?_ _ | refine Below.drew ?_ | refine Below.put ?_ (by dsimp only; omega) _))) ?_ | with_reducible refine use (c1.out _ (by repeat (first | exact Below.refl _ _ | refine Below.later ?_ _ | refine Below.box ?_ _ | refine Below.drew ?_ | refine Below.put ?_ (by dsimp only; omega) _))) ?_); intro pw) | (go_at_call 73; (first | with_reducible refine use1 (c2.out _ (by repeat (first | exact Below.refl _ _ | refine Below.later ?_ _ | refine Below.box ?_ _ | refine Below.drew ?_ | refine Below.put ?_ (by dsimp only; omega) _))) ?_ | with_reducible refine use (c2.out _ (by repeat (first | exact Below.refl _ _ | refine Below.later ?_ _ | refine Below.box ?_ _ | refine Below.drew ?_ | refine Below.put ?_ (by dsimp only; omega) _))) ?_); intro pw) | (go_at_call 73; (first | with_reducible refine use1 (c3.out _ (by repeat (first | exact Below.refl _ _ | refine Below.later ?_ _ | refine Below.box ?_ _ | refine Below.drew ?_ | refine Below.put ?_ (by dsimp only; omega) _))) ?_ | with_reducible refine use (c3.out _ (by repeat (first | exact Below.refl _ _ | refine Below.later ?_ _ | refine Below.box ?_ _ | refine Below.drew ?_ | refine Below.put ?_ (by dsimp only; omega) _))) ?_); intro pw))
    go_ret
    exact ⟨rfl, (by repeat (first | exact Below.refl _ _ | refine Below.later ?_ _ | refine Below.box ?_ _ | refine Below.drew ?_ | refine Below.put ?_ (by dsimp only; omega) _))⟩

def szB (p q n : Int) : Bool := vld p && decide (0 ≤ q) && decide (q < n) && decide (n ≤ 65536)
theorem validSizes_c (p q n : Int) (ur : Option Addr) (nr cr : Nat) (w : World) :
    Calls Try.prog 55 #[.agg #[.int .u64 p, .int .i64 q, .int .i64 n, .slice ur nr cr]] w (Gives (.bool (szB p q n)) w) := by
  cases hv : vld p
  · have hno : Kept (szB p q n = false) := ⟨by simp [szB, hv]⟩
    have cv : Kept (∀ w, Calls Try.prog 59 #[.agg #[.int .u64 p]] w (Gives (.bool false) w)) := ⟨fun w => by have := valid_c p w; rw [hv] at this; exact this⟩
    clear hv
    go_enter Try.func55, Try.ntmps55
    go_wp2_with (first | (go_at_call 59; (first | with_reducible refine use1 (cv.out _) ?_ | with_reducible refine use (cv.out _) ?_); intro pw))
    go_ret
    exact ⟨by rw [hno.out]; rfl, (by repeat (first | exact Below.refl _ _ | refine Below.later ?_ _ | refine Below.box ?_ _ | refine Below.drew ?_ | refine Below.put ?_ (by dsimp only; omega) _))⟩
  have cv : Kept (∀ w, Calls Try.prog 59 #[.agg #[.int .u64 p]] w (Gives (.bool true) w)) := ⟨fun w => by have := valid_c p w; rw [hv] at this; exact this⟩
  by_cases h1 : 0 ≤ q
  · by_cases h2 : q < n
    · by_cases h3 : n ≤ 65536
      · have hno : Kept (szB p q n = true) := ⟨by simp [szB, hv, h1, h2, h3]⟩
        clear hv
        go_enter Try.func55, Try.ntmps55
        go_wp2_with (first | (go_at_call 59; (first | with_reducible refine use1 (cv.out _) ?_ | with_reducible refine use (cv.out _) ?_); intro pw))
        go_ret
        exact ⟨by rw [hno.out]; rfl, (by repeat (first | exact Below.refl _ _ | refine Below.later ?_ _ | refine Below.box ?_ _ | refine Below.drew ?_ | refine Below.put ?_ (by dsimp only; omega) _))⟩
      · have hno : Kept (szB p q n = false) := ⟨by simp [szB, h3]⟩
        clear hv
        go_enter Try.func55, Try.ntmps55
        go_wp2_with (first | (go_at_call 59; (first | with_reducible refine use1 (cv.out _) ?_ | with_reducible refine use (cv.out _) ?_); intro pw))
        go_ret
        exact ⟨by rw [hno.out]; show Ending.returned (Value.bool (decide (n ≤ 65536))) = _; rw [show decide (n ≤ 65536) = false from by simp; omega], (by repeat (first | exact Below.refl _ _ | refine Below.later ?_ _ | refine Below.box ?_ _ | refine Below.drew ?_ | refine Below.put ?_ (by dsimp only; omega) _))⟩
    · have hno : Kept (szB p q n = false) := ⟨by simp [szB, h2]⟩
      clear hv
      go_enter Try.func55, Try.ntmps55
      go_wp2_with (first | (go_at_call 59; (first | with_reducible refine use1 (cv.out _) ?_ | with_reducible refine use (cv.out _) ?_); intro pw))
      go_ret
      exact ⟨by rw [hno.out]; rfl, (by repeat (first | exact Below.refl _ _ | refine Below.later ?_ _ | refine Below.box ?_ _ | refine Below.drew ?_ | refine Below.put ?_ (by dsimp only; omega) _))⟩
  · have hno : Kept (szB p q n = false) := ⟨by simp [szB, h1]⟩
    clear hv
    go_enter Try.func55, Try.ntmps55
    go_wp2_with (first | (go_at_call 59; (first | with_reducible refine use1 (cv.out _) ?_ | with_reducible refine use (cv.out _) ?_); intro pw))
    go_ret
    exact ⟨by rw [hno.out]; rfl, (by repeat (first | exact Below.refl _ _ | refine Below.later ?_ _ | refine Below.box ?_ _ | refine Below.drew ?_ | refine Below.put ?_ (by dsimp only; omega) _))⟩

end Go.Proofs.Ytpkjlnelkacbgaa

/- table.Valid. -/
namespace Go.Proofs.Ytpkjlnelkacbgaa
open Go.RowKit Go.Sort

def tabB (p q n : Int) (rs : List Rw) : Bool := szB p q n && decide (rs.length ≤ 16384) && rs.all (rowB p n)

theorem tvalid_c (p q n : Int) (u : Option Addr) (c : Nat) (rs : List Rw) (w : World) (h1 : Rws w u rs) :
    Calls Try.prog 30 #[.agg #[.int .u64 p, .int .i64 q, .int .i64 n, .slice u rs.length c]] w (Gives (.bool (tabB p q n rs)) w) := by
  obtain ⟨m, hm⟩ : ∃ m, rs.length = m := ⟨_, rfl⟩
  have hs1 := h1.small
  have k1 := (⟨h1.get hm⟩ : Kept _)
  have e1 : Kept (rs.length = m) := ⟨hm⟩
  rw [hm] at hs1 ⊢
  cases hz : szB p q n
  · have hno : Kept (tabB p q n rs = false) := ⟨by simp [tabB, hz]⟩
    have cz : Kept (∀ w, Calls Try.prog 55 #[.agg #[.int .u64 p, .int .i64 q, .int .i64 n, .slice u m c]] w (Gives (.bool false) w)) := ⟨fun w => by have := validSizes_c p q n u m c w; rw [hz] at this; exact this⟩
    clear hz h1 hm k1 e1
    go_enter Try.func30, Try.ntmps30
    go_wp2_with (first | (go_at_call 55; (first | with_reducible refine use1 (cz.out _) ?_ | with_reducible refine use (cz.out _) ?_); intro pw))
    go_ret
    exact ⟨by rw [hno.out]; rfl, (by repeat (first | exact Below.refl _ _ | refine Below.later ?_ _ | refine Below.box ?_ _ | refine Below.drew ?_ | refine Below.put ?_ (by dsimp only; omega) _))⟩
  have cz : Kept (∀ w, Calls Try.prog 55 #[.agg #[.int .u64 p, .int .i64 q, .int .i64 n, .slice u m c]] w (Gives (.bool true) w)) := ⟨fun w => by have := validSizes_c p q n u m c w; rw [hz] at this; exact this⟩
  by_cases hl : m ≤ 16384
  · have hI0 : Kept (tabB p q n rs = rs.all (rowB p n)) := ⟨by simp [tabB, hz, hm, hl]⟩
    clear hz h1 hm
    go_enter Try.func30, Try.ntmps30
    go_wp2_with (first | (go_at_call 55; (first | with_reducible refine use1 (cz.out _) ?_ | with_reducible refine use (cz.out _) ?_); intro pw))
    go_loopw [17] (fun v wr => ∃ (k : Nat), v = .int .i64 (k : Int) ∧ Below (w.alloc (.cells #[.int .u64 p, .int .i64 q, .int .i64 n, .slice u m c] 25)).heap.size (w.alloc (.cells #[.int .u64 p, .int .i64 q, .int .i64 n, .slice u m c] 25)) wr ∧ k ≤ m ∧ Kept (rs.all (rowB p n) = (rs.drop k).all (rowB p n))) (fun v _ => (m : Int).toNat - (intOf v).toNat)
    case atStart => exact ⟨0, rfl, (by repeat (first | exact Below.refl _ _ | refine Below.later ?_ _ | refine Below.box ?_ _ | refine Below.drew ?_ | refine Below.put ?_ (by dsimp only; omega) _)), by omega, ⟨by simp⟩⟩
    case round =>
      obtain ⟨k, rfl, hBr, hk, hI⟩ := hrel
      obtain ⟨q0, rfl⟩ := after_of hBr
      clear hBr
      by_cases h : k < m
      · obtain ⟨b1, o1, x, rfl, hx1, hb1, hc1, hc2, hc3, ha, hb, hc⟩ := k1.out k h
        have hall : Kept (rs.all (rowB p n) = (rowB p n x && (rs.drop (k + 1)).all (rowB p n))) := ⟨by rw [hI.out, drop_next hx1]; rfl⟩
        have cr : Kept (∀ w', Below w.heap.size w w' → Calls Try.prog 56 #[.agg #[.int .u64 p, .int .i64 q, .int .i64 n, .slice (some ⟨b1, o1, none⟩) m c], .agg #[x.a.v, x.b.v, x.c.v]] w' (Gives (.bool (rowB p n x)) w')) := ⟨fun w' hw' =>
          validRow_c p q n _ m c x w' (ha.below (Nat.le_refl _) hw') (hb.below (Nat.le_refl _) hw') (hc.below (Nat.le_refl _) hw')⟩
        clear hI hx1 k1 ha hb hc
        generalize rowB p n x = rx at *
        simp only [Lin.v] at *
        generalize x.a.l.length = an at *
        generalize x.b.l.length = bn at *
        generalize x.c.l.length = cn at *
        generalize x.a.u = au at *
        generalize x.b.u = bu at *
        generalize x.c.u = cu at *
        generalize x.a.c = ac at *
        generalize x.b.c = bc at *
        generalize x.c.c = cc at *
        cases rx
        · have hno : Kept (tabB p q n rs = false) := ⟨by rw [hI0.out, hall.out]; rfl⟩
          clear hall hI0
          go_wp2_with (first | (go_at_call 56; (first | with_reducible refine use1 (cr.out _ ((by repeat (first | exact Below.refl _ _ | refine Below.later ?_ _ | refine Below.box ?_ _ | refine Below.drew ?_ | refine Below.put ?_ (by dsimp only; omega) _)))) ?_ | with_reducible refine use (cr.out _ ((by repeat (first | exact Below.refl _ _ | refine Below.later ?_ _ | refine Below.box ?_ _ | refine Below.drew ?_ | refine Below.put ?_ (by dsimp only; omega) _)))) ?_); intro pw))
          go_ret
          exact ⟨by rw [hno.out]; rfl, (by repeat (first | exact Below.refl _ _ | refine Below.later ?_ _ | refine Below.box ?_ _ | refine Below.drew ?_ | refine Below.put ?_ (by dsimp only; omega) _))⟩
        · have hI2 : Kept (rs.all (rowB p n) = (rs.drop (k + 1)).all (rowB p n)) := ⟨by rw [hall.out]; rfl⟩
          clear hall
          go_wp2_with (first | (go_at_call 56; (first | with_reducible refine use1 (cr.out _ ((by repeat (first | exact Below.refl _ _ | refine Below.later ?_ _ | refine Below.box ?_ _ | refine Below.drew ?_ | refine Below.put ?_ (by dsimp only; omega) _)))) ?_ | with_reducible refine use (cr.out _ ((by repeat (first | exact Below.refl _ _ | refine Below.later ?_ _ | refine Below.box ?_ _ | refine Below.drew ?_ | refine Below.put ?_ (by dsimp only; omega) _)))) ?_); intro pw))
          go_roundw
          case rel => exact ⟨k + 1, by go_num, (by repeat (first | exact Below.refl _ _ | refine Below.later ?_ _ | refine Below.box ?_ _ | refine Below.drew ?_ | refine Below.put ?_ (by dsimp only; omega) _)), by omega, hI2⟩
          case measure => first | (simp [intOf]; omega) | (simp [intOf]; done)
      · have hno : Kept (tabB p q n rs = true) := ⟨by rw [hI0.out, hI.out, List.drop_eq_nil_of_le (by have := e1.out; omega)]; rfl⟩
        clear hI k1
        go_wp2
        go_ret
        exact ⟨by rw [hno.out]; rfl, (by repeat (first | exact Below.refl _ _ | refine Below.later ?_ _ | refine Below.box ?_ _ | refine Below.drew ?_ | refine Below.put ?_ (by dsimp only; omega) _))⟩
  · have hno : Kept (tabB p q n rs = false) := ⟨by simp [tabB, hm, hl]⟩
    clear hz h1 hm k1 e1
    go_enter Try.func30, Try.ntmps30
    go_wp2_with (first | (go_at_call 55; (first | with_reducible refine use1 (cz.out _) ?_ | with_reducible refine use (cz.out _) ?_); intro pw))
    go_ret
    exact ⟨by rw [hno.out]; rfl, (by repeat (first | exact Below.refl _ _ | refine Below.later ?_ _ | refine Below.box ?_ _ | refine Below.drew ?_ | refine Below.put ?_ (by dsimp only; omega) _))⟩
end Go.Proofs.Ytpkjlnelkacbgaa

/- The reference's Linear, row. -/
namespace Go.Proofs.Ytpkjlnelkacbgaa
open Go.RowKit Go.Sort

theorem rlinear_c (p n : Int) (u : Option Addr) (c : Nat) (l : List (Int × Int)) (w : World) (h1 : Tm w u l) :
    Calls Try.prog 74 #[.int .u64 p, .slice u l.length c, .int .i64 n] w (Gives (.bool (linB p n (-1) l)) w) := by
  obtain ⟨m, hm⟩ : ∃ m, l.length = m := ⟨_, rfl⟩
  have hs1 := h1.small
  have k1 := (⟨h1.get hm⟩ : Kept _)
  have e1 : Kept (l.length = m) := ⟨hm⟩
  rw [hm] at hs1 ⊢
  clear h1 hm
  go_enter Try.func74, Try.ntmps74
  go_wp2
  go_loopw [7] (fun v wr => ∃ (last : Int) (k : Nat) (q0 : Regrown), v = .int .i64 (k : Int) ∧ wr = after w q0 ∧ k ≤ m ∧ Kept (-1 ≤ last) ∧ Kept (k = 0 → last = -1) ∧ Kept (∀ j, k = j + 1 → ∃ y, l[j]? = some (last, y)) ∧ Kept (linB p n (-1) l = linB p n last (l.drop k))) (fun v _ => (m : Int).toNat - (intOf v).toNat)
  case atStart => exact ⟨-1, 0, ⟨_, #[]⟩, rfl, by rw [after_none], by omega, ⟨by omega⟩, ⟨fun _ => rfl⟩, ⟨fun j h => by omega⟩, ⟨by simp⟩⟩
  case round =>
    obtain ⟨last, k, q0, rfl, rfl, hk, hm1, hl0, hl1, hI⟩ := hrel
    by_cases h : k < m
    · obtain ⟨b1, o1, x1, y1, rfl, hx1, hb1, hc1, hc2, hX, hU1⟩ := k1.out k h
      have hlx : Kept (linB p n last (l.drop k) = (!(decide (x1 ≤ last)) && decide (x1 < n) && !(y1 == 0) && decide (y1 < p) && linB p n x1 (l.drop (k + 1)))) := ⟨by rw [drop_next hx1]; rfl⟩
      have hI2 : Kept (linB p n (-1) l = (!(decide (x1 ≤ last)) && decide (x1 < n) && !(y1 == 0) && decide (y1 < p) && linB p n x1 (l.drop (k + 1)))) := ⟨by rw [hI.out, hlx.out]⟩
      clear hI hlx
      by_cases t0 : x1 < 0
      · have hno : Kept (linB p n (-1) l = false) := ⟨by rw [hI2.out]; have : x1 ≤ last := by have := hm1.out; omega
                                                         simp [this]⟩
        clear hI2 k1 hx1 e1 hl1
        go_wp2
        first | refine region_quiet1 (by kernel_rfl) ?_ | refine region_quiet (by kernel_rfl) ?_
        repeat (go_big_quiet_step (first | fail))
        refine wpQuiet_nil ?_
        intro _
        go_wp2
        go_ret
        exact ⟨by rw [hno.out]; rfl, (by repeat (first | exact Below.refl _ _ | refine Below.later ?_ _ | refine Below.box ?_ _ | refine Below.drew ?_ | refine Below.put ?_ (by dsimp only; omega) _))⟩
      have d0 : decide (x1 < 0) = false := by simp; omega
      by_cases t1 : x1 ≥ n
      · have hno : Kept (linB p n (-1) l = false) := ⟨by rw [hI2.out]; have : ¬ x1 < n := by omega
                                                         simp [this]⟩
        clear hI2 k1 hx1 e1 hl1
        go_wp2
        first | refine region_quiet1 (by kernel_rfl) ?_ | refine region_quiet (by kernel_rfl) ?_
        repeat (go_big_quiet_step (first | fail))
        refine wpQuiet_nil ?_
        intro _
        go_wp2
        go_ret
        exact ⟨by rw [hno.out]; rfl, (by repeat (first | exact Below.refl _ _ | refine Below.later ?_ _ | refine Below.box ?_ _ | refine Below.drew ?_ | refine Below.put ?_ (by dsimp only; omega) _))⟩
      have d1 : decide (n ≤ x1) = false := by simp; omega
      rcases Nat.eq_zero_or_pos k with hk0 | hk0
      · subst hk0
        have hl := hl0.out rfl
        subst hl
        simp only [Nat.zero_mul, Nat.add_zero] at hc1 hc2
        clear hl1 hl0 k1 e1
        by_cases t3 : y1 = 0
        · have hno : Kept (linB p n (-1) l = false) := ⟨by rw [hI2.out]; simp [t3]⟩
          clear hI2 hx1
          subst t3
          go_wp2
          first | refine region_quiet1 (by kernel_rfl) ?_ | refine region_quiet (by kernel_rfl) ?_
          repeat (go_big_quiet_step (first | fail))
          refine wpQuiet_nil ?_
          intro _
          go_wp2
          go_ret
          exact ⟨by rw [hno.out]; rfl, (by repeat (first | exact Below.refl _ _ | refine Below.later ?_ _ | refine Below.box ?_ _ | refine Below.drew ?_ | refine Below.put ?_ (by dsimp only; omega) _))⟩
        have d3 : (y1 == 0) = false := by simp [t3]
        by_cases t4 : y1 ≥ p
        · have hno : Kept (linB p n (-1) l = false) := ⟨by rw [hI2.out, show decide (y1 < p) = false from by simp; omega]; simp⟩
          clear hI2 hx1
          go_wp2
          first | refine region_quiet1 (by kernel_rfl) ?_ | refine region_quiet (by kernel_rfl) ?_
          repeat (go_big_quiet_step (first | fail))
          refine wpQuiet_nil ?_
          intro _
          go_wp2
          go_ret
          exact ⟨by rw [hno.out]; rfl, (by repeat (first | exact Below.refl _ _ | refine Below.later ?_ _ | refine Below.box ?_ _ | refine Below.drew ?_ | refine Below.put ?_ (by dsimp only; omega) _))⟩
        have d4 : decide (p ≤ y1) = false := by simp; omega
        have hI3 : Kept (linB p n (-1) l = linB p n x1 (l.drop (0 + 1))) := ⟨by rw [hI2.out, show decide (x1 ≤ -1) = false from by simp; omega, show decide (x1 < n) = true from by simp; omega, d3, show decide (y1 < p) = true from by simp; omega]; rfl⟩
        have hx1' : Kept (l[0]? = some (x1, y1)) := ⟨hx1⟩
        clear hI2 hx1
        go_wp2
        first | refine region_quiet1 (by kernel_rfl) ?_ | refine region_quiet (by kernel_rfl) ?_
        repeat (go_big_quiet_step (first | fail))
        refine wpQuiet_nil ?_
        intro _
        go_wp2
        go_roundw
        case rel => exact ⟨x1, 0 + 1, _, by go_num, rfl, by omega, ⟨by omega⟩, ⟨fun e => by omega⟩, ⟨fun i e => ⟨y1, by rw [show i = 0 from by omega]; exact hx1'.out⟩⟩, hI3⟩
        case measure => first | (simp [intOf]; omega) | (simp [intOf]; done)
      · obtain ⟨j, rfl⟩ : ∃ j, k = j + 1 := ⟨k - 1, by omega⟩
        obtain ⟨y0, hy0⟩ := hl1.out j rfl
        obtain ⟨b2, o2, x2, y2, e2, hx2, hb2, hc3, hc4, hX2, hU2⟩ := k1.out j (by omega)
        rw [hx2] at hy0
        injection hy0 with hy0
        injection hy0 with hy0 _
        subst hy0
        injection e2 with e2
        injection e2 with e2 e3
        subst e2 e3
        clear hl1 hl0 hx2 k1 hc4 hU2 hX2 e1
        by_cases t2 : x2 ≥ x1
        · have hno : Kept (linB p n (-1) l = false) := ⟨by rw [hI2.out]; have : x1 ≤ x2 := by omega
                                                           simp [this]⟩
          clear hI2 hx1
          go_wp2
          first | refine region_quiet1 (by kernel_rfl) ?_ | refine region_quiet (by kernel_rfl) ?_
          repeat (go_big_quiet_step (first | fail))
          refine wpQuiet_nil ?_
          intro _
          go_wp2
          go_ret
          exact ⟨by rw [hno.out]; rfl, (by repeat (first | exact Below.refl _ _ | refine Below.later ?_ _ | refine Below.box ?_ _ | refine Below.drew ?_ | refine Below.put ?_ (by dsimp only; omega) _))⟩
        have d2 : decide (x1 ≤ x2) = false := by simp; omega
        by_cases t3 : y1 = 0
        · have hno : Kept (linB p n (-1) l = false) := ⟨by rw [hI2.out]; simp [t3]⟩
          clear hI2 hx1
          subst t3
          go_wp2
          first | refine region_quiet1 (by kernel_rfl) ?_ | refine region_quiet (by kernel_rfl) ?_
          repeat (go_big_quiet_step (first | fail))
          refine wpQuiet_nil ?_
          intro _
          go_wp2
          go_ret
          exact ⟨by rw [hno.out]; rfl, (by repeat (first | exact Below.refl _ _ | refine Below.later ?_ _ | refine Below.box ?_ _ | refine Below.drew ?_ | refine Below.put ?_ (by dsimp only; omega) _))⟩
        have d3 : (y1 == 0) = false := by simp [t3]
        by_cases t4 : y1 ≥ p
        · have hno : Kept (linB p n (-1) l = false) := ⟨by rw [hI2.out, show decide (y1 < p) = false from by simp; omega]; simp⟩
          clear hI2 hx1
          go_wp2
          first | refine region_quiet1 (by kernel_rfl) ?_ | refine region_quiet (by kernel_rfl) ?_
          repeat (go_big_quiet_step (first | fail))
          refine wpQuiet_nil ?_
          intro _
          go_wp2
          go_ret
          exact ⟨by rw [hno.out]; rfl, (by repeat (first | exact Below.refl _ _ | refine Below.later ?_ _ | refine Below.box ?_ _ | refine Below.drew ?_ | refine Below.put ?_ (by dsimp only; omega) _))⟩
        have d4 : decide (p ≤ y1) = false := by simp; omega
        have hI3 : Kept (linB p n (-1) l = linB p n x1 (l.drop ((j + 1) + 1))) := ⟨by rw [hI2.out, show decide (x1 ≤ x2) = false from by simp; omega, show decide (x1 < n) = true from by simp; omega, d3, show decide (y1 < p) = true from by simp; omega]; rfl⟩
        have hx1' : Kept (l[(j + 1)]? = some (x1, y1)) := ⟨hx1⟩
        clear hI2 hx1
        go_wp2
        first | refine region_quiet1 (by kernel_rfl) ?_ | refine region_quiet (by kernel_rfl) ?_
        repeat (go_big_quiet_step (first | fail))
        refine wpQuiet_nil ?_
        intro _
        go_wp2
        go_roundw
        case rel => exact ⟨x1, (j + 1) + 1, _, by go_num, rfl, by omega, ⟨by omega⟩, ⟨fun e => by omega⟩, ⟨fun i e => ⟨y1, by rw [show i = (j + 1) from by omega]; exact hx1'.out⟩⟩, hI3⟩
        case measure => first | (simp [intOf]; omega) | (simp [intOf]; done)
    · have hI2 : Kept (linB p n (-1) l = true) := ⟨by rw [hI.out, List.drop_eq_nil_of_le (by have := e1.out; omega)]; rfl⟩
      clear hI k1 hl0 hl1
      go_wp2
      go_ret
      exact ⟨by rw [hI2.out]; rfl, (by repeat (first | exact Below.refl _ _ | refine Below.later ?_ _ | refine Below.box ?_ _ | refine Below.drew ?_ | refine Below.put ?_ (by dsimp only; omega) _))⟩
end Go.Proofs.Ytpkjlnelkacbgaa

/- The reference's row, Valid; Small, Assignment. -/
namespace Go.Proofs.Ytpkjlnelkacbgaa
open Go.RowKit Go.Sort

theorem rrow_c (p q n : Int) (ur : Option Addr) (nr cr : Nat) (x : Rw) (w : World) (ha : Tm w x.a.u x.a.l) (hb : Tm w x.b.u x.b.l) (hc : Tm w x.c.u x.c.l) :
    Calls Try.prog 58 #[.agg #[.int .u64 p, .int .i64 q, .int .i64 n, .slice ur nr cr], .agg #[x.a.v, x.b.v, x.c.v]] w (Gives (.bool (rowB p n x)) w) := by
  obtain ⟨⟨au, ac, al⟩, ⟨bu, bc, bl⟩, ⟨cu, cc, cl⟩⟩ := x
  simp only [Lin.v, rowB] at *
  obtain ⟨tb, hB⟩ : ∃ t, linB p n (-1) bl = t := ⟨_, rfl⟩
  obtain ⟨tc, hC⟩ : ∃ t, linB p n (-1) cl = t := ⟨_, rfl⟩
  obtain ⟨ta, hA⟩ : ∃ t, linB p n (-1) al = t := ⟨_, rfl⟩
  have c1 : Kept (∀ w', Below w.heap.size w w' → Calls Try.prog 74 #[.int .u64 p, .slice au al.length ac, .int .i64 n] w' (Gives (.bool ta) w')) := ⟨fun w' h => by
    have := rlinear_c p n au ac al w' (ha.below (Nat.le_refl _) h); rw [hA] at this; exact this⟩
  have c2 : Kept (∀ w', Below w.heap.size w w' → Calls Try.prog 74 #[.int .u64 p, .slice bu bl.length bc, .int .i64 n] w' (Gives (.bool tb) w')) := ⟨fun w' h => by
    have := rlinear_c p n bu bc bl w' (hb.below (Nat.le_refl _) h); rw [hB] at this; exact this⟩
  have c3 : Kept (∀ w', Below w.heap.size w w' → Calls Try.prog 74 #[.int .u64 p, .slice cu cl.length cc, .int .i64 n] w' (Gives (.bool tc) w')) := ⟨fun w' h => by
    have := rlinear_c p n cu cc cl w' (hc.below (Nat.le_refl _) h); rw [hC] at this; exact this⟩
  rw [hA, hB, hC]
  generalize al.length = an at *
  generalize bl.length = bn at *
  generalize cl.length = cn at *
  clear hA hB hC ha hb hc
  go_enter Try.func58, Try.ntmps58
  cases ta
  · go_wp2_with (first | (go_at_call 74; (first | with_reducible refine use1 (c1.out _ (by repeat (first | exact Below.refl _ _ | refine Below.later ?_ _ | refine Below.box ?_ _ | refine Below.drew ?_ | refine Below.put ?_ (by dsimp only; omega) _))) ?_ | with_reducible refine use (c1.out _ (by repeat (first | exact Below.refl _ _ | refine Below.later ?_ _ | refine Below.box ?_ _ | refine Below.drew ?_ | refine Below.put ?_ (by dsimp only; omega) _))) ?_); intro pw))
    go_ret
    exact ⟨rfl, (by repeat (first | exact Below.refl _ _ | refine Below.later ?_ _ | refine Below.box ?_ _ | refine Below.drew ?_ | refine Below.put ?_ (by dsimp only; omega) _))⟩
  cases tb
  · go_wp2_with (first | (go_at_call 74; (first | with_reducible refine use1 (c1.out _ (by repeat (first | exact Below.refl _ _ | refine Below.later ?_ _ | refine Below.box ?_ _ | refine Below.drew ?_ | refine Below.put ?_ (by dsimp only; omega) _))) ?_ | with_reducible refine use (c1.out _ (by repeat (first | exact Below.refl _ _ | refine Below.later ?_ _ | refine Below.box ?_ _ | refine Below.drew ?_ | refine Below.put ?_ (by dsimp only; omega) _))) ?_); intro pw) | (go_at_call 74; (first | with_reducible refine use1 (c2.out _ (by repeat (first | exact Below.refl _ _ | refine Below.later ?_ _ | refine Below.box ?_ _ | refine Below.drew ?_ | refine Below.put ?_ (by dsimp only; omega) _))) ?_ | with_reducible refine use (c2.out _ (by repeat (first | exact Below.refl _ _ | refine Below.later ?_ _ | refine Below.box ?_ _ | refine Below.drew ?_ | refine Below.put ?_ (by dsimp only; omega) _))) ?_); intro pw))
    go_ret
    exact ⟨rfl, (by repeat (first | exact Below.refl _ _ | refine Below.later ?_ _ | refine Below.box ?_ _ | refine Below.drew ?_ | refine Below.put ?_ (by dsimp only; omega) _))⟩
  cases tc
  · go_wp2_with (first | (go_at_call 74; (first | with_reducible refine use1 (c1.out _ (by repeat (first | exact Below.refl _ _ | refine Below.later ?_ _ | refine Below.box ?_ _ | refine Below.drew ?_ | refine Below.put ?_ (by dsimp only; omega) _))) ?_ | with_reducible refine use (c1.out _ (by repeat (first | exact Below.refl _ _ | refine Below.later ?_ _ | refine Below.box ?_ _ | refine Below.drew ?_ | refine Below.put ?_ (by dsimp only; omega) _))) ?_); intro pw) | (go_at_call 74; (first | with_reducible refine use1 (c2.out _ (by repeat (first | exact Below.refl _ _ | refine Below.later ?_ _ | refine Below.box ?_ _ | refine Below.drew ?_ | refine Below.put ?_ (by dsimp only; omega) _))) ?_ | with_reducible refine use (c2.out _ (by repeat (first | exact Below.refl _ _ | refine Below.later ?_ _ | refine Below.box ?_ _ | refine Below.drew ?_ | refine Below.put ?_ (by dsimp only; omega) _))) ?_); intro pw) | (go_at_call 74; (first | with_reducible refine use1 (c3.out _ (by repeat (first | exact Below.refl _ _ | refine Below.later ?_ _ | refine Below.box ?_ _ | refine Below.drew ?_ | refine Below.put ?_ (by dsimp only; omega) _))) ?_ | with_reducible refine use (c3.out _ (by repeat (first | exact Below.refl _ _ | refine Below.later ?_ _ | refine Below.box ?_ _ | refine Below.drew ?_ | refine Below.put ?_ (by dsimp only; omega) _))) ?_); intro pw))
    go_ret
    exact ⟨rfl, (by repeat (first | exact Below.refl _ _ | refine Below.later ?_ _ | refine Below.box ?_ _ | refine Below.drew ?_ | refine Below.put ?_ (by dsimp only; omega) _))⟩
  · go_wp2_with (first | (go_at_call 74; (first | with_reducible refine use1 (c1.out _ (by repeat (first | exact Below.refl _ _ | refine Below.later ?_ _ | refine Below.box ?_ _ | refine Below.drew ?_ | refine Below.put ?_ (by dsimp only; omega) _))) ?_ | with_reducible refine use (c1.out _ (by repeat (first | exact Below.refl _ _ | refine Below.later ?_ _ | refine Below.box ?_ _ | refine Below.drew ?_ | refine Below.put ?_ (by dsimp only; omega) _))) ?_); intro pw) | (go_at_call 74; (first | with_reducible refine use1 (c2.out _ (by repeat (first | exact Below.refl _ _ | refine Below.later ?_ _ | refine Below.box ?_ _ | refine Below.drew ?_ | refine Below.put ?_ (by dsimp only; omega) _))) ?_ | with_reducible refine use (c2.out _ (by repeat (first | exact Below.refl _ _ | refine Below.later ?_ _ | refine Below.box ?_ _ | refine Below.drew ?_ | refine Below.put ?_ (by dsimp only; omega) _))) ?_); intro pw) | (go_at_call 74; (first | with_reducible refine use1 (c3.out _ (by repeat (first | exact Below.refl _ _ | refine Below.later ?_ _ | refine Below.box ?_ _ | refine Below.drew ?_ | refine Below.put ?_ (by dsimp only; omega) _))) ?_ | with_reducible refine use (c3.out _ (by repeat (first | exact Below.refl _ _ | refine Below.later ?_ _ | refine Below.box ?_ _ | refine Below.drew ?_ | refine Below.put ?_ (by dsimp only; omega) _))) ?_); intro pw))
    go_ret
    exact ⟨rfl, (by repeat (first | exact Below.refl _ _ | refine Below.later ?_ _ | refine Below.box ?_ _ | refine Below.drew ?_ | refine Below.put ?_ (by dsimp only; omega) _))⟩

set_option maxHeartbeats 2000000 in
theorem rtvalid_c (p q n : Int) (u : Option Addr) (c : Nat) (rs : List Rw) (w : World) (h1 : Rws w u rs) :
    Calls Try.prog 33 #[.agg #[.int .u64 p, .int .i64 q, .int .i64 n, .slice u rs.length c]] w (Gives (.bool (tabB p q n rs)) w) := by
  obtain ⟨m, hm⟩ : ∃ m, rs.length = m := ⟨_, rfl⟩
  have hs1 := h1.small
  have k1 := (⟨h1.get hm⟩ : Kept _)
  have e1 : Kept (rs.length = m) := ⟨hm⟩
  rw [hm] at hs1 ⊢
  cases hv : vld p
  · have hno : Kept (tabB p q n rs = false) := ⟨by simp [tabB, szB, hv]⟩
    have cv : Kept (∀ w, Calls Try.prog 57 #[.int .u64 p] w (Gives (.bool false) w)) := ⟨fun w => by have := rvalid_c p w; rw [hv] at this; exact this⟩
    clear hv h1 hm k1 e1
    go_enter Try.func33, Try.ntmps33
    go_wp2_with (first | (go_at_call 57; (first | with_reducible refine use1 (cv.out _) ?_ | with_reducible refine use (cv.out _) ?_); intro pw))
    go_ret
    exact ⟨by rw [hno.out]; rfl, (by repeat (first | exact Below.refl _ _ | refine Below.later ?_ _ | refine Below.box ?_ _ | refine Below.drew ?_ | refine Below.put ?_ (by dsimp only; omega) _))⟩
  have cv : Kept (∀ w, Calls Try.prog 57 #[.int .u64 p] w (Gives (.bool true) w)) := ⟨fun w => by have := rvalid_c p w; rw [hv] at this; exact this⟩
  by_cases g1 : q < 0
  · have hno : Kept (tabB p q n rs = false) := ⟨by rw [tabB, szB, hm, show decide (0 ≤ q) = false from by simp; omega]; simp⟩
    clear hv h1 hm k1 e1
    go_enter Try.func33, Try.ntmps33
    go_wp2_with (first | (go_at_call 57; (first | with_reducible refine use1 (cv.out _) ?_ | with_reducible refine use (cv.out _) ?_); intro pw))
    go_ret
    exact ⟨by rw [hno.out]; rfl, (by repeat (first | exact Below.refl _ _ | refine Below.later ?_ _ | refine Below.box ?_ _ | refine Below.drew ?_ | refine Below.put ?_ (by dsimp only; omega) _))⟩
  by_cases g2 : q ≥ n
  · have hno : Kept (tabB p q n rs = false) := ⟨by rw [tabB, szB, hm, show decide (q < n) = false from by simp; omega]; simp⟩
    clear hv h1 hm k1 e1
    go_enter Try.func33, Try.ntmps33
    go_wp2_with (first | (go_at_call 57; (first | with_reducible refine use1 (cv.out _) ?_ | with_reducible refine use (cv.out _) ?_); intro pw))
    go_ret
    exact ⟨by rw [hno.out]; rfl, (by repeat (first | exact Below.refl _ _ | refine Below.later ?_ _ | refine Below.box ?_ _ | refine Below.drew ?_ | refine Below.put ?_ (by dsimp only; omega) _))⟩
  by_cases g3 : n > 65536
  · have hno : Kept (tabB p q n rs = false) := ⟨by rw [tabB, szB, hm, show decide (n ≤ 65536) = false from by simp; omega]; simp⟩
    clear hv h1 hm k1 e1
    go_enter Try.func33, Try.ntmps33
    go_wp2_with (first | (go_at_call 57; (first | with_reducible refine use1 (cv.out _) ?_ | with_reducible refine use (cv.out _) ?_); intro pw))
    go_ret
    exact ⟨by rw [hno.out]; rfl, (by repeat (first | exact Below.refl _ _ | refine Below.later ?_ _ | refine Below.box ?_ _ | refine Below.drew ?_ | refine Below.put ?_ (by dsimp only; omega) _))⟩
  by_cases g4 : m > 16384
  · have hno : Kept (tabB p q n rs = false) := ⟨by rw [tabB, szB, hm, show decide (m ≤ 16384) = false from by simp; omega]; simp⟩
    clear hv h1 hm k1 e1
    go_enter Try.func33, Try.ntmps33
    go_wp2_with (first | (go_at_call 57; (first | with_reducible refine use1 (cv.out _) ?_ | with_reducible refine use (cv.out _) ?_); intro pw))
    go_ret
    exact ⟨by rw [hno.out]; rfl, (by repeat (first | exact Below.refl _ _ | refine Below.later ?_ _ | refine Below.box ?_ _ | refine Below.drew ?_ | refine Below.put ?_ (by dsimp only; omega) _))⟩
  have hI0 : Kept (tabB p q n rs = rs.all (rowB p n)) := ⟨by rw [tabB, szB, hv, hm, show decide (0 ≤ q) = true from by simp; omega, show decide (q < n) = true from by simp; omega, show decide (n ≤ 65536) = true from by simp; omega, show decide (m ≤ 16384) = true from by simp; omega]; simp⟩
  clear hv h1 hm
  go_enter Try.func33, Try.ntmps33
  go_wp2_with (first | (go_at_call 57; (first | with_reducible refine use1 (cv.out _) ?_ | with_reducible refine use (cv.out _) ?_); intro pw))
  go_loopw [3] (fun v wr => ∃ (k : Nat), v = .int .i64 (k : Int) ∧ Below (w.alloc (.cells #[.int .u64 p, .int .i64 q, .int .i64 n, .slice u m c] 25)).heap.size (w.alloc (.cells #[.int .u64 p, .int .i64 q, .int .i64 n, .slice u m c] 25)) wr ∧ k ≤ m ∧ Kept (rs.all (rowB p n) = (rs.drop k).all (rowB p n))) (fun v _ => (m : Int).toNat - (intOf v).toNat)
  case atStart => exact ⟨0, rfl, (by repeat (first | exact Below.refl _ _ | refine Below.later ?_ _ | refine Below.box ?_ _ | refine Below.drew ?_ | refine Below.put ?_ (by dsimp only; omega) _)), by omega, ⟨by simp⟩⟩
  case round =>
    obtain ⟨k, rfl, hBr, hk, hI⟩ := hrel
    obtain ⟨q0, rfl⟩ := after_of hBr
    clear hBr
    by_cases h : k < m
    · obtain ⟨b1, o1, x, rfl, hx1, hb1, hc1, hc2, hc3, ha, hb, hc⟩ := k1.out k h
      have hall : Kept (rs.all (rowB p n) = (rowB p n x && (rs.drop (k + 1)).all (rowB p n))) := ⟨by rw [hI.out, drop_next hx1]; rfl⟩
      have cr : Kept (∀ w', Below w.heap.size w w' → Calls Try.prog 58 #[.agg #[.int .u64 p, .int .i64 q, .int .i64 n, .slice (some ⟨b1, o1, none⟩) m c], .agg #[x.a.v, x.b.v, x.c.v]] w' (Gives (.bool (rowB p n x)) w')) := ⟨fun w' hw' =>
        rrow_c p q n _ m c x w' (ha.below (Nat.le_refl _) hw') (hb.below (Nat.le_refl _) hw') (hc.below (Nat.le_refl _) hw')⟩
      clear hI hx1 k1 ha hb hc
      generalize rowB p n x = rx at *
      simp only [Lin.v] at *
      generalize x.a.l.length = an at *
      generalize x.b.l.length = bn at *
      generalize x.c.l.length = cn at *
      generalize x.a.u = au at *
      generalize x.b.u = bu at *
      generalize x.c.u = cu at *
      generalize x.a.c = ac at *
      generalize x.b.c = bc at *
      generalize x.c.c = cc at *
      cases rx
      · have hno : Kept (tabB p q n rs = false) := ⟨by rw [hI0.out, hall.out]; rfl⟩
        clear hall hI0
        go_wp2_with (first | (go_at_call 58; (first | with_reducible refine use1 (cr.out _ ((by repeat (first | exact Below.refl _ _ | refine Below.later ?_ _ | refine Below.box ?_ _ | refine Below.drew ?_ | refine Below.put ?_ (by dsimp only; omega) _)))) ?_ | with_reducible refine use (cr.out _ ((by repeat (first | exact Below.refl _ _ | refine Below.later ?_ _ | refine Below.box ?_ _ | refine Below.drew ?_ | refine Below.put ?_ (by dsimp only; omega) _)))) ?_); intro pw))
        first | refine region_quiet1 (by kernel_rfl) ?_ | refine region_quiet (by kernel_rfl) ?_
        repeat (go_big_quiet_step (first | (go_at_call 58; with_reducible exact quiet (cr.out _ ((by repeat (first | exact Below.refl _ _ | refine Below.later ?_ _ | refine Below.box ?_ _ | refine Below.drew ?_ | refine Below.put ?_ (by dsimp only; omega) _)))))))
        refine wpQuiet_nil ?_
        intro _
        go_wp2
        go_ret
        exact ⟨by rw [hno.out]; rfl, (by repeat (first | exact Below.refl _ _ | refine Below.later ?_ _ | refine Below.box ?_ _ | refine Below.drew ?_ | refine Below.put ?_ (by dsimp only; omega) _))⟩
      · have hI2 : Kept (rs.all (rowB p n) = (rs.drop (k + 1)).all (rowB p n)) := ⟨by rw [hall.out]; rfl⟩
        clear hall
        go_wp2_with (first | (go_at_call 58; (first | with_reducible refine use1 (cr.out _ ((by repeat (first | exact Below.refl _ _ | refine Below.later ?_ _ | refine Below.box ?_ _ | refine Below.drew ?_ | refine Below.put ?_ (by dsimp only; omega) _)))) ?_ | with_reducible refine use (cr.out _ ((by repeat (first | exact Below.refl _ _ | refine Below.later ?_ _ | refine Below.box ?_ _ | refine Below.drew ?_ | refine Below.put ?_ (by dsimp only; omega) _)))) ?_); intro pw))
        first | refine region_quiet1 (by kernel_rfl) ?_ | refine region_quiet (by kernel_rfl) ?_
        repeat (go_big_quiet_step (first | (go_at_call 58; with_reducible exact quiet (cr.out _ ((by repeat (first | exact Below.refl _ _ | refine Below.later ?_ _ | refine Below.box ?_ _ | refine Below.drew ?_ | refine Below.put ?_ (by dsimp only; omega) _)))))))
        refine wpQuiet_nil ?_
        intro _
        go_wp2
        go_roundw
        case rel => exact ⟨k + 1, by go_num, (by repeat (first | exact Below.refl _ _ | refine Below.later ?_ _ | refine Below.box ?_ _ | refine Below.drew ?_ | refine Below.put ?_ (by dsimp only; omega) _)), by omega, hI2⟩
        case measure => first | (simp [intOf]; omega) | (simp [intOf]; done)
    · have hno : Kept (tabB p q n rs = true) := ⟨by rw [hI0.out, hI.out, List.drop_eq_nil_of_le (by have := e1.out; omega)]; rfl⟩
      clear hI k1
      go_wp2
      go_ret
      exact ⟨by rw [hno.out]; rfl, (by repeat (first | exact Below.refl _ _ | refine Below.later ?_ _ | refine Below.box ?_ _ | refine Below.drew ?_ | refine Below.put ?_ (by dsimp only; omega) _))⟩

end Go.Proofs.Ytpkjlnelkacbgaa
