/- Tables in memory: terms, rows; what is valid. -/
import Derived.Test.YtkpkgjniicnkcaaQC
namespace Go.Proofs.Ytkpkgjniicnkcaa
open Go.RowKit Go.Sort

def I (n : Int) : Prop := -9223372036854775808 ≤ n ∧ n ≤ 9223372036854775807

/-- At u there lie these terms. -/
structure Tm (w : World) (u : Option Addr) (l : List (Int × Int)) : Prop where
  small : (l.length : Int) ≤ 9223372036854775807
  all : ∀ x ∈ l, I x.1 ∧ U x.2
  mem : l ≠ [] → ∃ b o, u = some ⟨b, o, none⟩ ∧ b < w.heap.size ∧ ∀ (i : Nat) x, l[i]? = some x → w.cell? ⟨b, o + i * 2, none⟩ = some (.int .i64 x.1) ∧ w.cell? ⟨b, o + i * 2 + 1, none⟩ = some (.int .u64 x.2)
theorem Tm.below {w w' : World} {u : Option Addr} {l : List (Int × Int)} (h : Tm w u l) {B : Nat} (hB : w.heap.size ≤ B) (hb : Below B w w') : Tm w' u l :=
  ⟨h.small, h.all, fun hne => by
    obtain ⟨b, o, hu, hlt, hc⟩ := h.mem hne
    exact ⟨b, o, hu, Nat.lt_of_lt_of_le hlt hb.size, fun i x hx => by
      rw [hb.cell (p := ⟨b, o + i * 2, none⟩) (Nat.lt_of_lt_of_le hlt hB), hb.cell (p := ⟨b, o + i * 2 + 1, none⟩) (Nat.lt_of_lt_of_le hlt hB)]; exact hc i x hx⟩⟩
theorem Tm.later {w : World} {u : Option Addr} {l : List (Int × Int)} (h : Tm w u l) (p : Regrown) : Tm (after w p) u l := h.below (Nat.le_refl _) (after_below w p)
theorem Tm.box {w : World} {u : Option Addr} {l : List (Int × Int)} (h : Tm w u l) (o : Obj) : Tm (w.alloc o) u l := h.below (Nat.le_refl _) ((Below.refl _ w).alloc (Nat.le_refl _) o)
theorem Tm.get {w : World} {u : Option Addr} {l : List (Int × Int)} (h : Tm w u l) {n : Nat} (hn : l.length = n) : ∀ k, k < n → ∃ b o x y, u = some ⟨b, o, none⟩ ∧ l[k]? = some (x, y) ∧ b < w.heap.size ∧
    w.cell? ⟨b, o + k * 2, none⟩ = some (.int .i64 x) ∧ w.cell? ⟨b, o + k * 2 + 1, none⟩ = some (.int .u64 y) ∧ I x ∧ U y := fun k hk => by
  have hne : l ≠ [] := fun e => by subst e; simp at hn; omega
  obtain ⟨b, o, hu, hlt, hc⟩ := h.mem hne
  have hx : l[k]? = some l[k] := List.getElem?_eq_getElem (by omega)
  have ha := h.all _ (List.getElem_mem (l := l) (n := k) (by omega))
  exact ⟨b, o, l[k].1, l[k].2, hu, hx, hlt, (hc k _ hx).1, (hc k _ hx).2, ha.1, ha.2⟩

/-- Terms in ascending order of variables below n, coefficients not 0 and below p. -/
def linB (p n : Int) (last : Int) : List (Int × Int) → Bool
  | [] => true
  | x :: xs => !(decide (x.1 ≤ last)) && decide (x.1 < n) && !(x.2 == 0) && decide (x.2 < p) && linB p n x.1 xs

theorem drop_next {α : Type} {l : List α} {k : Nat} {x : α} (h : l[k]? = some x) : l.drop k = x :: l.drop (k + 1) := by
  obtain ⟨hk, hx⟩ := List.getElem?_eq_some_iff.1 h
  rw [List.drop_eq_getElem_cons hk, hx]

theorem validLinear_c (p q n : Int) (ur : Option Addr) (nr cr : Nat) (u : Option Addr) (c : Nat) (l : List (Int × Int)) (w : World) (h1 : Tm w u l) :
    Calls Try.prog 86 #[.agg #[.int .u64 p, .int .i64 q, .int .i64 n, .slice ur nr cr], .slice u l.length c] w (Gives (.bool (linB p n (-1) l)) w) := by
  obtain ⟨m, hm⟩ : ∃ m, l.length = m := ⟨_, rfl⟩
  have hs1 := h1.small
  have k1 := (⟨h1.get hm⟩ : Kept _)
  have e1 : Kept (l.length = m) := ⟨hm⟩
  rw [hm] at hs1 ⊢
  clear h1 hm
  go_enter Try.func86, Try.ntmps86
  go_wp2
  go_loopw [5, 10] (fun vs v wr => ∃ (last : Int) (k : Nat) (q0 : Regrown), vs = .int .i64 last ∧ v = .int .i64 (k : Int) ∧ wr = after (w.alloc (.cells #[.int .u64 p, .int .i64 q, .int .i64 n, .slice ur nr cr] 33)) q0 ∧ k ≤ m ∧ I last ∧ Kept (linB p n (-1) l = linB p n last (l.drop k))) (fun _ v _ => (m : Int).toNat - (intOf v).toNat)
  case atStart => exact ⟨-1, 0, ⟨_, #[]⟩, rfl, rfl, by rw [after_none], by omega, ⟨by omega, by omega⟩, ⟨by simp⟩⟩
  case round =>
    obtain ⟨last, k, q0, rfl, rfl, rfl, hk, hla, hI⟩ := hrel
    by_cases h : k < m
    · obtain ⟨b1, o1, x1, y1, rfl, hx1, hb1, hc1, hc2, hX, hU1⟩ := k1.out k h
      have hlx : Kept (linB p n last (l.drop k) = (!(decide (x1 ≤ last)) && decide (x1 < n) && !(y1 == 0) && decide (y1 < p) && linB p n x1 (l.drop (k + 1)))) := ⟨by rw [drop_next hx1]; rfl⟩
      have hI2 : Kept (linB p n (-1) l = (!(decide (x1 ≤ last)) && decide (x1 < n) && !(y1 == 0) && decide (y1 < p) && linB p n x1 (l.drop (k + 1)))) := ⟨by rw [hI.out, hlx.out]⟩
      clear hI hlx k1 hx1
      by_cases t1 : x1 ≤ last
      · have hno : Kept (linB p n (-1) l = false) := ⟨by rw [hI2.out]; simp [t1]⟩
        clear hI2
        go_wp2
        go_ret
        exact ⟨by rw [hno.out]; rfl, (by repeat (first | exact Below.refl _ _ | refine Below.later ?_ _ | refine Below.box ?_ _ | refine Below.drew ?_ | refine Below.put ?_ (by dsimp only; omega) _))⟩
      by_cases t2 : x1 ≥ n
      · have hno : Kept (linB p n (-1) l = false) := ⟨by rw [hI2.out]; have : ¬ x1 < n := by omega
                                                         simp [this]⟩
        clear hI2
        go_wp2
        go_ret
        exact ⟨by rw [hno.out]; rfl, (by repeat (first | exact Below.refl _ _ | refine Below.later ?_ _ | refine Below.box ?_ _ | refine Below.drew ?_ | refine Below.put ?_ (by dsimp only; omega) _))⟩
      by_cases t3 : y1 = 0
      · have hno : Kept (linB p n (-1) l = false) := ⟨by rw [hI2.out]; simp [t3]⟩
        clear hI2
        subst t3
        go_wp2
        go_ret
        exact ⟨by rw [hno.out]; rfl, (by repeat (first | exact Below.refl _ _ | refine Below.later ?_ _ | refine Below.box ?_ _ | refine Below.drew ?_ | refine Below.put ?_ (by dsimp only; omega) _))⟩
      by_cases t4 : y1 ≥ p
      · have hno : Kept (linB p n (-1) l = false) := ⟨by rw [hI2.out]; have : ¬ y1 < p := by omega
                                                         simp [this]⟩
        clear hI2
        go_wp2
        go_ret
        exact ⟨by rw [hno.out]; rfl, (by repeat (first | exact Below.refl _ _ | refine Below.later ?_ _ | refine Below.box ?_ _ | refine Below.drew ?_ | refine Below.put ?_ (by dsimp only; omega) _))⟩
      have hI3 : Kept (linB p n (-1) l = linB p n x1 (l.drop (k + 1))) := ⟨by rw [hI2.out]; have : x1 < n := by omega
                                                                              have : y1 < p := by omega
                                                                              simp [*]⟩
      clear hI2
      go_wp2
      go_roundw
      case rel =>
        obtain ⟨q1, hq1⟩ := after_of (show Below (w.alloc (.cells #[.int .u64 p, .int .i64 q, .int .i64 n, .slice ur nr cr] 33)).heap.size (w.alloc (.cells #[.int .u64 p, .int .i64 q, .int .i64 n, .slice ur nr cr] 33))
          ((after (w.alloc (.cells #[.int .u64 p, .int .i64 q, .int .i64 n, .slice ur nr cr] 33)) q0).alloc (.cells #[.int .i64 x1, .int .u64 y1] 68)) from (by repeat (first | exact Below.refl _ _ | refine Below.later ?_ _ | refine Below.box ?_ _ | refine Below.drew ?_ | refine Below.put ?_ (by dsimp only; omega) _)))
        exact ⟨x1, k + 1, q1, rfl, by go_num, hq1, by omega, hX, hI3⟩
      case measure => first | (simp [intOf]; omega) | (simp [intOf]; done)
    · have hI2 : Kept (linB p n (-1) l = true) := ⟨by rw [hI.out, List.drop_eq_nil_of_le (by have := e1.out; omega)]; rfl⟩
      clear hI k1
      go_wp2
      go_ret
      exact ⟨by rw [hI2.out]; rfl, (by repeat (first | exact Below.refl _ _ | refine Below.later ?_ _ | refine Below.box ?_ _ | refine Below.drew ?_ | refine Below.put ?_ (by dsimp only; omega) _))⟩

/-! ### rows -/
structure Lin where
  u : Option Addr
  c : Nat
  l : List (Int × Int)
def Lin.v (x : Lin) : Value := .slice x.u x.l.length x.c
structure Rw where
  a : Lin
  b : Lin
  c : Lin
structure Rws (w : World) (u : Option Addr) (l : List Rw) : Prop where
  small : (l.length : Int) ≤ 9223372036854775807
  all : ∀ x ∈ l, Tm w x.a.u x.a.l ∧ Tm w x.b.u x.b.l ∧ Tm w x.c.u x.c.l
  mem : l ≠ [] → ∃ b o, u = some ⟨b, o, none⟩ ∧ b < w.heap.size ∧ ∀ (i : Nat) x, l[i]? = some x → w.cell? ⟨b, o + i * 3, none⟩ = some x.a.v ∧ w.cell? ⟨b, o + i * 3 + 1, none⟩ = some x.b.v ∧ w.cell? ⟨b, o + i * 3 + 2, none⟩ = some x.c.v
theorem Rws.below {w w' : World} {u : Option Addr} {l : List Rw} (h : Rws w u l) {B : Nat} (hB : w.heap.size ≤ B) (hb : Below B w w') : Rws w' u l :=
  ⟨h.small, fun x hx => ⟨(h.all x hx).1.below hB hb, (h.all x hx).2.1.below hB hb, (h.all x hx).2.2.below hB hb⟩, fun hne => by
    obtain ⟨b, o, hu, hlt, hc⟩ := h.mem hne
    exact ⟨b, o, hu, Nat.lt_of_lt_of_le hlt hb.size, fun i x hx => by
      rw [hb.cell (p := ⟨b, o + i * 3, none⟩) (Nat.lt_of_lt_of_le hlt hB), hb.cell (p := ⟨b, o + i * 3 + 1, none⟩) (Nat.lt_of_lt_of_le hlt hB), hb.cell (p := ⟨b, o + i * 3 + 2, none⟩) (Nat.lt_of_lt_of_le hlt hB)]; exact hc i x hx⟩⟩
theorem Rws.later {w : World} {u : Option Addr} {l : List Rw} (h : Rws w u l) (p : Regrown) : Rws (after w p) u l := h.below (Nat.le_refl _) (after_below w p)
theorem Rws.box {w : World} {u : Option Addr} {l : List Rw} (h : Rws w u l) (o : Obj) : Rws (w.alloc o) u l := h.below (Nat.le_refl _) ((Below.refl _ w).alloc (Nat.le_refl _) o)
theorem Rws.get {w : World} {u : Option Addr} {l : List Rw} (h : Rws w u l) {n : Nat} (hn : l.length = n) : ∀ k, k < n → ∃ b o x, u = some ⟨b, o, none⟩ ∧ l[k]? = some x ∧ b < w.heap.size ∧
    w.cell? ⟨b, o + k * 3, none⟩ = some x.a.v ∧ w.cell? ⟨b, o + k * 3 + 1, none⟩ = some x.b.v ∧ w.cell? ⟨b, o + k * 3 + 2, none⟩ = some x.c.v ∧ Tm w x.a.u x.a.l ∧ Tm w x.b.u x.b.l ∧ Tm w x.c.u x.c.l := fun k hk => by
  have hne : l ≠ [] := fun e => by subst e; simp at hn; omega
  obtain ⟨b, o, hu, hlt, hc⟩ := h.mem hne
  have hx : l[k]? = some l[k] := List.getElem?_eq_getElem (by omega)
  have ha := h.all _ (List.getElem_mem (l := l) (n := k) (by omega))
  exact ⟨b, o, l[k], hu, hx, hlt, (hc k _ hx).1, (hc k _ hx).2.1, (hc k _ hx).2.2, ha.1, ha.2.1, ha.2.2⟩
theorem Tm.ulen {w : World} {u : Option Addr} {l : List (Int × Int)} (h : Tm w u l) : ∀ q, Tm (after w q) u l := fun q => h.later q

def rowB (p n : Int) (x : Rw) : Bool := linB p n (-1) x.a.l && linB p n (-1) x.b.l && linB p n (-1) x.c.l

theorem validRow_c (p q n : Int) (ur : Option Addr) (nr cr : Nat) (x : Rw) (w : World) (ha : Tm w x.a.u x.a.l) (hb : Tm w x.b.u x.b.l) (hc : Tm w x.c.u x.c.l) :
    Calls Try.prog 79 #[.agg #[.int .u64 p, .int .i64 q, .int .i64 n, .slice ur nr cr], .agg #[x.a.v, x.b.v, x.c.v]] w (Gives (.bool (rowB p n x)) w) := by
  obtain ⟨⟨au, ac, al⟩, ⟨bu, bc, bl⟩, ⟨cu, cc, cl⟩⟩ := x
  simp only [Lin.v, rowB] at *
  obtain ⟨tb, hB⟩ : ∃ t, linB p n (-1) bl = t := ⟨_, rfl⟩
  obtain ⟨tc, hC⟩ : ∃ t, linB p n (-1) cl = t := ⟨_, rfl⟩
  obtain ⟨ta, hA⟩ : ∃ t, linB p n (-1) al = t := ⟨_, rfl⟩
  have c1 : Kept (∀ w', Below w.heap.size w w' → Calls Try.prog 86 #[.agg #[.int .u64 p, .int .i64 q, .int .i64 n, .slice ur nr cr], .slice au al.length ac] w' (Gives (.bool ta) w')) := ⟨fun w' h => by
    have := validLinear_c p q n ur nr cr au ac al w' (ha.below (Nat.le_refl _) h); rw [hA] at this; exact this⟩
  have c2 : Kept (∀ w', Below w.heap.size w w' → Calls Try.prog 86 #[.agg #[.int .u64 p, .int .i64 q, .int .i64 n, .slice ur nr cr], .slice bu bl.length bc] w' (Gives (.bool tb) w')) := ⟨fun w' h => by
    have := validLinear_c p q n ur nr cr bu bc bl w' (hb.below (Nat.le_refl _) h); rw [hB] at this; exact this⟩
  have c3 : Kept (∀ w', Below w.heap.size w w' → Calls Try.prog 86 #[.agg #[.int .u64 p, .int .i64 q, .int .i64 n, .slice ur nr cr], .slice cu cl.length cc] w' (Gives (.bool tc) w')) := ⟨fun w' h => by
    have := validLinear_c p q n ur nr cr cu cc cl w' (hc.below (Nat.le_refl _) h); rw [hC] at this; exact this⟩
  rw [hA, hB, hC]
  generalize al.length = an at *
  generalize bl.length = bn at *
  generalize cl.length = cn at *
  clear hA hB hC ha hb hc
  go_enter Try.func79, Try.ntmps79
  cases ta
  · go_wp2_with (first | (go_at_call 86; (first | with_reducible refine use1 (c1.out _ (by repeat (first | exact Below.refl _ _ | refine Below.later ?_ _ | refine Below.box ?_ _ | refine Below.drew ?_ | refine Below.put ?_ (by dsimp only; omega) _))) ?_ | with_reducible refine use (c1.out _ (by repeat (first | exact Below.refl _ _ | refine Below.later ?_ _ | refine Below.box ?_ _ | refine Below.drew ?_ | refine Below.put ?_ (by dsimp only; omega) _))) ?_); intro pw))
    go_ret
    exact ⟨rfl, (by repeat (first | exact Below.refl _ _ | refine Below.later ?_ _ | refine Below.box ?_ _ | refine Below.drew ?_ | refine Below.put ?_ (by dsimp only; omega) _))⟩
  cases tb
  · go_wp2_with (first | (go_at_call 86; (first | with_reducible refine use1 (c1.out _ (by repeat (first | exact Below.refl _ _ | refine Below.later ?_ _ | refine Below.box ?_ _ | refine Below.drew ?_ | refine Below.put ?_ (by dsimp only; omega) _))) ?_ | with_reducible refine use (c1.out _ (by repeat (first | exact Below.refl _ _ | refine Below.later ?_ _ | refine Below.box ?_ _ | refine Below.drew ?_ | refine Below.put ?_ (by dsimp only; omega) _))) ?_); intro pw) | (go_at_call 86; (first | with_reducible refine use1 (c2.out _ (by repeat (first | exact Below.refl _ _ | refine Below.later ?_ _ | refine Below.box ?_ _ | refine Below.drew ?_ | refine Below.put ?_ (by dsimp only; omega) _))) ?_ | with_reducible refine use (c2.out _ (by repeat (first | exact Below.refl _ _ | refine Below.later ?_ _ | refine Below.box ?_ _ | refine Below.drew ?_ | refine Below.put ?_ (by dsimp only; omega) _))) ?_); intro pw))
    go_ret
    exact ⟨rfl, (by repeat (first | exact Below.refl _ _ | refine Below.later ?_ _ | refine Below.box ?_ _ | refine Below.drew ?_ | refine Below.put ?_ (by dsimp only; omega) _))⟩
  cases tc
  · go_wp2_with (first | (go_at_call 86; (first | with_reducible refine use1 (c1.out _ (by repeat (first | exact Below.refl _ _ | refine Below.later ?_ _ | refine Below.box ?_ _ | refine Below.drew ?_ | refine Below.put ?_ (by dsimp only; omega) _))) ?_ | with_reducible refine use (c1.out _ (by repeat (first | exact Below.refl _ _ | refine Below.later ?_ _ | refine Below.box ?_ _ | refine Below.drew ?_ | refine Below.put ?_ (by dsimp only; omega) _))) ?_); intro pw) | (go_at_call 86; (first | with_reducible refine use1 (c2.out _ (by repeat (first | exact Below.refl _ _ | refine Below.later ?_ _ | refine Below.box ?_ _ | refine Below.drew ?_ | refine Below.put ?_ (by dsimp only; omega) _))) ?_ | with_reducible refine use (c2.out _ (by repeat (first | exact Below.refl _ _ | refine Below.later ?_ _ | refine Below.box ?_ _ | refine Below.drew ?_ | refine Below.put ?_ (by dsimp only; omega) _))) ?_); intro pw) | (go_at_call 86; (first | with_reducible refine use1 (c3.out _ (by repeat (first | exact Below.refl _ _ | refine Below.later ?_ _ | refine Below.box ?_ _ | refine Below.drew ?_ | refine Below.put ?_ (by dsimp only; omega) _))) ?_ | with_reducible refine use (c3.out _ (by repeat (first | exact Below.refl _ _ | refine Below.later ?_ _ | refine Below.box ?_ _ | refine Below.drew ?_ | refine Below.put ?_ (by dsimp only; omega) _))) ?_); intro pw))
    go_ret
    exact ⟨rfl, (by repeat (first | exact Below.refl _ _ | refine Below.later ?_ _ | refine Below.box ?_ _ | refine Below.drew ?_ | refine Below.put ?_ (by dsimp only; omega) _))⟩
  · go_wp2_with (first | (go_at_call 86; (first | with_reducible refine use1 (c1.out _ (by repeat (first | exact Below.refl _ _ | refine Below.later ?_ _ | refine Below.box ?_ _ | refine Below.drew ?_ | refine Below.put ?_ (by dsimp only; omega) _))) ?_ | with_reducible refine use (c1.out _ (by repeat (first | exact Below.refl _ _ | refine Below.later ?_ _ | refine Below.box ?_ _ | refine Below.drew ?_ | refine Below.put ?_ (by dsimp only; omega) _))) ?_); intro pw) | (go_at_call 86; (first | with_reducible refine use1 (c2.out _ (by repeat (first | exact Below.refl _ _ | refine Below.later ?_ _ | refine Below.box ?_ _ | refine Below.drew ?_ | refine Below.put ?_ (by dsimp only; omega) _))) ?_ | with_reducible refine use (c2.out _ (by repeat (first | exact Below.refl _ _ | refine Below.later ?_ _ | refine Below.box ?_ _ | refine Below.drew ?_ | refine Below.put ?_ (by dsimp only; omega) _))) ?_); intro pw) | (go_at_call 86; (first | with_reducible refine use1 (c3.out _ (by repeat (first | exact Below.refl _ _ | refine Below.later ?_ _ | refine Below.box ?_ _ | refine Below.drew ?_ | refine Below.put ?_ (by dsimp only; omega) _))) ?_ | with_reducible refine use (c3.out _ (by repeat (first | exact Below.refl _ _ | refine Below.later ?_ _ | refine Below.box ?_ _ | refine Below.drew ?_ | refine Below.put ?_ (by dsimp only; omega) _))) ?_); intro pw))
    go_ret
    exact ⟨rfl, (by repeat (first | exact Below.refl _ _ | refine Below.later ?_ _ | refine Below.box ?_ _ | refine Below.drew ?_ | refine Below.put ?_ (by dsimp only; omega) _))⟩

def szB (p q n : Int) : Bool := vld p && decide (0 ≤ q) && decide (q < n) && decide (n ≤ 65536)
theorem validSizes_c (p q n : Int) (ur : Option Addr) (nr cr : Nat) (w : World) :
    Calls Try.prog 78 #[.agg #[.int .u64 p, .int .i64 q, .int .i64 n, .slice ur nr cr]] w (Gives (.bool (szB p q n)) w) := by
  cases hv : vld p
  · have hno : Kept (szB p q n = false) := ⟨by simp [szB, hv]⟩
    have cv : Kept (∀ w, Calls Try.prog 73 #[.agg #[.int .u64 p]] w (Gives (.bool false) w)) := ⟨fun w => by have := valid_c p w; rw [hv] at this; exact this⟩
    clear hv
    go_enter Try.func78, Try.ntmps78
    go_wp2_with (first | (go_at_call 73; (first | with_reducible refine use1 (cv.out _) ?_ | with_reducible refine use (cv.out _) ?_); intro pw))
    go_ret
    exact ⟨by rw [hno.out]; rfl, (by repeat (first | exact Below.refl _ _ | refine Below.later ?_ _ | refine Below.box ?_ _ | refine Below.drew ?_ | refine Below.put ?_ (by dsimp only; omega) _))⟩
  have cv : Kept (∀ w, Calls Try.prog 73 #[.agg #[.int .u64 p]] w (Gives (.bool true) w)) := ⟨fun w => by have := valid_c p w; rw [hv] at this; exact this⟩
  by_cases h1 : 0 ≤ q
  · by_cases h2 : q < n
    · by_cases h3 : n ≤ 65536
      · have hno : Kept (szB p q n = true) := ⟨by simp [szB, hv, h1, h2, h3]⟩
        clear hv
        go_enter Try.func78, Try.ntmps78
        go_wp2_with (first | (go_at_call 73; (first | with_reducible refine use1 (cv.out _) ?_ | with_reducible refine use (cv.out _) ?_); intro pw))
        go_ret
        exact ⟨by rw [hno.out]; rfl, (by repeat (first | exact Below.refl _ _ | refine Below.later ?_ _ | refine Below.box ?_ _ | refine Below.drew ?_ | refine Below.put ?_ (by dsimp only; omega) _))⟩
      · have hno : Kept (szB p q n = false) := ⟨by simp [szB, h3]⟩
        clear hv
        go_enter Try.func78, Try.ntmps78
        go_wp2_with (first | (go_at_call 73; (first | with_reducible refine use1 (cv.out _) ?_ | with_reducible refine use (cv.out _) ?_); intro pw))
        go_ret
        exact ⟨by rw [hno.out]; show Ending.returned (Value.bool (decide (n ≤ 65536))) = _; rw [show decide (n ≤ 65536) = false from by simp; omega], (by repeat (first | exact Below.refl _ _ | refine Below.later ?_ _ | refine Below.box ?_ _ | refine Below.drew ?_ | refine Below.put ?_ (by dsimp only; omega) _))⟩
    · have hno : Kept (szB p q n = false) := ⟨by simp [szB, h2]⟩
      clear hv
      go_enter Try.func78, Try.ntmps78
      go_wp2_with (first | (go_at_call 73; (first | with_reducible refine use1 (cv.out _) ?_ | with_reducible refine use (cv.out _) ?_); intro pw))
      go_ret
      exact ⟨by rw [hno.out]; rfl, (by repeat (first | exact Below.refl _ _ | refine Below.later ?_ _ | refine Below.box ?_ _ | refine Below.drew ?_ | refine Below.put ?_ (by dsimp only; omega) _))⟩
  · have hno : Kept (szB p q n = false) := ⟨by simp [szB, h1]⟩
    clear hv
    go_enter Try.func78, Try.ntmps78
    go_wp2_with (first | (go_at_call 73; (first | with_reducible refine use1 (cv.out _) ?_ | with_reducible refine use (cv.out _) ?_); intro pw))
    go_ret
    exact ⟨by rw [hno.out]; rfl, (by repeat (first | exact Below.refl _ _ | refine Below.later ?_ _ | refine Below.box ?_ _ | refine Below.drew ?_ | refine Below.put ?_ (by dsimp only; omega) _))⟩

end Go.Proofs.Ytkpkgjniicnkcaa
