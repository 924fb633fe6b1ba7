/- soundness.linear. -/
import Derived.Test.YtkpkgjniicnkcaaHQfr
import Derived.Test.YtkpkgjniicnkcaaHLct
import Derived.Test.YtkpkgjniicnkcaaQE
namespace Go.Proofs.Ytkpkgjniicnkcaa
open Go.RowKit Go.Sort

set_option maxRecDepth 100000
set_option pp.maxSteps 300
@[go_sem] theorem iidx_0 (x y z t : Value) (w : World) : (Instr.index 39 (.agg #[x, y, z, t]) (.int .i64 0)).run Try.prog w = .ok x w := by kernel_rfl
@[go_sem] theorem iidx_1 (x y z t : Value) (w : World) : (Instr.index 39 (.agg #[x, y, z, t]) (.int .i64 1)).run Try.prog w = .ok y w := by kernel_rfl
@[go_sem] theorem iidx_2 (x y z t : Value) (w : World) : (Instr.index 39 (.agg #[x, y, z, t]) (.int .i64 2)).run Try.prog w = .ok z w := by kernel_rfl
@[go_sem] theorem iidx_3 (x y z t : Value) (w : World) : (Instr.index 39 (.agg #[x, y, z, t]) (.int .i64 3)).run Try.prog w = .ok t w := by kernel_rfl
def pfs (P0 P : Nat) (i : Nat) : Nat := if i = 0 then P0 else P
theorem iidx_c (i : Nat) (hi : i < 4) (P0 P : Nat) (w : World) : (Instr.index 39 (.agg #[.int .i64 (P0 : Nat), .int .i64 (P : Nat), .int .i64 (P : Nat), .int .i64 (P : Nat)]) (.int .i64 (i : Int))).run Try.prog w = .ok (.int .i64 ((pfs P0 P i : Nat) : Int)) w := by
  match i, hi with
  | 0, _ => exact iidx_0 _ _ _ _ _
  | 1, _ => exact iidx_1 _ _ _ _ _
  | 2, _ => exact iidx_2 _ _ _ _ _
  | 3, _ => exact iidx_3 _ _ _ _ _
def ah (P0 P : Nat) : Nat → Nat
  | 0 => 0
  | i + 1 => ah P0 P i + pfs P0 P i
def rowsOf (ls : List (List Int)) (a j : Nat) : List Int := ((ls.drop a).take j).flatten
def vecs (ls : List (List Int)) (P0 P i j k : Nat) : List Int := if k < i then rowsOf ls (ah P0 P k) (pfs P0 P k) else if k = i then rowsOf ls (ah P0 P i) j else []
theorem rowsOf_next {ls : List (List Int)} {a j : Nat} {l : List Int} (h : (ls.drop a)[j]? = some l) : rowsOf ls a (j + 1) = rowsOf ls a j ++ l := by
  unfold rowsOf; rw [List.take_add_one, h]; simp
theorem rowsOf_len {ls : List (List Int)} {B : Nat} (h : ∀ l ∈ ls, l.length = B) (a : Nat) : ∀ j, a + j ≤ ls.length → (rowsOf ls a j).length = j * B
  | 0, _ => by simp [rowsOf]
  | j + 1, hj => by
    have hx : (ls.drop a)[j]? = some ls[a + j] := by rw [List.getElem?_drop]; exact List.getElem?_eq_getElem (by omega)
    rw [rowsOf_next hx, List.length_append, rowsOf_len h a j (by omega), h _ (List.getElem_mem _), Nat.add_mul, Nat.one_mul]
theorem rowsOf_at {ls : List (List Int)} {B : Nat} (hB : 1 ≤ B) (h : ∀ l ∈ ls, l.length = B) (a : Nat) : ∀ j, a + j ≤ ls.length → ∀ i, i < j * B → (rowsOf ls a j).getD i 0 = (ls.getD (a + i / B) []).getD (i % B) 0
  | 0, _, i, hi => by omega
  | j + 1, hj, i, hi => by
    have hx : (ls.drop a)[j]? = some ls[a + j] := by rw [List.getElem?_drop]; exact List.getElem?_eq_getElem (by omega)
    have hl := rowsOf_len h a j (by omega)
    rw [rowsOf_next hx]
    by_cases hij : i < j * B
    · rw [List.getD, List.getElem?_append_left (by rw [hl]; exact hij), ← List.getD]; exact rowsOf_at hB h a j (by omega) i hij
    · rw [Nat.add_mul, Nat.one_mul] at hi
      have hd : i / B = j := Nat.div_eq_of_lt_le (by omega) (by rw [Nat.add_mul]; omega)
      have hm : i % B = i - j * B := by
        have := Nat.div_add_mod i B
        rw [hd, Nat.mul_comm] at this; omega
      have hx2 : ls[a + j]? = some ls[a + j] := List.getElem?_eq_getElem (by omega)
      rw [List.getD, List.getElem?_append_right (by rw [hl]; omega), hl, hd, hm, List.getD, List.getD, hx2]; rfl
theorem rowsOf_U {ls : List (List Int)} (h : ∀ l ∈ ls, ∀ x ∈ l, U x) (a j : Nat) : ∀ x ∈ rowsOf ls a j, U x := by
  intro x hx
  simp only [rowsOf, List.mem_flatten] at hx
  obtain ⟨l, hl, hx⟩ := hx
  exact h l (List.mem_of_mem_drop (List.mem_of_mem_take hl)) x hx
theorem Mt.drop {w : World} {b o : Nat} {ls : List (List Int)} (h : Mt w (some ⟨b, o, none⟩) ls) (n : Nat) : Mt w (some ⟨b, o + n, none⟩) (ls.drop n) :=
  ⟨by have := h.small; rw [List.length_drop]; omega, fun hne => by
    obtain ⟨b', o', e, hlt, hc⟩ := h.mem (fun e => by subst e; simp at hne)
    injection e with e
    injection e with e1 e2
    subst e1 e2
    exact ⟨b, o + n, rfl, hlt, fun i l hl => by
      rw [List.getElem?_drop] at hl
      obtain ⟨v, c, h1, h2⟩ := hc _ l hl
      exact ⟨v, c, by rw [Nat.add_assoc]; exact h1, h2⟩⟩⟩
theorem Mt.nil (w : World) (u : Option Addr) : Mt w u [] := ⟨by simp, fun h => absurd rfl h⟩
/-- The assignment that messages and public values give. -/
def wsC (ls : List (List Int)) (B P0 P S : Nat) (ps : List Int) : List Int := 1 :: (ps ++ (List.range S).map (eleV ls B P0 P P 0))
def linR (p : Int) (ws : List Int) (R : List Rw) (ev : Nat → Nat → Int) (i : Nat) : Bool := (List.range 3).all fun k => ev (k + 1) i == valL p ws (side k (R.getD i rw0)).l
def linC (p : Int) (ws : List Int) (R : List Rw) (ev : Nat → Nat → Int) (m : Nat) : Bool := (List.range m).all (linR p ws R ev)
theorem ah_ahead (P0 P k : Nat) (hk : k < 4) : ah P0 P k = ahead P0 P P k := by
  match k, hk with
  | 0, _ => rfl
  | 1, _ => simp [ah, ahead, pfs]
  | 2, _ => simp [ah, ahead, pfs]
  | 3, _ => simp [ah, ahead, pfs]
theorem rowsOf_ele {ls : List (List Int)} {B P0 P k : Nat} (hB : 1 ≤ B) (h : ∀ l ∈ ls, l.length = B) (hk : k < 4) (hle : ah P0 P k + pfs P0 P k ≤ ls.length) {i : Nat} (hi : i < pfs P0 P k * B) : (rowsOf ls (ah P0 P k) (pfs P0 P k)).getD i 0 = eleV ls B P0 P P k i := by
  rw [rowsOf_at hB h _ _ hle i hi, eleV, ah_ahead P0 P k hk]
theorem rowsOf_take {ls : List (List Int)} {B P0 P S : Nat} (hB : 1 ≤ B) (h : ∀ l ∈ ls, l.length = B) (hle : P0 ≤ ls.length) (hS : S ≤ P0 * B) : (rowsOf ls 0 P0).take S = (List.range S).map (eleV ls B P0 P P 0) := by
  have hl := rowsOf_len h 0 P0 (by omega)
  apply List.ext_getElem?
  intro i
  rw [List.getElem?_take]
  by_cases hi : i < S
  · rw [if_pos hi, List.getElem?_map, List.getElem?_range hi]
    have hx : (rowsOf ls 0 P0)[i]? = some (rowsOf ls 0 P0)[i] := List.getElem?_eq_getElem (by omega)
    have := rowsOf_ele (k := 0) (P0 := P0) (P := P) hB h (by omega) (by simp [ah, pfs]; omega) (i := i) (by simp [pfs]; omega)
    simp only [ah, pfs, if_true] at this
    rw [List.getD, hx] at this
    rw [hx]
    show _ = some (eleV ls B P0 P P 0 i)
    rw [← this]; rfl
  · rw [if_neg hi, List.getElem?_eq_none (by simp; omega)]

set_option maxHeartbeats 8000000 in
theorem linear_c (B P0 P S : Nat) (p q k n pub vs : Int) (u : Option Addr) (c : Nat) (ls : List (List Int)) (up : Option Addr) (cp : Nat) (ps : List Int) (ur : Option Addr) (cr : Nat) (R : List Rw) (w : World) (hb : 1 ≤ B ∧ B ≤ 256) (hP0 : P0 ≤ 70000) (hP : P ≤ 70000) (hP0B : P0 * B ≤ 70000) (hPB : P * B ≤ 70000) (hS : S ≤ P0 * B)
    (hm16 : R.length ≤ P * B) (hMt : Mt w u ls) (hlen : ls.length = P0 + P + P + P) (hc : ls.length ≤ c) (hu : (u = none ∧ c = 0) ∨ ∃ mb mo, u = some ⟨mb, mo, none⟩) (hfull : ∀ l ∈ ls, l.length = B) (hUl : ∀ l ∈ ls, ∀ x ∈ l, U x)
    (hps : Ls w up ps) (hup : up = none → cp = 0) (hpl : ps.length ≤ 65536) (hR : Rws w ur R) :
    Calls Try.prog 45 #[.agg #[.int .u64 p, .int .i64 (B : Int), .int .i64 q, .int .i64 k, .int .i64 n, .int .i64 (S : Int), .int .i64 R.length, .int .i64 (P0 : Nat), .int .i64 (P : Nat), .int .i64 (P : Nat), .int .i64 (P : Nat)], .agg #[.int .u64 p, .int .i64 pub, .int .i64 vs, .slice ur R.length cr], .slice up ps.length cp, .slice u ls.length c] w
      (Gives (.bool (linC p (wsC ls B P0 P S ps) R (eleV ls B P0 P P) R.length)) w) := by
  obtain ⟨m, hm⟩ : ∃ m, R.length = m := ⟨_, rfl⟩
  obtain ⟨np, hnp⟩ : ∃ m, ps.length = m := ⟨_, rfl⟩
  obtain ⟨M, hM⟩ : ∃ m, ls.length = m := ⟨_, rfl⟩
  have kR : Kept (Rws w ur R) := ⟨hR⟩
  have kps : Kept (Ls w up ps ∧ (up = none → cp = 0)) := ⟨hps, hup⟩
  have kMt : Kept (Mt w u ls) := ⟨hMt⟩
  have kfull : Kept ((∀ l ∈ ls, l.length = B) ∧ ∀ l ∈ ls, ∀ x ∈ l, U x) := ⟨hfull, hUl⟩
  have kform : Kept ((u = none ∧ c = 0) ∨ ∃ mb mo, u = some ⟨mb, mo, none⟩) := ⟨hu⟩
  have hb0 : Kept (1 ≤ B) := ⟨hb.1⟩
  have e1 : Kept (R.length = m) := ⟨hm⟩
  have e2 : Kept (ps.length = np) := ⟨hnp⟩
  have e3 : Kept (ls.length = M) := ⟨hM⟩
  have kM : Kept (M = P0 + P + P + P) := ⟨by omega⟩
  have khi : Kept (P0 * B ≤ 70000 ∧ P * B ≤ 70000 ∧ S ≤ P0 * B ∧ m ≤ P * B) := ⟨hP0B, hPB, hS, by omega⟩
  have hm7 : m ≤ 70000 := by omega
  have hM7 : M ≤ 280000 := by omega
  have hS7 : S ≤ 70000 := by omega
  have kah : Kept (∀ i, i < 4 → ah P0 P i + pfs P0 P i ≤ M) := ⟨fun i hi => by
    match i, hi with
    | 0, _ => simp [ah, pfs]; omega
    | 1, _ => simp [ah, pfs]; omega
    | 2, _ => simp [ah, pfs]; omega
    | 3, _ => simp [ah, pfs]; omega⟩
  have kpf : Kept (∀ i, pfs P0 P i ≤ 70000 ∧ pfs P0 P i * B ≤ 70000) := ⟨fun i => by unfold pfs; split <;> exact ⟨by omega, by omega⟩⟩
  rw [hm] at hm16 ⊢
  rw [hnp] at hpl ⊢
  rw [hM] at hc ⊢
  clear hR hps hup hm hnp hM hMt hfull hUl hu hlen hP0B hPB hS hm16
  obtain ⟨ev, hev⟩ : ∃ ev, eleV ls B P0 P P = ev := ⟨_, rfl⟩
  obtain ⟨ws, hwse⟩ : ∃ ws, wsC ls B P0 P S ps = ws := ⟨_, rfl⟩
  have kev : Kept (eleV ls B P0 P P = ev) := ⟨hev⟩
  have kws : Kept (wsC ls B P0 P S ps = ws) := ⟨hwse⟩
  rw [hev, hwse]
  clear hev hwse
  go_enter Try.func45, Try.ntmps45
  go_wp2
  obtain ⟨W1, hW1⟩ : ∃ W1, W1 = (w.alloc (.cells #[.int .u64 p, .int .i64 (B : Int), .int .i64 q, .int .i64 k, .int .i64 n, .int .i64 (S : Int), .int .i64 (m : Int), .int .i64 (P0 : Nat), .int .i64 (P : Nat), .int .i64 (P : Nat), .int .i64 (P : Nat)] 46)).alloc (.cells #[.int .u64 p, .int .i64 pub, .int .i64 vs, .slice ur m cr] 33) := ⟨_, rfl⟩
  rw [← hW1]
  have hWs : W1.heap.size = w.heap.size + 1 + 1 := by rw [hW1]; simp
  have hB1 : Kept (Below w.heap.size w W1) := ⟨by rw [hW1]; exact (by repeat (first | exact Below.refl _ _ | refine Below.later ?_ _ | refine Below.box ?_ _ | refine Below.drew ?_ | refine Below.put ?_ (by dsimp only; omega) _))⟩
  have kall : Kept (∀ w', Below W1.heap.size W1 w' → w'.cell? ⟨w.heap.size, 0, none⟩ = some (.int .u64 p) ∧ w'.cell? ⟨w.heap.size, 5, none⟩ = some (.int .i64 (S : Int)) ∧ w'.cell? ⟨w.heap.size + 1, 3, none⟩ = some (.slice ur m cr) ∧ w.heap.size < w'.heap.size ∧ w.heap.size + 1 < w'.heap.size) := ⟨fun w' hw => by
    have := hw.size
    refine ⟨?_, ?_, ?_, by omega, by omega⟩
    · rw [hw.cell (p := ⟨w.heap.size, 0, none⟩) (by simp only []; omega), hW1]; simp [go_sem]
    · rw [hw.cell (p := ⟨w.heap.size, 5, none⟩) (by simp only []; omega), hW1]; simp [go_sem]
    · rw [hw.cell (p := ⟨w.heap.size + 1, 3, none⟩) (by simp only []; omega), hW1]; simp [go_sem]⟩
  obtain ⟨VB, hVB⟩ : ∃ VB, VB = w.heap.size + 1 + 1 := ⟨_, rfl⟩
  rw [← hVB] at hWs ⊢
  have hQ0 : Kept (Qfr (fun _ => True) W1 (W1.alloc (.cells #[.slice none 0 0, .slice none 0 0, .slice none 0 0, .slice none 0 0] 90)) VB (fun _ => .slice none 0 0) (vecs ls P0 P 0 0)) := ⟨by
    refine ⟨fun j hj _ => ?_, fun j hj _ => by simp [Value.ownBlock], fun i j b _ _ _ _ _ h => by simp [Value.ownBlock] at h, ?_, by omega, fun j hj _ x hx => ?_⟩
    · have e : vecs ls P0 P 0 0 j = [] := by unfold vecs; rw [if_neg (by omega)]; split <;> simp [rowsOf]
      rw [e]
      exact (Grown.nil0 _ W1).keep (by repeat (first | exact Below.refl _ _ | refine Below.later ?_ _ | refine Below.box ?_ _ | refine Below.drew ?_ | refine Below.put ?_ (by dsimp only; omega) _))
    · rw [← hWs]
      exact World.rowIs_alloc W1 #[.slice none 0 0, .slice none 0 0, .slice none 0 0, .slice none 0 0] 90 (fun _ => .slice none 0 0) (fun i hi => by
        match i, hi with
        | 0, _ => rfl
        | 1, _ => rfl
        | 2, _ => rfl
        | 3, _ => rfl)
    · have e : vecs ls P0 P 0 0 j = [] := by unfold vecs; rw [if_neg (by omega)]; split <;> simp [rowsOf]
      rw [e] at hx; simp at hx⟩
  clear hW1 hVB
  go_loopw [3, 22] (fun vm vi wr => ∃ (i : Nat) (u' : Option Addr) (c' : Nat) (vs' : Nat → Value), vi = .int .i64 (i : Int) ∧ i ≤ 4 ∧ vm = .slice u' (M - ah P0 P i) c' ∧ Kept (Mt w u' (ls.drop (ah P0 P i)) ∧ ((u' = none ∧ c' = 0) ∨ ∃ mb mo, u' = some ⟨mb, mo, none⟩) ∧ M - ah P0 P i ≤ c') ∧ Kept (Qfr (fun _ => True) W1 wr VB vs' (vecs ls P0 P i 0))) (fun _ vi _ => (4 - intOf vi).toNat)
  case atStart => exact ⟨0, u, c, _, rfl, by omega, by simp [ah], ⟨by simpa [ah] using kMt.out, kform.out, by simp [ah]; omega⟩, hQ0⟩
  case round =>
    clear hQ0
    obtain ⟨i, u', c', vs', rfl, hi, rfl, hMu, hQ⟩ := hrel
    obtain ⟨w1, rfl⟩ : ∃ x, x = wr := ⟨wr, rfl⟩
    have hBq := (hQ.out.own 0 (by omega) trivial).below
    by_cases h : i < 4
    · have hi2 : (i : Int) < 4 := by omega
      have hix := fun w => iidx_c i h P0 P w
      obtain ⟨a, ha⟩ : ∃ a, ah P0 P i = a := ⟨_, rfl⟩
      obtain ⟨pi, hpi⟩ : ∃ a, pfs P0 P i = a := ⟨_, rfl⟩
      have hap := kah.out i h
      have hpf := kpf.out i
      rw [ha, hpi] at hap
      rw [hpi] at hpf hix
      rw [ha] at hMu ⊢
      have ka : Kept (ah P0 P i = a ∧ pfs P0 P i = pi) := ⟨ha, hpi⟩
      have hpi7 : pi ≤ 70000 := hpf.1
      have hpic : (pi : Int) ≤ (c' : Int) := by have := hMu.out.2.2; omega
      have hpin : pi ≤ M - a := by omega
      clear ha hpi hap hBq
      go_wp2
      go_loopw [30] (fun vj wr => ∃ (j : Nat) (vs' : Nat → Value), vj = .int .i64 (j : Int) ∧ j ≤ pi ∧ Kept (Qfr (fun _ => True) W1 wr VB vs' (vecs ls P0 P i j))) (fun vj _ => ((pi : Int) - intOf vj).toNat)
      case atStart => exact ⟨0, vs', rfl, by omega, hQ⟩
      case round =>
        clear hQ
        obtain ⟨j, vs2, rfl, hj, hQ⟩ := hrel
        obtain ⟨w2, rfl⟩ : ∃ x, x = wr := ⟨wr, rfl⟩
        by_cases h2 : j < pi
        · have hBq := (hQ.out.own 0 (by omega) trivial).below
          obtain ⟨mb, mo, l, v, cl, rfl, hl, hmb, hmc, hL⟩ := hMu.out.1.get (n := M - a) (by rw [List.length_drop, e3.out]) j (by omega)
          have hmem := List.mem_of_mem_drop (List.mem_of_getElem? hl)
          have hlB := kfull.out.1 l hmem
          have hBw := Below.next hB1.out hBq
          have hmc' : w2.cell? ⟨mb, mo + j, none⟩ = some (.slice v B cl) := by rw [hBw.cell (p := ⟨mb, mo + j, none⟩) hmb, hmc, hlB]
          have hmb' : mb < w2.heap.size := by have := hBw.size; omega
          have hvi : w2.cell? ⟨VB, i, none⟩ = some (vs2 i) := hQ.out.arr.cell h
          have hfi : w2.frozen? ⟨VB, i, none⟩ = false := hQ.out.arr.frozen i
          have hVlt : VB < w2.heap.size := hQ.out.arr.lt
          have hLw : Kept (Ls w2 v l ∧ l.length = B ∧ (v = none → cl = 0)) := ⟨hL.below (Nat.le_refl _) hBw, hlB, fun e => by
            obtain ⟨_, _, e2, _⟩ := hL.mem (fun e => by subst e; simp at hlB; omega)
            rw [e] at e2; cases e2⟩
          obtain ⟨nl, hnl⟩ : ∃ nl, (vecs ls P0 P i j i).length = nl := ⟨_, rfl⟩
          have hnl7 : nl ≤ 70000 := by
            rw [← hnl, vecs, if_neg (by omega), if_pos rfl, ka.out.1, rowsOf_len kfull.out.1 a j (by rw [e3.out]; omega)]
            exact Nat.le_trans (Nat.mul_le_mul_right _ hj) hpf.2
          have hGi : Kept (Grown 23 W1 w2 (vs2 i) nl ((vecs ls P0 P i j i).map fun z => Value.int .u64 z)) := ⟨by rw [← hnl]; exact hQ.out.own i h trivial⟩
          have hnx : Kept (vecs ls P0 P i j i ++ l = vecs ls P0 P i (j + 1) i) := ⟨by
            unfold vecs; rw [if_neg (by omega), if_pos rfl, if_neg (by omega), if_pos rfl, ka.out.1]
            exact (rowsOf_next hl).symm⟩
          have hUl : Kept (∀ x ∈ l, U x) := ⟨fun x hx => kfull.out.2 l hmem x hx⟩
          have hnl' := (⟨hnl⟩ : Kept _)
          clear hl hmc hmb hL hmem hlB hBw hBq hnl
          go_wp2_with (first | (at_builtin; refine wpList_pushL (W := W1) rfl _ _ rfl _ (vecs ls P0 P i j i) nl hnl'.out hGi.out rfl v l B cl hLw.out.2.1 rfl hLw.out.1 hLw.out.2.2 (by omega) ?_; intro v3 w3 hG hkeep hsz hat; refine Stop.out ?_))
          refine ⟨?_⟩
          have hst : Kept (Qfr (fun _ => True) W1 (w3.setCell ⟨VB, i, none⟩ v3) VB (fun j => if j = i then v3 else vs2 j) (vecs ls P0 P i (j + 1))) := ⟨(hQ.out.step h trivial hUl.out hG hkeep hat).congr fun k hk => by
            by_cases e : k = i
            · subst e; rw [if_pos rfl, hnx.out]
            · rw [if_neg e]; unfold vecs; rw [if_neg e, if_neg e]⟩
          have h3i : w3.cell? ⟨VB, i, none⟩ = some (vs2 i) := by
            rw [World.cell?_of_block (w := w2) (a := ⟨VB, i, none⟩) (hkeep VB hVlt (hQ.out.off i h trivial))]; exact hvi
          have h3f : w3.frozen? ⟨VB, i, none⟩ = false := by
            rw [World.frozen?_of_block (hkeep VB hVlt (hQ.out.off i h trivial))]; exact hfi
          have hV3 : VB < w3.heap.size := by omega
          have hone : v3.oneCell' = true := by
            obtain ⟨_, _, e, _⟩ := hG.form
            rw [e]; rfl
          obtain ⟨x3, y3, z3, rfl⟩ : ∃ x y z, v3 = .slice x y z := by
            obtain ⟨x, y, e, _⟩ := hG.form
            exact ⟨_, _, _, e⟩
          clear hG hkeep hsz hat hGi hQ hvi hfi hVlt hmc' hmb'
          go_wp2
          go_roundw
          case rel => exact ⟨j + 1, _, by go_num, by omega, hst⟩
          case measure => first | (simp [intOf]; omega) | (simp [intOf]; done)
        · have hjp : j = pi := by omega
          have hQ2 : Kept (Qfr (fun _ => True) W1 w2 VB vs2 (vecs ls P0 P (i + 1) 0)) := ⟨hQ.out.congr fun k hk => by
            unfold vecs
            by_cases e : k < i
            · rw [if_pos e, if_pos (by omega)]
            · by_cases e2 : k = i
              · subst e2
                rw [if_neg e, if_pos rfl, if_pos (by omega), hjp, ka.out.2]
              · rw [if_neg e, if_neg e2, if_neg (by omega)]
                split <;> simp [rowsOf]⟩
          have hnx : Kept (M - ah P0 P (i + 1) = M - a - pi) := ⟨by rw [ah, ka.out.1, ka.out.2]; omega⟩
          have hdr : Kept (ls.drop (ah P0 P (i + 1)) = (ls.drop a).drop pi) := ⟨by rw [List.drop_drop, ah, ka.out.1, ka.out.2]⟩
          have hpc : pi ≤ c' := by omega
          have hcM := hMu.out.2.2
          clear hQ
          rcases hMu.out.2.1 with ⟨rfl, rfl⟩ | ⟨mb, mo, rfl⟩
          · have hpi0 : pi = 0 := by omega
            have hMa0 : M - a = 0 := by omega
            have hmt0 : Kept (Mt w none (ls.drop (ah P0 P (i + 1)))) := ⟨by rw [hdr.out, List.drop_eq_nil_of_le (by rw [List.length_drop, e3.out]; omega)]; exact Mt.nil _ _⟩
            have hnx0 : Kept (M - ah P0 P (i + 1) = 0) := ⟨by rw [hnx.out]; omega⟩
            subst hpi0
            clear hMu hnx hdr
            go_wp2
            go_roundw
            case rel => exact ⟨i + 1, none, 0, vs2, by go_num, by omega, by rw [hnx0.out], ⟨hmt0.out, .inl ⟨rfl, rfl⟩, by rw [hnx0.out]; omega⟩, hQ2⟩
            case measure => first | (simp [intOf]; omega) | (simp [intOf]; done)
          · have hmtK := (⟨hMu.out.1⟩ : Kept _)
            clear hMu
            by_cases hcap : c' - pi = 0
            · have hcap' : (c' - pi == 0) = true := by simp; omega
              have hmt0 : Kept (Mt w (some ⟨mb, mo, none⟩) (ls.drop (ah P0 P (i + 1)))) := ⟨by rw [hdr.out, List.drop_eq_nil_of_le (by rw [List.length_drop, e3.out]; omega)]; exact Mt.nil _ _⟩
              go_wp2
              go_roundw
              case rel => exact ⟨i + 1, some ⟨mb, mo, none⟩, 0, vs2, by go_num, by omega, by rw [hnx.out], ⟨hmt0.out, .inr ⟨mb, mo, rfl⟩, by rw [hnx.out]; omega⟩, hQ2⟩
              case measure => first | (simp [intOf]; omega) | (simp [intOf]; done)
            · have hcap' : (c' - pi == 0) = false := by simp; omega
              have hmt0 : Kept (Mt w (some ⟨mb, mo + pi, none⟩) (ls.drop (ah P0 P (i + 1)))) := ⟨by rw [hdr.out]; exact hmtK.out.drop pi⟩
              go_wp2
              go_roundw
              case rel => exact ⟨i + 1, some ⟨mb, mo + pi, none⟩, c' - pi, vs2, by go_num, by omega, by rw [hnx.out], ⟨hmt0.out, .inr ⟨mb, mo + pi, rfl⟩, by rw [hnx.out]; omega⟩, hQ2⟩
              case measure => first | (simp [intOf]; omega) | (simp [intOf]; done)
    · have hi4 : i = 4 := by omega
      subst hi4
      have hvec : ∀ k, k < 4 → vecs ls P0 P 4 0 k = rowsOf ls (ah P0 P k) (pfs P0 P k) := fun k hk => by unfold vecs; rw [if_pos hk]
      have hvl : ∀ k, k < 4 → (rowsOf ls (ah P0 P k) (pfs P0 P k)).length = pfs P0 P k * B := fun k hk => rowsOf_len kfull.out.1 _ _ (by rw [e3.out]; exact kah.out k hk)
      have krow : Kept (∀ k, k < 4 → ∃ uk ck, vs' k = .slice uk (pfs P0 P k * B) ck ∧ (uk = none → ck = 0) ∧ pfs P0 P k * B ≤ ck ∧ Ls w1 uk (rowsOf ls (ah P0 P k) (pfs P0 P k))) := ⟨fun k hk => by
        have hG := hQ.out.own k hk trivial
        rw [hvec k hk, hvl k hk] at hG
        obtain ⟨uk, ck, e, hn, _⟩ := hG.form
        have hcap := hG.own.2
        rw [e] at hG
        have hl := hG.ls (l := rowsOf ls (ah P0 P k) (pfs P0 P k)) rfl (by have := (kpf.out k).2; omega) (rowsOf_U kfull.out.2 _ _)
        refine ⟨uk, ck, e, hl.2.1, ?_, hl.1⟩
        rcases hcap with ⟨e2, e3⟩ | ⟨g, cap, cur, e2, _, _, h1, h2, _⟩
        · omega
        · rw [e] at e2; injection e2 with _ _ e2; omega⟩
      have hgc : Kept (∀ k, k < 4 → w1.cell? ⟨VB, k, none⟩ = some (vs' k)) := ⟨fun k hk => hQ.out.arr.cell hk⟩
      have hVlt : VB < w1.heap.size := hQ.out.arr.lt
      obtain ⟨_, s5, s3, ltA, ltB⟩ := kall.out w1 hBq
      have hBk : Kept (Below w.heap.size w w1) := ⟨Below.next hB1.out hBq⟩
      have hBk1 : Kept (Below W1.heap.size W1 w1) := ⟨hBq⟩
      clear hQ hMu hBq
      go_wp2_with (first | (at_builtin; refine wpList_pushL (W := w1) rfl _ _ rfl _ [1] 1 rfl (Grown.one 23 w1 (.int .u64 1)) rfl up ps np cp e2.out rfl (kps.out.1.below (Nat.le_refl _) (Below.box hBk.out _)) kps.out.2 (by omega) ?_; intro v2 w2 hG hkeep hsz hat; refine Stop.out ?_))
      refine ⟨?_⟩
      obtain ⟨u2, c2, rfl, _⟩ := hG.form
      have kG2 : Kept (Grown 23 w1 w2 (.slice u2 (1 + np) c2) (1 + np) (([1] ++ ps).map fun z => Value.int .u64 z)) := ⟨hG⟩
      obtain ⟨u0, c0, ev0, hn0, hcap0, hL0⟩ := krow.out 0 (by omega)
      obtain ⟨Z0, hZ0⟩ : ∃ x, pfs P0 P 0 * B = x := ⟨_, rfl⟩
      rw [hZ0] at ev0 hcap0
      have hSZ : S ≤ Z0 := by rw [← hZ0]; simp only [pfs, if_true]; exact khi.out.2.2.1
      have hmin : min (S : Int) (Z0 : Int) = (S : Int) := by omega
      have hSZI : (S : Int) ≤ (c0 : Int) := by omega
      have g0 : w2.cell? ⟨VB, 0, none⟩ = some (.slice u0 Z0 c0) := by rw [hG.below.cell (p := ⟨VB, 0, none⟩) hVlt, hgc.out 0 (by omega), ev0]
      have s52 : w2.cell? ⟨w.heap.size, 5, none⟩ = some (.int .i64 (S : Int)) := by rw [hG.below.cell (p := ⟨w.heap.size, 5, none⟩) ltA]; exact s5
      have lt2 : VB < w2.heap.size := by have := hG.below.size; omega
      have lt3 : w.heap.size < w2.heap.size := by have := hG.below.size; omega
      have hn0' := (⟨hn0⟩ : Kept _)
      have hlt0 : Kept (((rowsOf ls (ah P0 P 0) (pfs P0 P 0)).take S).length = S) := ⟨by rw [List.length_take, rowsOf_len kfull.out.1 _ _ (by rw [e3.out]; exact kah.out 0 (by omega)), hZ0]; omega⟩
      have hL2 : Kept (Ls w2 u0 ((rowsOf ls (ah P0 P 0) (pfs P0 P 0)).take S)) := ⟨(hL0.below (Nat.le_refl _) hG.below).takeL S⟩
      clear hkeep hsz hat hG s5 ev0 hL0 hn0 hZ0
      go_wp2_with (first | (at_builtin; refine wpList_pushL (W := w1) rfl _ _ rfl _ ([1] ++ ps) (1 + np) (by simp [e2.out]; omega) kG2.out rfl u0 ((rowsOf ls (ah P0 P 0) (pfs P0 P 0)).take S) S c0 hlt0.out rfl hL2.out hn0'.out (by omega) ?_; intro v3 w3 hG hkeep hsz hat; refine Stop.out ?_))
      refine ⟨?_⟩
      obtain ⟨u3, c3, rfl, _⟩ := hG.form
      have hws : [1] ++ ps ++ (rowsOf ls (ah P0 P 0) (pfs P0 P 0)).take S = wsC ls B P0 P S ps := by
        have := rowsOf_take (P := P) (S := S) hb.1 kfull.out.1 (by rw [e3.out]; have := kM.out; omega) khi.out.2.2.1
        simp only [ah, pfs, if_true]
        rw [this]; rfl
      rw [hws] at hG
      have hwse := kws.out
      rw [hwse] at hG
      have hLs := hG.ls rfl (by omega) (fun x hx => by
        rw [← hwse, ← hws] at hx
        rcases List.mem_append.1 hx with hx | hx
        · rcases List.mem_cons.1 hx with rfl | hx
          · exact ⟨by decide, by decide⟩
          · exact kps.out.1.all x hx
        · exact rowsOf_U kfull.out.2 _ _ x (List.mem_of_mem_take hx))
      have k2 : Kept (Ls w3 u3 ws) := ⟨hLs.1⟩
      have kwl : Kept (ws.length = 1 + np + S) := ⟨hLs.2.2⟩
      have hB3 : Kept (Below w1.heap.size w1 w3) := ⟨hG.below⟩
      have hB3w : Kept (Below w.heap.size w w3) := ⟨Below.next hBk.out hG.below⟩
      obtain ⟨p0, _, p3, ltC, ltD⟩ := kall.out w3 (Below.next hBk1.out hG.below)
      have lt4 : VB < w3.heap.size := by have := hG.below.size; omega
      have kv3 : Kept (∀ k, k < 4 → ∃ uk ck, w3.cell? ⟨VB, k, none⟩ = some (.slice uk (pfs P0 P k * B) ck) ∧ Ls w3 uk (rowsOf ls (ah P0 P k) (pfs P0 P k))) := ⟨fun k hk => by
        obtain ⟨uk, ck, e, _, _, hl⟩ := krow.out k hk
        exact ⟨uk, ck, by rw [hG.below.cell (p := ⟨VB, k, none⟩) hVlt, hgc.out k hk, e], hl.below (Nat.le_refl _) hG.below⟩⟩
      have kR2 := (⟨(kR.out.below (Nat.le_refl _) hB3w.out).get e1.out⟩ : Kept _)
      clear hkeep hsz hat hLs hws hwse hG kG2 hL2 hlt0 hn0' g0 s52 lt2 lt3 hmin hSZ hSZI hcap0 krow hgc hVlt s3 ltA ltB kMt
      obtain ⟨PB, hPB⟩ : ∃ x, P * B = x := ⟨_, rfl⟩
      have hmPB : m ≤ PB := by rw [← hPB]; exact khi.out.2.2.2
      have hPB7 : PB ≤ 70000 := by rw [← hPB]; exact khi.out.2.1
      have kE : Kept (∀ i j, i < m → j < 3 → ∃ b o ck, w3.cell? ⟨VB, j + 1, none⟩ = some (.slice (some ⟨b, o, none⟩) PB ck) ∧ b < w3.heap.size ∧ w3.cell? ⟨b, o + i, none⟩ = some (.int .u64 (ev (j + 1) i))) := ⟨fun i j hi hj => by
        obtain ⟨uk, ck, e, hl⟩ := kv3.out (j + 1) (by omega)
        have hpfe : pfs P0 P (j + 1) = P := by unfold pfs; rw [if_neg (by omega)]
        have hrl : (rowsOf ls (ah P0 P (j + 1)) (pfs P0 P (j + 1))).length = PB := by rw [rowsOf_len kfull.out.1 _ _ (by rw [e3.out]; exact kah.out (j + 1) (by omega)), hpfe, hPB]
        obtain ⟨b, o, x, hu, hx, hb, hxc, _⟩ := hl.at_ (k := i) (by rw [hrl]; omega)
        have hxe := rowsOf_ele (k := j + 1) (P0 := P0) (P := P) hb0.out kfull.out.1 (by omega) (by rw [e3.out]; exact kah.out (j + 1) (by omega)) (i := i) (by rw [hpfe, hPB]; omega)
        rw [List.getD, hx, kev.out] at hxe
        rw [hpfe, hPB, hu] at e
        exact ⟨b, o, ck, e, hb, by rw [hxc, ← hxe]; rfl⟩⟩
      clear kv3 hPB khi kev kfull kah kpf
      go_wp2
      go_loopw [63] (fun v wr => ∃ (i : Nat), v = .int .i64 (i : Int) ∧ i ≤ m ∧ Below w3.heap.size w3 wr ∧ Kept (linC p ws R ev m = ((List.range m).drop i).all (linR p ws R ev))) (fun v _ => ((m : Int) - intOf v).toNat)
      case atStart => exact ⟨0, rfl, by omega, (by repeat (first | exact Below.refl _ _ | refine Below.later ?_ _ | refine Below.box ?_ _ | refine Below.drew ?_ | refine Below.put ?_ (by dsimp only; omega) _)), ⟨by rw [List.drop_zero]; rfl⟩⟩
      case round =>
        obtain ⟨i, rfl, hi, hBr, hI⟩ := hrel
        obtain ⟨q4, rfl⟩ := after_of hBr
        clear hBr
        by_cases h2 : i < m
        · obtain ⟨b1, o1, rw', rfl, hx1, hb1, hc1, hc2, hc3, ha, hb', hc'⟩ := kR2.out i h2
          have hRi : R.getD i rw0 = rw' := by rw [List.getD, hx1]; rfl
          have hall : Kept (linC p ws R ev m = (linR p ws R ev i && ((List.range m).drop (i + 1)).all (linR p ws R ev))) := ⟨by rw [hI.out, range_drop_next h2]; rfl⟩
          have kS : Kept (∀ j : Nat, j < 3 → ∃ sv, (∀ w, (Instr.index 91 (.agg #[rw'.a.v, rw'.b.v, rw'.c.v]) (.int .i64 (j : Int))).run Try.prog w = .ok sv w) ∧ ∀ q, Calls Try.prog 68 #[.int .u64 p, sv, .slice u3 (1 + np + S) c3] (after w3 q) (Gives (.int .u64 (valL p ws (side j rw').l)) (after w3 q))) := ⟨fun j hj => ⟨(side j rw').v, lidx_c j hj rw', fun q => by
            have hT : Tm w3 (side j rw').u (side j rw').l := by
              match j, hj with
              | 0, _ => exact ha
              | 1, _ => exact hb'
              | 2, _ => exact hc'
            have := tvalue_c p (side j rw').u (side j rw').c (side j rw').l u3 c3 ws (after w3 q) (hT.later q) (k2.out.later q)
            rw [kwl.out] at this
            exact this⟩⟩
          obtain ⟨zv, hzv⟩ : ∃ zv : Nat → Int, ∀ j, valL p ws (side j rw').l = zv j := ⟨fun j => _, fun _ => rfl⟩
          have hLR : Kept (linR p ws R ev i = (List.range 3).all fun k => ev (k + 1) i == zv k) := ⟨by unfold linR; rw [hRi]; simp only [hzv]⟩
          have hzU : Kept (∀ j, U (zv j)) := ⟨fun j => by rw [← hzv]; exact valL_U⟩
          simp only [hzv] at kS
          clear ha hb' hc' hx1 hI hRi hzv
          simp only [Lin.v] at *
          generalize rw'.a.l.length = an at *
          generalize rw'.b.l.length = bn at *
          generalize rw'.c.l.length = cn at *
          generalize rw'.a.u = au at *
          generalize rw'.b.u = bu at *
          generalize rw'.c.u = cu at *
          generalize rw'.a.c = ac at *
          generalize rw'.b.c = bc at *
          generalize rw'.c.c = cc at *
          go_wp2
          go_loopw [75] (fun vj wr => ∃ (j : Nat), vj = .int .i64 (j : Int) ∧ j ≤ 3 ∧ Below w3.heap.size w3 wr ∧ Kept (linR p ws R ev i = ((List.range 3).drop j).all fun k => ev (k + 1) i == zv k)) (fun vj _ => (3 - intOf vj).toNat)
          case atStart => exact ⟨0, rfl, by omega, (by repeat (first | exact Below.refl _ _ | refine Below.later ?_ _ | refine Below.box ?_ _ | refine Below.drew ?_ | refine Below.put ?_ (by dsimp only; omega) _)), ⟨by rw [List.drop_zero]; exact hLR.out⟩⟩
          case round =>
            obtain ⟨j, rfl, hj, hBr, hJ⟩ := hrel
            obtain ⟨q5, rfl⟩ := after_of hBr
            clear hBr
            by_cases h3 : j < 3
            · have hjI : (j : Int) < 3 := by omega
              obtain ⟨j1, hj1⟩ : ∃ j1, j + 1 = j1 := ⟨_, rfl⟩
              have hj1I : 1 + (j : Int) = (j1 : Int) := by omega
              have hj14 : j1 < 4 := by omega
              obtain ⟨b6, o6, ck, hcv, hb6, hcx⟩ := kE.out i j h2 h3
              rw [hj1] at hcv hcx
              obtain ⟨sv, hidx, hvl⟩ := kS.out j h3
              obtain ⟨x, hx⟩ : ∃ x, ev j1 i = x := ⟨_, rfl⟩
              obtain ⟨z, hz⟩ : ∃ z, zv j = z := ⟨_, rfl⟩
              rw [hx] at hcx
              rw [hz] at hvl
              have cvl : Kept (∀ q, Calls Try.prog 68 #[.int .u64 p, sv, .slice u3 (1 + np + S) c3] (after w3 q) (Gives (.int .u64 z) (after w3 q))) := ⟨hvl⟩
              have hJ2 : Kept (linR p ws R ev i = ((x == z) && ((List.range 3).drop (j + 1)).all fun k => ev (k + 1) i == zv k)) := ⟨by rw [hJ.out, range_drop_next h3, List.all_cons, hj1, hx, hz]⟩
              have him1 : (i : Int) < (PB : Int) := by omega
              have him2 : decide ((i : Int) ≥ (PB : Int)) = false := by simp; omega
              have him3 : decide ((PB : Int) ≤ (i : Int)) = false := by simp; omega
              have him4 : decide (PB ≤ i) = false := by simp; omega
              have him5 : ¬ (PB : Int) ≤ (i : Int) := by omega
              have him6 : ¬ PB ≤ i := by omega
              have hi6 : i ≤ 70000 := by omega
              clear hvl hJ kS hx hz hLR
              by_cases hxz : x = z
              · have hne : (x != z) = false := by simp [hxz]
                have hJ3 : Kept (linR p ws R ev i = ((List.range 3).drop (j + 1)).all fun k => ev (k + 1) i == zv k) := ⟨by rw [hJ2.out, beq_iff_eq.2 hxz]; rfl⟩
                clear hJ2 hxz
                go_wp2
                first | refine region_quiet1 (by kernel_rfl) ?_ | refine region_quiet (by kernel_rfl) ?_
                repeat (go_big_quiet_step (first | (go_at_call 68; with_reducible exact quiet (cvl.out _))))
                refine wpQuiet_nil ?_
                intro _
                go_wp2
                go_roundw
                case rel => exact ⟨j + 1, by go_num, by omega, (by repeat (first | exact Below.refl _ _ | refine Below.later ?_ _ | refine Below.box ?_ _ | refine Below.drew ?_ | refine Below.put ?_ (by dsimp only; omega) _)), hJ3⟩
                case measure => first | (simp [intOf]; omega) | (simp [intOf]; done)
              · have hne : (x != z) = true := by simp [hxz]
                have hfin : Kept (linC p ws R ev m = false) := ⟨by rw [hall.out, hJ2.out, show (x == z) = false from by simp [hxz]]; rfl⟩
                clear hJ2 hxz hall
                go_wp2
                first | refine region_quiet1 (by kernel_rfl) ?_ | refine region_quiet (by kernel_rfl) ?_
                repeat (go_big_quiet_step (first | (go_at_call 68; with_reducible exact quiet (cvl.out _))))
                refine wpQuiet_nil ?_
                intro _
                go_wp2
                go_ret
                exact ⟨by rw [hfin.out]; rfl, Below.later hB3w.out _⟩
            · have hj3 : j = 3 := by omega
              subst hj3
              have hI2 : Kept (linC p ws R ev m = ((List.range m).drop (i + 1)).all (linR p ws R ev)) := ⟨by rw [hall.out, hJ.out]; rfl⟩
              clear hall hJ hLR kS
              go_wp2
              go_roundw
              case rel => exact ⟨i + 1, by go_num, by omega, (by repeat (first | exact Below.refl _ _ | refine Below.later ?_ _ | refine Below.box ?_ _ | refine Below.drew ?_ | refine Below.put ?_ (by dsimp only; omega) _)), hI2⟩
              case measure => first | (simp [intOf]; omega) | (simp [intOf]; done)
        · have hfin : Kept (linC p ws R ev m = true) := ⟨by rw [hI.out, List.drop_eq_nil_of_le (by simp; omega)]; rfl⟩
          clear hI
          go_wp2
          go_ret
          exact ⟨by rw [hfin.out]; rfl, Below.later hB3w.out _⟩
end Go.Proofs.Ytkpkgjniicnkcaa
