/- Layer 5: what its laws have in common. -/
import Derived.Test.YtjnlnbkdnjainaaQC
import Derived.Test.YtjnlnbkdnjainaaQD
import Derived.Test.YtjnlnbkdnjainaaHLinE
import Derived.Test.YtjnlnbkdnjainaaHCpm
import Derived.Test.YtjnlnbkdnjainaaHAwa
namespace Go.Proofs.Ytjnlnbkdnjainaa
open Go.RowKit Go.Sort

set_option maxRecDepth 100000
theorem smlM_le {ls : List (List Int)} {K : Nat} (h : smlM ls K = true) : ls.length ≤ K ∧ ∀ l ∈ ls, l.length ≤ K := by
  unfold smlM at h
  simp only [Bool.and_eq_true, List.all_eq_true, decide_eq_true_eq] at h
  first | exact ⟨h.1, h.2⟩ | exact ⟨h.2, h.1⟩
/-- A matrix among a law's arguments. -/
def Arg (w : World) (u : Option Addr) (c : Nat) (ls : List (List Int)) : Prop := Mt w u ls ∧ (u = none → c = 0) ∧ ∀ b o i v n c', u = some ⟨b, o, none⟩ → i < ls.length → w.cell? ⟨b, o + i, none⟩ = some (.slice v n c') → (v = none → c' = 0) ∧ n ≤ c'
theorem Arg.mt {w : World} {u : Option Addr} {c : Nat} {ls : List (List Int)} (h : Arg w u c ls) {w' : World} (hb : Below w.heap.size w w') : Mt w' u ls := h.1.below (Nat.le_refl _) hb
theorem Arg.cp {w : World} {u : Option Addr} {c : Nat} {ls : List (List Int)} (h : Arg w u c ls) {K : Nat} (hs : smlM ls K = true) (hK : K ≤ 1000) {w' : World} (hb : Below w.heap.size w w') : Calls Try.prog 33 #[.slice u ls.length c] w' (GivesC ls w') := by
  obtain ⟨g1, g2⟩ := smlM_le hs
  refine cp_c u c ls w' (h.mt hb) (by omega) (fun l hl => Nat.le_trans (g2 l hl) hK) (fun b o i v n c' hu hi hc hv => ?_)
  obtain ⟨b1, o1, l, v1, d1, e1, _, hlt, hc1, _⟩ := h.1.get rfl i hi
  rw [hu] at e1
  injection e1 with e1; injection e1 with e1 e2; subst e1 e2
  rw [hb.cell (p := ⟨b, o + i, none⟩) hlt] at hc
  exact (h.2.2 b o i v n c' hu hi hc).1 hv
/-- A matrix to be read whose rows have room for their elements. -/
def Mc (w : World) (u : Option Addr) (ls : List (List Int)) : Prop := Mt w u ls ∧ ∀ k, k < ls.length → ∃ b o l v c, u = some ⟨b, o, none⟩ ∧ ls[k]? = some l ∧ b < w.heap.size ∧ w.cell? ⟨b, o + k, none⟩ = some (.slice v l.length c) ∧ Ls w v l ∧ l.length ≤ c
theorem Arg.mc {w : World} {u : Option Addr} {c : Nat} {ls : List (List Int)} (h : Arg w u c ls) {w' : World} (hb : Below w.heap.size w w') : Mc w' u ls := by
  refine ⟨h.mt hb, fun k hk => ?_⟩
  obtain ⟨b, o, l, v, d, e, hl, hlt, hc, hL⟩ := h.1.get rfl k hk
  exact ⟨b, o, l, v, d, e, hl, by have := hb.size; omega, by rw [hb.cell (p := ⟨b, o + k, none⟩) hlt]; exact hc, hL.below (Nat.le_refl _) hb, (h.2.2 b o k v l.length d e hk hc).2⟩
theorem Mc.below {w w' : World} {u : Option Addr} {ls : List (List Int)} (h : Mc w u ls) (hb : Below w.heap.size w w') : Mc w' u ls := by
  refine ⟨h.1.below (Nat.le_refl _) hb, fun k hk => ?_⟩
  obtain ⟨b, o, l, v, d, e, hl, hlt, hc, hL, hcp⟩ := h.2 k hk
  exact ⟨b, o, l, v, d, e, hl, by have := hb.size; omega, by rw [hb.cell (p := ⟨b, o + k, none⟩) hlt]; exact hc, hL.below (Nat.le_refl _) hb, hcp⟩
theorem piv_get {w : World} {base : Nat} {u : Option Addr} {c : Nat} {piv : List Nat} (h : w.ownsRow base 3 1 (.slice u piv.length c) piv.length (intsV piv)) : ∀ w', Below w.heap.size w w' → ∀ k, k < piv.length → ∃ b, u = some ⟨b, 0, none⟩ ∧ b < w'.heap.size ∧ w'.cell? ⟨b, k, none⟩ = some (.int .i64 ((piv.getD k 0 : Nat) : Int)) := fun w' hw k hk => by
  rcases h.2 with ⟨_, e⟩ | ⟨g, cap, cur, e, _, hc, hcap, _, hsz, htk⟩
  · omega
  · injection e with e e2 e3
    have hlt : g < w.heap.size := (Array.getElem?_eq_some_iff.1 hc).1
    refine ⟨g, e, by have := hw.size; omega, ?_⟩
    have h2 : (cur.toList.take (piv.length * 1))[k]? = (intsV piv)[k]? := by rw [htk]
    rw [List.getElem?_take, if_pos (by omega), Array.getElem?_toList] at h2
    have hr : w.rowIs g 3 cap (fun j => (cur[j]?).getD undef) := ⟨cur, hc, by omega, fun j hj => by dsimp only; rw [Array.getElem?_eq_getElem (by omega)]; rfl⟩
    rw [hw.cell (p := ⟨g, k, none⟩) hlt, hr.cell (by omega), h2, intsV, List.getElem?_map, List.getElem?_eq_getElem hk, List.getD, List.getElem?_eq_getElem hk]
    rfl
theorem lsmall_c (u : Option Addr) (c : Nat) (ls : List (List Int)) (w : World) (h1 : Mt w u ls) : Calls Try.prog 31 #[.slice u ls.length c] w (Gives (.bool (smlM ls 12)) w) := by
  have hs := h1.small
  have cr : Kept (∀ w', Below w.heap.size w w' → Calls Try.prog 36 #[.slice u ls.length c, .int .i64 12] w' (Gives (.bool (smlM ls 12)) w')) := ⟨fun w' hw => small_c u c ls 12 (by omega) w' (h1.below (Nat.le_refl _) hw)⟩
  generalize ls.length = n at *
  generalize smlM ls 12 = b at *
  clear h1
  go_enter Try.func31, Try.ntmps31
  go_wp2_with (first | (go_at_call 36; (first | with_reducible refine use1 (cr.out _ (by repeat (first | exact Below.refl _ _ | refine Below.later ?_ _ | refine Below.box ?_ _ | refine Below.drew ?_ | refine Below.put ?_ (by dsimp only; omega) _))) ?_ | with_reducible refine use (cr.out _ (by repeat (first | exact Below.refl _ _ | refine Below.later ?_ _ | refine Below.box ?_ _ | refine Below.drew ?_ | refine Below.put ?_ (by dsimp only; omega) _))) ?_); intro pw))
  go_ret
  exact ⟨rfl, (by repeat (first | exact Below.refl _ _ | refine Below.later ?_ _ | refine Below.box ?_ _ | refine Below.drew ?_ | refine Below.put ?_ (by dsimp only; omega) _))⟩
end Go.Proofs.Ytjnlnbkdnjainaa
