/- The contracts of the lists' functions of the field: Sum, Dot, Inverses, Powers. -/
import Derived.Test.YtkpkgjniicnkcaaLst
import Derived.Test.YtkpkgjniicnkcaaConE
namespace Go.Proofs.Ytkpkgjniicnkcaa
open Go.RowKit Go.Sort

def lsum (p : Int) (l : List Int) : Int := l.foldl (fun s x => fadd p s x) 0
def ldot (p : Int) (l1 l2 : List Int) : Int := (l1.zip l2).foldl (fun s x => fadd p s (fmul p x.1 x.2)) 0
theorem lsum_next {p : Int} {l : List Int} {k : Nat} {x : Int} (h : l[k]? = some x) : lsum p (l.take (k + 1)) = fadd p (lsum p (l.take k)) x := by
  rw [take_next h, lsum, List.foldl_append]; rfl
theorem ldot_next {p : Int} {l1 l2 : List Int} {k : Nat} {x y : Int} (h1 : l1[k]? = some x) (h2 : l2[k]? = some y) : ldot p (l1.take (k + 1)) (l2.take (k + 1)) = fadd p (ldot p (l1.take k) (l2.take k)) (fmul p x y) := by
  have e : (l1.take (k + 1)).zip (l2.take (k + 1)) = (l1.take k).zip (l2.take k) ++ [(x, y)] := by
    rw [take_next h1, take_next h2, List.zip_append (by
      have a := (List.getElem?_eq_some_iff.1 h1).1
      have b := (List.getElem?_eq_some_iff.1 h2).1
      simp; omega)]; rfl
  unfold ldot
  rw [e, List.foldl_append]; rfl
theorem ldot_end {p : Int} {l1 l2 : List Int} {k : Nat} (h : ¬ (k < l1.length ∧ k < l2.length)) (h1 : k ≤ l1.length) (h2 : k ≤ l2.length) : ldot p (l1.take k) (l2.take k) = ldot p l1 l2 := by
  have : k = l1.length ∨ k = l2.length := by omega
  have e : (l1.take k).zip (l2.take k) = l1.zip l2 := by
    have : (l1.take k).zip (l2.take k) = (l1.zip l2).take k := by simp [List.zip, List.take_zipWith]
    rw [this]
    exact List.take_of_length_le (by simp; omega)
  unfold ldot; rw [e]
theorem lsum_U {p : Int} {l : List Int} : U (lsum p l) := by
  rcases List.eq_nil_or_concat l with h | ⟨l', x, h⟩
  · subst h; exact ⟨Int.le_refl 0, by show (0 : Int) < _; decide⟩
  · subst h; unfold lsum; rw [List.concat_eq_append, List.foldl_append]; exact fadd_U
theorem ldot_U {p : Int} {l1 l2 : List Int} : U (ldot p l1 l2) := by
  unfold ldot
  rcases List.eq_nil_or_concat (l1.zip l2) with h | ⟨l', x, h⟩
  · rw [h]; exact ⟨Int.le_refl 0, by show (0 : Int) < _; decide⟩
  · rw [h, List.concat_eq_append, List.foldl_append]; exact fadd_U

theorem rdot_c (p : Int) (u v : Option Addr) (c d : Nat) (l1 l2 : List Int) (w : World) (h1 : Ls w u l1) (h2 : Ls w v l2) : Calls Try.prog 77 #[.int .u64 p, .slice u l1.length c, .slice v l2.length d] w (Gives (.int .u64 (ldot p l1 l2)) w) := by
  have hs1 := h1.small
  have hs2 := h2.small
  obtain ⟨n, hn⟩ : ∃ n, l1.length = n := ⟨_, rfl⟩
  obtain ⟨m, hm⟩ : ∃ n, l2.length = n := ⟨_, rfl⟩
  have k1 : Kept (∀ k, k < n → ∃ b o x, u = some ⟨b, o, none⟩ ∧ l1[k]? = some x ∧ b < w.heap.size ∧ w.cell? ⟨b, o + k, none⟩ = some (.int .u64 x) ∧ U x) := ⟨h1.get hn⟩
  have k2 : Kept (∀ k, k < m → ∃ b o x, v = some ⟨b, o, none⟩ ∧ l2[k]? = some x ∧ b < w.heap.size ∧ w.cell? ⟨b, o + k, none⟩ = some (.int .u64 x) ∧ U x) := ⟨h2.get hm⟩
  have e1 : Kept (l1.length = n) := ⟨hn⟩
  have e2 : Kept (l2.length = m) := ⟨hm⟩
  rw [hn] at hs1 ⊢
  rw [hm] at hs2 ⊢
  clear h1 h2 hn hm
  go_enter Try.func77, Try.ntmps77
  go_wp2
  go_loopw [7, 8] (fun vs v wr => ∃ (s : Int) (k : Nat) (q : Regrown), vs = .int .u64 s ∧ v = .int .i64 (k : Int) ∧ wr = after w q ∧ k ≤ n ∧ k ≤ m ∧ Kept (ldot p (l1.take k) (l2.take k) = s)) (fun _ v _ => (n : Int).toNat - (intOf v).toNat)
  case atStart => exact ⟨0, 0, ⟨w.drawn, #[]⟩, rfl, rfl, by simp [after_eq, Go.Sort.grow_empty]; rfl, by omega, by omega, ⟨by simp [ldot]⟩⟩
  case round =>
    obtain ⟨s, k, q, rfl, rfl, rfl, hk, hk', hI⟩ := hrel
    by_cases h : k < n
    · by_cases h' : k < m
      · obtain ⟨b1, o1, x1, rfl, hx1, hb1, hc1, hU1⟩ := k1.out k h
        obtain ⟨b2, o2, x2, rfl, hx2, hb2, hc2, hU2⟩ := k2.out k h'
        have hI2 : Kept (ldot p (l1.take (k + 1)) (l2.take (k + 1)) = fadd p s (fmul p x1 x2)) := ⟨by rw [ldot_next hx1 hx2, hI.out]⟩
        have cm : Kept (∀ w, Calls Try.prog 40 #[.int .u64 p, .int .u64 x1, .int .u64 x2] w (Gives (.int .u64 (fmul p x1 x2)) w)) := ⟨fun w => rmul_c p x1 x2 w hU1 hU2⟩
        have ca : Kept (∀ w, Calls Try.prog 42 #[.int .u64 p, .int .u64 s, .int .u64 (fmul p x1 x2)] w (Gives (.int .u64 (fadd p s (fmul p x1 x2))) w)) := ⟨fun w => radd_c p s _ w (hI.out ▸ ldot_U) fmul_U⟩
        clear hI hx1 k1 e1 hU1 hx2 k2 e2 hU2
        generalize fmul p x1 x2 = z at *
        go_wp2_with (first | (go_at_call 40; (first | with_reducible refine use1 (cm.out _) ?_ | with_reducible refine use (cm.out _) ?_); intro pw) | (go_at_call 42; (first | with_reducible refine use1 (ca.out _) ?_ | with_reducible refine use (ca.out _) ?_); intro pw))
        repeat (
          (first | refine region_quiet1 (by kernel_rfl) ?_ | refine region_quiet (by kernel_rfl) ?_)
          repeat (go_big_quiet_step (first | (go_at_call 40; with_reducible exact quiet (cm.out _)) | (go_at_call 42; with_reducible exact quiet (ca.out _))))
          refine wpQuiet_nil ?_
          intro _
          go_wp2_with (first | (go_at_call 40; (first | with_reducible refine use1 (cm.out _) ?_ | with_reducible refine use (cm.out _) ?_); intro pw) | (go_at_call 42; (first | with_reducible refine use1 (ca.out _) ?_ | with_reducible refine use (ca.out _) ?_); intro pw)))
        go_roundw
        case rel => exact ⟨fadd p s z, k + 1, _, rfl, by go_num, rfl, by omega, by omega, hI2⟩
        case measure => first | (simp [intOf]; omega) | (simp [intOf]; done)
      · have hI2 : Kept (ldot p l1 l2 = s) := ⟨by rw [← hI.out, ldot_end (by have := e1.out; have := e2.out; omega) (by have := e1.out; omega) (by have := e2.out; omega)]⟩
        clear hI k1 e1 k2 e2
        go_wp2
        go_ret
        exact ⟨by rw [hI2.out]; rfl, (by repeat (first | exact Below.refl _ _ | refine Below.later ?_ _ | refine Below.box ?_ _ | refine Below.drew ?_ | refine Below.put ?_ (by dsimp only; omega) _))⟩
    · have hI2 : Kept (ldot p l1 l2 = s) := ⟨by rw [← hI.out, ldot_end (by have := e1.out; have := e2.out; omega) (by have := e1.out; omega) (by have := e2.out; omega)]⟩
      clear hI k1 e1 k2 e2
      go_wp2
      go_ret
      exact ⟨by rw [hI2.out]; rfl, (by repeat (first | exact Below.refl _ _ | refine Below.later ?_ _ | refine Below.box ?_ _ | refine Below.drew ?_ | refine Below.put ?_ (by dsimp only; omega) _))⟩
end Go.Proofs.Ytkpkgjniicnkcaa
