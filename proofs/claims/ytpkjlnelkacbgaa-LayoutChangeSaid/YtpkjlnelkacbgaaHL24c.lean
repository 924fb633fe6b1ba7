/- law24: what a right case says; the contracts at a right case. -/
import Derived.Test.YtpkjlnelkacbgaaHL24b
import Derived.Test.YtpkjlnelkacbgaaQD
import Derived.Test.YtpkjlnelkacbgaaHLyc
import Derived.Test.YtpkjlnelkacbgaaHTvr
import Derived.Test.YtpkjlnelkacbgaaQI
import Derived.Test.YtpkjlnelkacbgaaHRcf
import Derived.Test.YtpkjlnelkacbgaaHRtg
import Derived.Test.YtpkjlnelkacbgaaHRij
namespace Go.Proofs.Ytpkjlnelkacbgaa
open Go.RowKit Go.Sort

set_option maxRecDepth 100000
theorem wp_gen24 {P : Program} {cd : Code} {Q : Exit → Act → World → Prop} {a : Act} {W : World} (F : World → Prop) (hF : F W) (h : ∀ W', F W' → cd.wp P Q a W') : cd.wp P Q a W := h W hF
structure Yes24 (p : Int) (pb : Nat) (vs : Int) (B : Nat) (q : Int) (rs : List Rw) (l : List Int) (S P0 P1 : Nat) (rows : Int) : Prop where
  vld : vld p = true
  hB : 1 ≤ B ∧ B ≤ 256
  hm : (rs.length : Int) ≤ rows
  hm16 : rs.length ≤ 16384
  hS : (S : Int) = vs - 1 - (pb : Int)
  hvs : vs ≤ 65536
  hl : (l.length : Int) = vs
  hls : l.length = 1 + pb + S
  head : l.head? = some 1
  lt : ∀ x ∈ l, 0 ≤ x ∧ x < p
  hP0 : ((S : Int) + (B : Int) - 1) / (B : Int) = P0
  hP1 : ((rs.length : Int) + (B : Int) - 1) / (B : Int) = P1
  s0 : S ≤ P0 * B ∧ P0 * B ≤ 70000
  s1 : rs.length ≤ P1 * B ∧ P1 * B ≤ 70000
  p0 : P0 ≤ 70000
  p1 : P1 ≤ 70000
  vars : ∀ r ∈ rs, ∀ k, k < 3 → ∀ t ∈ (side k r).l, 0 ≤ t.1 ∧ t.1 < vs
def layA (p : Int) (B : Nat) (q K NN : Int) (S : Nat) (m : Nat) (P0 P1 : Nat) : Value := .agg #[.int .u64 p, .int .i64 (B : Int), .int .i64 q, .int .i64 K, .int .i64 NN, .int .i64 (S : Int), .int .i64 (m : Int), .int .i64 (P0 : Nat), .int .i64 (P1 : Nat), .int .i64 (P1 : Nat), .int .i64 (P1 : Nat)]
theorem right24_c (p pub vs b bl q rows : Int) (u : Option Addr) (c : Nat) (rs : List Rw) (uw : Option Addr) (cw : Nat) (l : List Int) (w : World) (h1 : Rws w u rs) (h2 : Ls w uw l) :
    (∀ w', Below w.heap.size w w' → Calls Try.prog 17 #[.agg #[.int .u64 p, .int .i64 pub, .int .i64 vs, .slice u rs.length c, .int .i64 b, .int .i64 bl, .int .i64 q, .slice uw l.length cw], .int .i64 rows] w' (Gives (.tuple #[.agg #[.int .u64 0, .int .i64 0, .int .i64 0, .int .i64 0, .int .i64 0, .int .i64 0, .int .i64 0, .int .i64 0, .int .i64 0, .int .i64 0, .int .i64 0], .bool false]) w')) ∨
    ∃ (pb B S P0 P1 : Nat) (K NN : Int), pub = pb ∧ b = B ∧ Yes24 p pb vs B q rs l S P0 P1 rows ∧ ∀ w', Below w.heap.size w w' → Calls Try.prog 17 #[.agg #[.int .u64 p, .int .i64 pub, .int .i64 vs, .slice u rs.length c, .int .i64 b, .int .i64 bl, .int .i64 q, .slice uw l.length cw], .int .i64 rows] w' (Gives (.tuple #[.agg #[.int .u64 p, .int .i64 (B : Int), .int .i64 q, .int .i64 K, .int .i64 NN, .int .i64 (S : Int), .int .i64 rs.length, .int .i64 (P0 : Nat), .int .i64 (P1 : Nat), .int .i64 (P1 : Nat), .int .i64 (P1 : Nat)], .bool true]) w') := by
  have cr : ∀ w', Below w.heap.size w w' → Calls Try.prog 17 #[.agg #[.int .u64 p, .int .i64 pub, .int .i64 vs, .slice u rs.length c, .int .i64 b, .int .i64 bl, .int .i64 q, .slice uw l.length cw], .int .i64 rows] w' (Gives (.tuple #[rightV p pub vs b bl q rs l rows, .bool (rightB p pub vs b bl q rs l rows)]) w') := fun w' hw =>
    right_c p pub vs b bl q rows u c rs uw cw l w' (h1.below (Nat.le_refl _) hw) (h2.below (Nat.le_refl _) hw)
  cases hr : rightB p pub vs b bl q rs l rows
  · left
    have hV : rightV p pub vs b bl q rs l rows = lay0 := by rw [rightV, hr]; rfl
    rw [hV, hr] at cr
    exact cr
  · right
    have hV : rightV p pub vs b bl q rs l rows = layV p b q (newN b bl q) (vs - 1 - pub) rs.length := by rw [rightV, hr]; rfl
    rw [hV, hr] at cr
    have hlt := right_lt hr h2.all
    have hvar := right_vars hr
    obtain ⟨f1, f2, f3, f4, f5, f6, f7, f8, f9, f10, f11, f12, f13, _⟩ := right_facts hr
    have hv := vld_pos f11
    simp only [rightB, Bool.and_eq_true] at hr
    obtain ⟨⟨⟨⟨⟨_, _⟩, htab⟩, hasg⟩, _⟩, _⟩ := hr
    have hhead : l.head? = some 1 := by simp only [asgB, Bool.and_eq_true, beq_iff_eq] at hasg; exact hasg.1.2
    clear hV
    unfold layV at cr
    obtain ⟨B, rfl⟩ : ∃ B : Nat, b = B := ⟨b.toNat, by omega⟩
    obtain ⟨pb, rfl⟩ : ∃ B : Nat, pub = B := ⟨pub.toNat, by omega⟩
    obtain ⟨S, hS⟩ : ∃ S : Nat, vs - 1 - (pb : Int) = S := ⟨(vs - 1 - (pb : Int)).toNat, by omega⟩
    rw [hS] at cr
    have hq0 : 0 ≤ ((S : Int) + (B : Int) - 1) / (B : Int) ∧ ((S : Int) + (B : Int) - 1) / (B : Int) ≤ 70000 := ⟨Int.ediv_nonneg (by omega) (by omega), Int.le_trans (Int.ediv_le_self _ (by omega)) (by omega)⟩
    have hq1 : 0 ≤ ((rs.length : Int) + (B : Int) - 1) / (B : Int) ∧ ((rs.length : Int) + (B : Int) - 1) / (B : Int) ≤ 70000 := ⟨Int.ediv_nonneg (by omega) (by omega), Int.le_trans (Int.ediv_le_self _ (by omega)) (by omega)⟩
    obtain ⟨P0, hP0⟩ : ∃ P : Nat, ((S : Int) + (B : Int) - 1) / (B : Int) = P := ⟨_, (Int.toNat_of_nonneg hq0.1).symm⟩
    obtain ⟨P1, hP1⟩ : ∃ P : Nat, ((rs.length : Int) + (B : Int) - 1) / (B : Int) = P := ⟨_, (Int.toNat_of_nonneg hq1.1).symm⟩
    have hz0 := up_sizes (M := 70000) (by omega) (by omega) hP0
    have hz1 := up_sizes (M := 70000) (by omega) (by omega) hP1
    rw [hP0, hP1] at cr
    rw [hP0] at hq0
    rw [hP1] at hq1
    exact ⟨pb, B, S, P0, P1, _, _, rfl, rfl, ⟨f11, by omega, f1, f13, hS.symm, by omega, f12, by omega, hhead, hlt, hP0, hP1, hz0, hz1, by omega, by omega, hvar⟩, cr⟩
section
variable {p : Int} {pb : Nat} {vs : Int} {B : Nat} {q : Int} {rs : List Rw} {l : List Int} {S P0 P1 : Nat} {rows : Int} {w : World} {u : Option Addr}
theorem Yes24.coefs (y : Yes24 p pb vs B q rs l S P0 P1 rows) (hR : Rws w u rs) (K NN : Int) (c : Nat) (rho : Int) (hr : U rho) :
    Calls Try.prog 19 #[.agg #[.int .u64 p, .int .i64 (B : Int), .int .i64 q, .int .i64 K, .int .i64 NN, .int .i64 (S : Int), .int .i64 rs.length, .int .i64 (P0 : Nat), .int .i64 (P1 : Nat), .int .i64 (P1 : Nat), .int .i64 (P1 : Nat)], .agg #[.int .u64 p, .int .i64 pb, .int .i64 vs, .slice u rs.length c], .int .u64 rho] w (GivesMat (cofM p pb rs B P0 P1 S rho) w) := by
  have := lcoefs_c B P0 P1 S p q K NN pb vs rho u c rs w y.vld y.hB y.hm16 (by omega) y.hS y.hvs y.hP0 y.hP1 hR hr y.vars
  rw [cofM_eq (upl_int y.hB.1 y.hP0) (upl_int y.hB.1 y.hP1)] at this
  exact this
theorem Yes24.rcoefs (y : Yes24 p pb vs B q rs l S P0 P1 rows) (hR : Rws w u rs) (K NN : Int) (c : Nat) (rho : Int) (hr : U rho) :
    Calls Try.prog 20 #[.agg #[.int .u64 p, .int .i64 (B : Int), .int .i64 q, .int .i64 K, .int .i64 NN, .int .i64 (S : Int), .int .i64 rs.length, .int .i64 (P0 : Nat), .int .i64 (P1 : Nat), .int .i64 (P1 : Nat), .int .i64 (P1 : Nat)], .agg #[.int .u64 p, .int .i64 pb, .int .i64 vs, .slice u rs.length c], .int .u64 rho] w (GivesMat (cofM p pb rs B P0 P1 S rho) w) :=
  rcoefs_c B P0 P1 S p q K NN rs.length pb vs rho u c rs w y.vld y.hB y.hm16 (by omega) y.hS y.hvs y.p0 y.p1 hR hr y.vars
theorem Yes24.target (y : Yes24 p pb vs B q rs l S P0 P1 rows) (hR : Rws w u rs) (K NN : Int) (c : Nat) (up : Option Addr) (cp : Nat) (ps : List Int) (hps : Ls w up ps) (hpl : (ps.length : Int) = pb) (hup : up = none → cp = 0) (rho : Int) (hr : U rho) :
    Calls Try.prog 21 #[.agg #[.int .u64 p, .int .i64 (B : Int), .int .i64 q, .int .i64 K, .int .i64 NN, .int .i64 (S : Int), .int .i64 rs.length, .int .i64 (P0 : Nat), .int .i64 (P1 : Nat), .int .i64 (P1 : Nat), .int .i64 (P1 : Nat)], .agg #[.int .u64 p, .int .i64 pb, .int .i64 vs, .slice u rs.length c], .slice up ps.length cp, .int .u64 rho] w (Gives (.int .u64 (tgV p rho (1 :: ps) rs rs.length)) w) :=
  ltarget_c p B q K NN S P0 P1 pb vs rho u c rs up cp ps w y.vld (by have := y.hB; omega) y.hm16 (by omega) ⟨by omega, y.hS⟩ y.hvs y.hP0 y.hP1 hR hps hpl hup hr
theorem Yes24.rtarget (y : Yes24 p pb vs B q rs l S P0 P1 rows) (hR : Rws w u rs) (K NN : Int) (c : Nat) (up : Option Addr) (cp : Nat) (ps : List Int) (hps : Ls w up ps) (hpl : (ps.length : Int) = pb) (hup : up = none → cp = 0) (rho : Int) (hr : U rho) :
    Calls Try.prog 22 #[.agg #[.int .u64 p, .int .i64 (B : Int), .int .i64 q, .int .i64 K, .int .i64 NN, .int .i64 (S : Int), .int .i64 rs.length, .int .i64 (P0 : Nat), .int .i64 (P1 : Nat), .int .i64 (P1 : Nat), .int .i64 (P1 : Nat)], .agg #[.int .u64 p, .int .i64 pb, .int .i64 vs, .slice u rs.length c], .slice up ps.length cp, .int .u64 rho] w (Gives (.int .u64 (tgV p rho (1 :: ps) rs rs.length)) w) :=
  rtarget_c p B q K NN S rs.length P0 P1 P1 P1 pb vs rho u c rs up cp ps w y.vld y.hm16 hR hps (by have := y.hls; have := y.hl; have := y.hvs; omega) hup hr
theorem Yes24.lin (y : Yes24 p pb vs B q rs l S P0 P1 rows) (rho : Int) : msum p (cofM p pb rs B P0 P1 S rho) (rCuts p l rs pb B P0 P1) = tgV p rho (1 :: (l.drop 1).take pb) rs rs.length :=
  lay_lin y.vld y.hB.1 y.lt y.s0.1 y.s1.1 y.head y.hls (fun r hr k hk t ht => by have := y.vars r hr k hk t ht; have := y.hl; have := y.hls; omega) rho
end
end Go.Proofs.Ytpkjlnelkacbgaa
