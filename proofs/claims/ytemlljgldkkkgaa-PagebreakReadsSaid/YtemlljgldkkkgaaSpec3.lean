/- Plain law: potentials as functions of the line. No program. -/
import Derived.Test.YtemlljgldkkkgaaSpec2
namespace Go.Proofs.Ytemlljgldkkkgaa
/-- the least cost from line i on, over the pages of up to m lines, v the potentials of the lines behind -/
def relax (P : PP) (v : Nat → Int) (i : Nat) : Nat → Int
  | 0 => -1
  | m + 1 => if P.pageE i (i + 1 + m) = 0 ∧ 0 ≤ v (i + 1 + m) ∧ (relax P v i m < 0 ∨ P.pageC i (i + 1 + m) + v (i + 1 + m) < relax P v i m) then P.pageC i (i + 1 + m) + v (i + 1 + m) else relax P v i m
def potF (P : PP) : Nat → Nat → Int
  | 0 => fun _ => 0
  | k + 1 => fun j => if j = P.lines.length - (k + 1) then relax P (potF P k) (P.lines.length - (k + 1)) (k + 1) else potF P k j
/-- the table when the lines from i on are done -/
def potA (P : PP) (i : Nat) : Nat → Int := potF P (P.lines.length - i)
/-- the potentials -/
def pot (P : PP) : Nat → Int := potA P 0
def potL (P : PP) : List Int := (List.range (P.lines.length + 1)).map (pot P)
theorem potA_end (P : PP) {i : Nat} (h : P.lines.length ≤ i) : potA P i = fun _ => 0 := by
  unfold potA; rw [show P.lines.length - i = 0 by omega]; rfl
theorem potA_step (P : PP) {i : Nat} (h : i < P.lines.length) : potA P i = fun j => if j = i then relax P (potA P (i + 1)) i (P.lines.length - i) else potA P (i + 1) j := by
  unfold potA
  obtain ⟨k, hk⟩ : ∃ k, P.lines.length - i = k + 1 := ⟨P.lines.length - i - 1, by omega⟩
  rw [hk, show P.lines.length - (i + 1) = k by omega]
  funext j
  simp only [potF]
  rw [show P.lines.length - (k + 1) = i by omega]
theorem relax_skip {P : PP} {v : Nat → Int} {i m : Nat} (h : ¬ (P.pageE i (i + 1 + m) = 0 ∧ 0 ≤ v (i + 1 + m) ∧ (relax P v i m < 0 ∨ P.pageC i (i + 1 + m) + v (i + 1 + m) < relax P v i m))) : relax P v i (m + 1) = relax P v i m := by
  rw [relax, if_neg h]
theorem relax_take {P : PP} {v : Nat → Int} {i m : Nat} (h : P.pageE i (i + 1 + m) = 0) (h2 : 0 ≤ v (i + 1 + m)) (h3 : relax P v i m < 0 ∨ P.pageC i (i + 1 + m) + v (i + 1 + m) < relax P v i m) : relax P v i (m + 1) = P.pageC i (i + 1 + m) + v (i + 1 + m) := by
  rw [relax, if_pos ⟨h, h2, h3⟩]
theorem Fine.high {P : PP} (F : Fine P) {a b c : Nat} (h1 : a ≤ b) (h2 : b ≤ c) (h : P.pageE a b = 22) : P.pageE a c = 22 := by
  unfold PP.pageE at h ⊢
  by_cases e : P.height < P.hgt a b
  · have := F.hgt_mono (a := a) (b := a) (c := b) (d := c) (Nat.le_refl _) h1 h2
    rw [if_pos (by omega)]
  · rw [if_neg e] at h
    split at h
    · cases h
    · split at h <;> cases h
/-- behind a page that is too high there is none -/
theorem relax_stop {P : PP} (F : Fine P) {v : Nat → Int} {i m : Nat} (h : P.pageE i (i + 1 + m) = 22) : ∀ d, relax P v i (m + d) = relax P v i m
  | 0 => rfl
  | d + 1 => by
    have := F.high (by omega) (show i + 1 + m ≤ i + 1 + (m + d) by omega) h
    rw [show m + (d + 1) = (m + d) + 1 by omega, relax_skip (by rw [this]; simp), relax_stop F h d]
theorem relax_bd {P : PP} (F : Fine P) {v : Nat → Int} {M : Int} (hM : 0 ≤ M) (hv : ∀ j, -1 ≤ v j ∧ v j ≤ M) (i : Nat) : ∀ m, -1 ≤ relax P v i m ∧ relax P v i m ≤ M + 20000
  | 0 => by simp only [relax]; omega
  | m + 1 => by
    have h1 := relax_bd F hM hv i m
    have h2 := F.pageC_bd i (i + 1 + m)
    have h3 := hv (i + 1 + m)
    rw [relax]
    split <;> omega
theorem potF_bd {P : PP} (F : Fine P) : ∀ k j, -1 ≤ potF P k j ∧ potF P k j ≤ 20000 * k
  | 0, j => by simp [potF]
  | k + 1, j => by
    have h1 := potF_bd F k
    have h2 := relax_bd F (M := 20000 * k) (by omega) h1 (P.lines.length - (k + 1)) (k + 1)
    have h3 := h1 j
    simp only [potF]
    split <;> omega
theorem potA_bd {P : PP} (F : Fine P) (i j : Nat) : -1 ≤ potA P i j ∧ potA P i j ≤ 81920000 := by
  have := potF_bd F (P.lines.length - i) j
  have := F.ln
  unfold potA
  omega
theorem relaxA_bd {P : PP} (F : Fine P) (k i m : Nat) : -1 ≤ relax P (potA P k) i m ∧ relax P (potA P k) i m ≤ 81940000 := by
  have := relax_bd F (M := 81920000) (by omega) (potA_bd F k) i m
  omega
end Go.Proofs.Ytemlljgldkkkgaa
