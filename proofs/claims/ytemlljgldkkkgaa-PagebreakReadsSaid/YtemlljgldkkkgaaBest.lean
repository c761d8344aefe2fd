/- plain law: the potentials are least, the ends the first of least cost -/
import Derived.Test.YtemlljgldkkkgaaSpec4
namespace Go.Proofs.Ytemlljgldkkkgaa
/-- a page that may be taken bounds the potential -/
theorem relax_le {P : PP} (F : Fine P) {v : Nat → Int} (hv : ∀ j, -1 ≤ v j) {i q : Nat} (h1 : i < q) (h2 : P.pageE i q = 0) (h3 : 0 ≤ v q) : ∀ m, q ≤ i + m → 0 ≤ relax P v i m ∧ relax P v i m ≤ P.pageC i q + v q
  | 0, h => by omega
  | m + 1, h => by
    have hC := F.pageC_bd i q
    by_cases e : q = i + 1 + m
    · subst e
      rw [relax]
      by_cases c : P.pageE i (i + 1 + m) = 0 ∧ 0 ≤ v (i + 1 + m) ∧ (relax P v i m < 0 ∨ P.pageC i (i + 1 + m) + v (i + 1 + m) < relax P v i m)
      · rw [if_pos c]; omega
      · rw [if_neg c]; omega
    · have ih := relax_le F hv h1 h2 h3 m (by omega)
      have hC2 := F.pageC_bd i (i + 1 + m)
      rw [relax]
      by_cases c : P.pageE i (i + 1 + m) = 0 ∧ 0 ≤ v (i + 1 + m) ∧ (relax P v i m < 0 ∨ P.pageC i (i + 1 + m) + v (i + 1 + m) < relax P v i m)
      · rw [if_pos c]; omega
      · rw [if_neg c]; exact ih
theorem pot_le {P : PP} (F : Fine P) {i q : Nat} (h1 : i < q) (hq : q ≤ P.lines.length) (h2 : P.pageE i q = 0) (h3 : 0 ≤ pot P q) : 0 ≤ pot P i ∧ pot P i ≤ P.pageC i q + pot P q := by
  have hb := pot_behind P h1 hq
  rw [pot_eq P (show i < P.lines.length by omega), ← hb]
  exact relax_le F (fun j => (potA_bd F (i + 1) j).1) h1 h2 (by rw [hb]; exact h3) _ (by omega)
theorem sumC_add {P : PP} : ∀ (xs : List Int) (a : Nat) (s : Int), sumE P xs a = 0 → sumC P xs a s = s + sumC P xs a 0
  | [], a, s, _ => by simp [sumC]
  | x :: r, a, s, h => by
    rw [sumE] at h
    by_cases c : P.pageE a x.toNat ≠ 0
    · rw [if_pos c] at h; exact absurd h c
    · rw [if_neg c] at h
      rw [sumC, if_neg c, sumC, if_neg c, sumC_add r x.toNat (s + P.pageC a x.toNat) h, sumC_add r x.toNat (0 + P.pageC a x.toNat) h]
      omega
/-- no ends cost less than the potential -/
theorem pot_least {P : PP} (F : Fine P) : ∀ (xs : List Int) (a : Nat), a ≤ P.lines.length → Asc P.lines.length a xs → sumE P xs a = 0 → 0 ≤ pot P a ∧ pot P a ≤ sumC P xs a 0
  | [], a, _, h1, _ => by
    have : (a : Int) = P.lines.length := h1
    obtain rfl : a = P.lines.length := by omega
    rw [pot_last]
    simp [sumC]
  | x :: r, a, ha, h1, h2 => by
    obtain ⟨hx1, hx2, hx3⟩ := h1
    rw [sumE] at h2
    by_cases c : P.pageE a x.toNat ≠ 0
    · rw [if_pos c] at h2; exact absurd h2 c
    · rw [if_neg c] at h2
      rw [sumC, if_neg c, sumC_add r _ _ h2]
      have c := Decidable.not_not.1 c
      obtain ⟨y, rfl⟩ := Int.eq_ofNat_of_zero_le (show 0 ≤ x by omega)
      rw [Int.toNat_natCast] at *
      have ih := pot_least F r y (by omega) hx3 h2
      have := pot_le F (show a < y by omega) (by omega) c ih.1
      omega
/-- the ends that are chosen are ends, and cost what the potential says -/
theorem brk_ends {P : PP} : ∀ (f i : Nat), i ≤ P.lines.length → P.lines.length - i ≤ f → 0 ≤ pot P i → Asc P.lines.length i (brkGo P f i) ∧ sumE P (brkGo P f i) i = 0 ∧ sumC P (brkGo P f i) i 0 = pot P i
  | 0, i, h1, h2, _ => by
    obtain rfl : i = P.lines.length := by omega
    rw [pot_last]
    exact ⟨rfl, rfl, rfl⟩
  | f + 1, i, h1, h2, h3 => by
    by_cases hi : i < P.lines.length
    · obtain ⟨k, k1, k2, k3⟩ := pot_hit hi h3
      cases hn : nextJ P i with
      | none =>
        unfold nextJ at hn
        rw [List.find?_eq_none] at hn
        have := hn k (List.mem_map.2 ⟨k - (i + 1), by simp; omega, by omega⟩)
        exact absurd k3 this
      | some j =>
        obtain ⟨j1, j2, j3, _⟩ := nextJ_spec hn
        obtain ⟨o1, o2, o3⟩ := okJ_iff.1 j3
        obtain ⟨a1, a2, a3⟩ := brk_ends f j j2 (by omega) o2
        rw [brkGo_step hi hn]
        refine ⟨⟨by omega, by omega, a1⟩, ?_, ?_⟩
        · rw [sumE, Int.toNat_natCast, if_neg (by simp [o1])]; exact a2
        · rw [sumC, Int.toNat_natCast, if_neg (by simp [o1]), sumC_add _ _ _ a2, a3]
          omega
    · obtain rfl : i = P.lines.length := by omega
      rw [brkGo_none (Nat.le_refl _), pot_last]
      exact ⟨rfl, rfl, rfl⟩
/-- and are the first of those -/
theorem brk_first {P : PP} (F : Fine P) : ∀ (xs : List Int) (f i : Nat), i ≤ P.lines.length → P.lines.length - i ≤ f → Asc P.lines.length i xs → sumE P xs i = 0 → sumC P xs i 0 = pot P i → cmpL (brkGo P f i) xs ≤ 0
  | [], f, i, h1, _, h2, _, _ => by
    have : (i : Int) = P.lines.length := h2
    obtain rfl : i = P.lines.length := by omega
    rw [brkGo_none (Nat.le_refl _)]
    simp [cmpL]
  | x :: r, f, i, h1, hf, h2, h3, h4 => by
    obtain ⟨hx1, hx2, hx3⟩ := h2
    rw [sumE] at h3
    by_cases c : P.pageE i x.toNat ≠ 0
    · rw [if_pos c] at h3; exact absurd h3 c
    · rw [if_neg c] at h3
      rw [sumC, if_neg c, sumC_add r _ _ h3] at h4
      have c := Decidable.not_not.1 c
      obtain ⟨y, rfl⟩ := Int.eq_ofNat_of_zero_le (show 0 ≤ x by omega)
      rw [Int.toNat_natCast] at *
      have ih := pot_least F r y (by omega) hx3 h3
      have hp := pot_le F (show i < y by omega) (by omega) c ih.1
      have hok : okJ P i y = true := okJ_iff.2 ⟨c, ih.1, by omega⟩
      have hi : i < P.lines.length := by omega
      obtain ⟨g, rfl⟩ : ∃ g, f = g + 1 := ⟨f - 1, by omega⟩
      cases hn : nextJ P i with
      | none =>
        unfold nextJ at hn
        rw [List.find?_eq_none] at hn
        have := hn y (List.mem_map.2 ⟨y - (i + 1), by simp; omega, by omega⟩)
        exact absurd hok this
      | some j =>
        obtain ⟨j1, j2, j3, j4⟩ := nextJ_spec hn
        rw [brkGo_step hi hn]
        simp only [cmpL]
        by_cases e : j = y
        · subst e
          rw [if_neg (by simp [cmpI_eq])]
          exact brk_first F r g j j2 (by omega) hx3 h3 (by omega)
        · have hlt : j < y := by
            rcases Nat.lt_or_ge j y with h | h
            · exact h
            · have := j4 y (by omega) (by omega)
              rw [hok] at this; cases this
          have : cmpI (j : Int) (y : Int) = -1 := by unfold cmpI; rw [if_pos (by omega)]
          rw [this, if_pos (by decide)]; decide
end Go.Proofs.Ytemlljgldkkkgaa
