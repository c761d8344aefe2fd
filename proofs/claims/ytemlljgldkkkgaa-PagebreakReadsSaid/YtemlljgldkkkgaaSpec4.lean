/- Plain law: the first page ends of least cost, out of the potentials. No program. -/
import Derived.Test.YtemlljgldkkkgaaSpec3
namespace Go.Proofs.Ytemlljgldkkkgaa
/-- the potential of i is that of the page to j, and behind -/
def okJ (P : PP) (i j : Nat) : Bool := decide (P.pageE i j = 0) && (decide (0 ≤ pot P j) && decide (P.pageC i j + pot P j = pot P i))
def nextJ (P : PP) (i : Nat) : Option Nat := ((List.range (P.lines.length - i)).map (fun d => i + 1 + d)).find? (okJ P i)
def brkGo (P : PP) : Nat → Nat → List Int
  | 0, _ => []
  | f + 1, i => if i < P.lines.length then match nextJ P i with | some j => (j : Int) :: brkGo P f j | none => [] else []
/-- the page ends -/
def brkL (P : PP) : List Int := brkGo P P.lines.length 0
theorem okJ_iff {P : PP} {i j : Nat} : okJ P i j = true ↔ P.pageE i j = 0 ∧ 0 ≤ pot P j ∧ P.pageC i j + pot P j = pot P i := by
  simp [okJ]
theorem nextJ_some {P : PP} {i j : Nat} (h1 : i < j) (h2 : j ≤ P.lines.length) (h : okJ P i j = true) (hb : ∀ k, i < k → k < j → okJ P i k = false) : nextJ P i = some j := by
  unfold nextJ
  rw [List.find?_eq_some_iff_getElem]
  refine ⟨h, j - (i + 1), by simp; omega, by simp; omega, fun k hk => ?_⟩
  simp only [List.getElem_map, List.getElem_range]
  rw [hb (i + 1 + k) (by omega) (by omega)]
  rfl
theorem nextJ_spec {P : PP} {i j : Nat} (h : nextJ P i = some j) : i < j ∧ j ≤ P.lines.length ∧ okJ P i j = true ∧ ∀ k, i < k → k < j → okJ P i k = false := by
  unfold nextJ at h
  rw [List.find?_eq_some_iff_getElem] at h
  obtain ⟨h1, d, hd, he, hb⟩ := h
  simp only [List.length_map, List.length_range] at hd
  simp only [List.getElem_map, List.getElem_range] at he hb
  refine ⟨by omega, by omega, h1, fun k hk1 hk2 => ?_⟩
  have := hb (k - (i + 1)) (by omega)
  rw [show i + 1 + (k - (i + 1)) = k by omega] at this
  simpa using this
theorem relax_hit {P : PP} {v : Nat → Int} {i : Nat} : ∀ m, 0 ≤ relax P v i m → ∃ j, i < j ∧ j ≤ i + m ∧ P.pageE i j = 0 ∧ 0 ≤ v j ∧ P.pageC i j + v j = relax P v i m
  | 0, h => by simp [relax] at h
  | m + 1, h => by
    by_cases c : P.pageE i (i + 1 + m) = 0 ∧ 0 ≤ v (i + 1 + m) ∧ (relax P v i m < 0 ∨ P.pageC i (i + 1 + m) + v (i + 1 + m) < relax P v i m)
    · exact ⟨i + 1 + m, by omega, by omega, c.1, c.2.1, by rw [relax, if_pos c]⟩
    · rw [relax, if_neg c] at h ⊢
      obtain ⟨j, h1, h2, h3⟩ := relax_hit m h
      exact ⟨j, h1, by omega, h3⟩
theorem potA_hi (P : PP) {i j : Nat} (h : i ≤ j) : ∀ d, i + d ≤ P.lines.length → d ≤ j - i → potA P i j = potA P (i + d) j
  | 0, _, _ => rfl
  | d + 1, h1, h2 => by
    rw [potA_hi P h d (by omega) (by omega), potA_step P (i := i + d) (by omega)]
    simp only
    rw [if_neg (by omega)]
    rfl
/-- the potential of a line that is done does not change any more -/
theorem pot_eq (P : PP) {i : Nat} (h : i < P.lines.length) : pot P i = relax P (potA P (i + 1)) i (P.lines.length - i) := by
  unfold pot
  rw [potA_hi P (Nat.zero_le i) i (by omega) (by omega), Nat.zero_add, potA_step P h]
  exact if_pos rfl
theorem pot_behind (P : PP) {i j : Nat} (h : i < j) (hj : j ≤ P.lines.length) : potA P (i + 1) j = pot P j := by
  unfold pot
  rw [potA_hi P (Nat.zero_le j) (i + 1) (by omega) (by omega), Nat.zero_add]
theorem pot_last (P : PP) : pot P P.lines.length = 0 := by
  unfold pot
  rw [potA_hi P (Nat.zero_le _) P.lines.length (by omega) (by omega), Nat.zero_add, potA_end P (Nat.le_refl _)]
theorem pot_bd {P : PP} (F : Fine P) (j : Nat) : -1 ≤ pot P j ∧ pot P j ≤ 81920000 := potA_bd F 0 j
theorem pot_hit {P : PP} {i : Nat} (h : i < P.lines.length) (h0 : 0 ≤ pot P i) : ∃ j, i < j ∧ j ≤ P.lines.length ∧ okJ P i j = true := by
  rw [pot_eq P h] at h0
  obtain ⟨j, h1, h2, h3, h4, h5⟩ := relax_hit _ h0
  refine ⟨j, h1, by omega, okJ_iff.2 ⟨h3, ?_, ?_⟩⟩
  · rw [← pot_behind P h1 (by omega)]; exact h4
  · rw [← pot_behind P h1 (by omega), h5, ← pot_eq P h]
theorem brkGo_none {P : PP} {f i : Nat} (h : P.lines.length ≤ i) : brkGo P f i = [] := by
  cases f with
  | zero => rfl
  | succ f => rw [brkGo, if_neg (by omega)]
theorem brkGo_step {P : PP} {f i j : Nat} (h : i < P.lines.length) (hj : nextJ P i = some j) : brkGo P (f + 1) i = (j : Int) :: brkGo P f j := by
  rw [brkGo, if_pos h, hj]
theorem brkGo_fuel {P : PP} : ∀ (f g i : Nat), P.lines.length - i ≤ f → P.lines.length - i ≤ g → brkGo P f i = brkGo P g i
  | 0, g, i, h1, _ => by rw [brkGo_none (by omega), brkGo_none (by omega)]
  | f + 1, 0, i, _, h2 => by rw [brkGo_none (by omega), brkGo_none (by omega)]
  | f + 1, g + 1, i, h1, h2 => by
    rw [brkGo, brkGo]
    split
    · cases hn : nextJ P i with
      | none => rfl
      | some j =>
        have := (nextJ_spec hn).1
        simp only
        rw [brkGo_fuel f g j (by omega) (by omega)]
    · rfl
/-- where the outer loop of Break stands -/
structure AtB (P : PP) (ds : List Int) (i : Nat) : Prop where
  e : ds ++ brkGo P (P.lines.length - i) i = brkL P
  i1 : i ≤ P.lines.length
  p : 0 ≤ pot P i
  len : ds.length ≤ i
theorem AtB.start {P : PP} (h : 0 ≤ pot P 0) : AtB P [] 0 := ⟨rfl, Nat.zero_le _, h, Nat.le_refl _⟩
theorem AtB.step {P : PP} {ds : List Int} {i j : Nat} (h : AtB P ds i) (hi : i < P.lines.length) (hj : nextJ P i = some j) : AtB P (ds ++ [(j : Int)]) j := by
  obtain ⟨h1, h2, h3, _⟩ := nextJ_spec hj
  refine ⟨?_, h2, (okJ_iff.1 h3).2.1, ?_⟩
  · rw [← h.e]
    obtain ⟨f, hf⟩ : ∃ f, P.lines.length - i = f + 1 := ⟨P.lines.length - i - 1, by omega⟩
    rw [hf, brkGo_step hi hj, brkGo_fuel (P.lines.length - j) f j (by omega) (by omega)]
    simp
  · have := h.len
    simp; omega
theorem AtB.done {P : PP} {ds : List Int} {i : Nat} (h : AtB P ds i) (hi : P.lines.length ≤ i) : ds = brkL P := by
  rw [← h.e, brkGo_none hi, List.append_nil]
/-- Break's three results -/
def breakL (P : PP) : List Int := if chk P ≠ 0 then [] else if pot P 0 < 0 then [] else brkL P
def breakC (P : PP) : Int := if chk P ≠ 0 then 0 else if pot P 0 < 0 then 0 else pot P 0
def breakE (P : PP) : Int := if chk P ≠ 0 then 1 else if pot P 0 < 0 then 23 else 0
theorem break_bad {P : PP} (h : chk P ≠ 0) : breakL P = [] ∧ breakC P = 0 ∧ breakE P = 1 := by unfold breakL breakC breakE; rw [if_pos h, if_pos h, if_pos h]; exact ⟨rfl, rfl, rfl⟩
theorem break_none {P : PP} (h : chk P = 0) (h2 : pot P 0 < 0) : breakL P = [] ∧ breakC P = 0 ∧ breakE P = 23 := by
  have e : ¬ chk P ≠ 0 := by simp [h]
  unfold breakL breakC breakE; rw [if_neg e, if_neg e, if_neg e, if_pos h2, if_pos h2, if_pos h2]; exact ⟨rfl, rfl, rfl⟩
theorem break_ok {P : PP} (h : chk P = 0) (h2 : ¬ pot P 0 < 0) : breakL P = brkL P ∧ breakC P = pot P 0 ∧ breakE P = 0 := by
  have e : ¬ chk P ≠ 0 := by simp [h]
  unfold breakL breakC breakE; rw [if_neg e, if_neg e, if_neg e, if_neg h2, if_neg h2, if_neg h2]; exact ⟨rfl, rfl, rfl⟩
def potsL (P : PP) : List Int := if chk P ≠ 0 then [] else potL P
def potsE (P : PP) : Int := if chk P ≠ 0 then 1 else 0
theorem potL_len (P : PP) : (potL P).length = P.lines.length + 1 := by simp [potL]
theorem potL_at {P : PP} {j : Nat} (h : j < (potL P).length) : (potL P)[j] = pot P j := by simp [potL]
/-- all between i and j are no ends -/
def NoneTo (P : PP) (i j : Nat) : Prop := ∀ k, i < k → k < j → okJ P i k = false
theorem NoneTo.step {P : PP} {i j : Nat} (h : NoneTo P i j) (hj : okJ P i j = false) : NoneTo P i (j + 1) := fun k h1 h2 => by
  by_cases e : k = j
  · subst e; exact hj
  · exact h k h1 (by omega)
theorem NoneTo.never {P : PP} {i j : Nat} (h : NoneTo P i j) (hj : P.lines.length < j) (hi : i < P.lines.length) (hp : 0 ≤ pot P i) : False := by
  obtain ⟨k, h1, h2, h3⟩ := pot_hit hi hp
  have := h k h1 (by omega)
  rw [this] at h3
  cases h3
end Go.Proofs.Ytemlljgldkkkgaa
