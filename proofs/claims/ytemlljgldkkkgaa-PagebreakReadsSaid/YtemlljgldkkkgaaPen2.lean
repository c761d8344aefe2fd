/- Plain law: penalties from segment to segment. No program. -/
import Derived.Test.YtemlljgldkkkgaaPen
namespace Go.Proofs.Ytemlljgldkkkgaa
open Go.RowKit
/-- the beginnings, then the end -/
def penYs (N : Nat) (xs : List Int) : List Int := xs ++ [(N : Int)]
/-- the number before place k -/
def penFrom (xs : List Int) (k : Nat) : Int := if k = 0 then 0 else xs.getD (k - 1) 0
theorem penYs_len (N : Nat) (xs : List Int) : (penYs N xs).length = xs.length + 1 := by simp [penYs]
theorem penYs_lt {N : Nat} {xs : List Int} {k : Nat} (h : k < xs.length) (h2 : k < (penYs N xs).length) : (penYs N xs)[k] = xs[k] := List.getElem_append_left h
theorem penYs_last {N : Nat} {xs : List Int} (h2 : xs.length < (penYs N xs).length) : (penYs N xs)[xs.length] = N := by simp [penYs]
theorem penFrom_succ {N : Nat} {xs : List Int} {k : Nat} (h : k < xs.length) (h2 : k < (penYs N xs).length) : penFrom xs (k + 1) = (penYs N xs)[k] := by
  unfold penFrom; rw [if_neg (by omega), Nat.add_sub_cancel, getD_lt' h, penYs_lt h]
structure Seg (N : Nat) (xs : List Int) (a b : Nat) : Prop where
  ab : a ≤ b
  bN : b ≤ N
  at_ : begB N xs a = true
  bt : begB N xs b = true
  mid : ∀ j, a < j → j < b → begB N xs j = false
theorem begB_mem {N : Nat} {xs : List Int} {j : Nat} {i : Nat} (h : i < xs.length) (e : xs[i] = (j : Int)) : begB N xs j = true := by
  unfold begB
  have : xs.any (fun x => x == (j : Int)) = true := List.any_eq_true.2 ⟨xs[i], List.getElem_mem h, by rw [e]; simp⟩
  rw [this]; simp
theorem begB_not {N : Nat} {xs : List Int} {j : Nat} (h0 : j ≠ 0) (hN : j ≠ N) (h : ∀ i, (hi : i < xs.length) → xs[i] ≠ (j : Int)) : begB N xs j = false := by
  unfold begB
  have : xs.any (fun x => x == (j : Int)) = false := by
    rw [List.any_eq_false]
    intro x hx
    obtain ⟨i, hi, rfl⟩ := List.mem_iff_getElem.1 hx
    simpa using h i hi
  rw [this]; simp [h0, hN]
theorem seg_of {N : Nat} {xs : List Int} (hs : scanE N (-1) xs = 0) {k : Nat} (hk : k ≤ xs.length) (h2 : k < (penYs N xs).length) :
    ∃ a b : Nat, penFrom xs k = (a : Int) ∧ (penYs N xs)[k] = (b : Int) ∧ Seg N xs a b := by
  have Z := scan_zero hs
  have hfrom : 0 ≤ penFrom xs k ∧ penFrom xs k ≤ N ∧ (∀ i, (hi : i < xs.length) → i < k → xs[i] ≤ penFrom xs k) := by
    unfold penFrom
    by_cases e : k = 0
    · rw [if_pos e]; exact ⟨Int.le_refl _, by omega, fun i _ h => absurd h (by omega)⟩
    · rw [if_neg e, getD_lt' (by omega)]
      obtain ⟨z1, z2, z3, z4⟩ := Z (k - 1) (by omega)
      refine ⟨z1, by omega, fun i hi h => ?_⟩
      by_cases e2 : i = k - 1
      · subst e2; exact Int.le_refl _
      · exact Int.le_of_lt (z4 i (by omega))
  have hto : 0 ≤ (penYs N xs)[k] ∧ (penYs N xs)[k] ≤ N ∧ penFrom xs k ≤ (penYs N xs)[k] ∧ (∀ i, (hi : i < xs.length) → k ≤ i → (penYs N xs)[k] ≤ xs[i]) := by
    by_cases e : k < xs.length
    · rw [penYs_lt e]
      obtain ⟨z1, z2, z3, z4⟩ := Z k e
      refine ⟨z1, by omega, ?_, fun i hi h => ?_⟩
      · unfold penFrom
        by_cases e2 : k = 0
        · rw [if_pos e2]; exact z1
        · rw [if_neg e2, getD_lt' (by omega)]; exact Int.le_of_lt (z4 _ (by omega))
      · by_cases e2 : i = k
        · subst e2; exact Int.le_refl _
        · exact Int.le_of_lt ((Z i hi).2.2.2 k (by omega))
    · obtain rfl : k = xs.length := by omega
      rw [penYs_last]
      exact ⟨by omega, Int.le_refl _, hfrom.2.1, fun i hi h => absurd hi (by omega)⟩
  obtain ⟨a, ha⟩ := Int.eq_ofNat_of_zero_le hfrom.1
  obtain ⟨b, hb⟩ := Int.eq_ofNat_of_zero_le hto.1
  refine ⟨a, b, ha, hb, ⟨by omega, by omega, ?_, ?_, fun j h3 h4 => ?_⟩⟩
  · by_cases e : k = 0
    · have : a = 0 := by unfold penFrom at ha; rw [if_pos e] at ha; omega
      subst this; simp [begB]
    · unfold penFrom at ha
      rw [if_neg e, getD_lt' (by omega)] at ha
      exact begB_mem (by omega) ha
  · by_cases e : k < xs.length
    · rw [penYs_lt e] at hb
      exact begB_mem e hb
    · obtain rfl : k = xs.length := by omega
      rw [penYs_last] at hb
      have : b = N := by omega
      subst this; simp [begB]
  · refine begB_not (by omega) (by omega) (fun i hi e => ?_)
    by_cases e2 : i < k
    · have := hfrom.2.2 i hi e2; omega
    · have := hto.2.2.2 i hi (by omega); omega
theorem seg_raw {N : Nat} {xs : List Int} {a b : Nat} (S : Seg N xs a b) {w o : Int} {j : Nat} (h1 : a ≤ j) (h2 : j < b) :
    penRaw N xs w o j = (if j = a ∧ a + 2 ≤ b then o else 0) + (if j + 2 = b then w else 0) := by
  have hb := S.bN
  unfold penRaw
  congr 1
  · by_cases e : j = a
    · subst e
      by_cases e2 : j + 2 ≤ b
      · rw [if_pos ⟨S.at_, S.mid (j + 1) (by omega) (by omega)⟩, if_pos ⟨rfl, e2⟩]
      · have : j + 1 = b := by omega
        rw [if_neg (by rw [this, S.bt]; simp), if_neg (by omega)]
    · rw [if_neg (by rw [S.mid j (by omega) h2]; simp), if_neg (by omega)]
  · by_cases e : j + 1 = b
    · rw [if_neg (by rw [e, S.bt]; simp), if_neg (by omega)]
    · have hm := S.mid (j + 1) (by omega) (by omega)
      by_cases e2 : j + 2 = b
      · rw [if_pos ⟨by omega, hm, by rw [e2]; exact S.bt⟩, if_pos e2]
      · rw [if_neg (by rw [S.mid (j + 2) (by omega) (by omega)]; simp), if_neg e2]
theorem seg_short {N : Nat} {xs : List Int} {a b : Nat} (S : Seg N xs a b) (h : ¬ a + 2 ≤ b) {w o : Int} (j : Nat) : (if j < a then penRaw N xs w o j else 0) = (if j < b then penRaw N xs w o j else 0) := by
  have := S.ab
  by_cases e : j < a
  · rw [if_pos e, if_pos (by omega)]
  · rw [if_neg e]
    by_cases e2 : j < b
    · rw [if_pos e2, seg_raw S (by omega) e2, if_neg (by omega), if_neg (by omega)]; rfl
    · rw [if_neg e2]
theorem seg_long {N : Nat} {xs : List Int} {a b : Nat} (S : Seg N xs a b) (h : a + 2 ≤ b) {w o : Int} (j : Nat) :
    (if j = b - 2 then (if b - 2 = a then o else 0) + w else if j = a then o else if j < a then penRaw N xs w o j else 0) = (if j < b then penRaw N xs w o j else 0) := by
  by_cases e : j < a
  · rw [if_neg (by omega), if_neg (by omega), if_pos e, if_pos (by omega)]
  · by_cases e2 : j < b
    · rw [if_pos e2, seg_raw S (by omega) e2]
      by_cases e3 : j = b - 2
      · rw [if_pos e3, if_pos (show j + 2 = b by omega)]
        by_cases e4 : b - 2 = a
        · rw [if_pos e4, if_pos (by omega)]
        · rw [if_neg e4, if_neg (by omega)]
      · rw [if_neg e3, if_neg (show ¬ j + 2 = b by omega)]
        by_cases e4 : j = a
        · rw [if_pos e4, if_pos ⟨e4, h⟩]; simp
        · rw [if_neg e4, if_neg e, if_neg (by omega)]; rfl
    · rw [if_neg (by omega), if_neg (by omega), if_neg e, if_neg e2]
theorem penRaw_bd (N : Nat) (xs : List Int) {w o : Int} (h1 : 0 ≤ w) (h2 : w ≤ 10000) (h3 : 0 ≤ o) (h4 : o ≤ 10000) (j : Nat) : 0 ≤ penRaw N xs w o j ∧ penRaw N xs w o j ≤ 20000 := by
  unfold penRaw
  split <;> split <;> omega
end Go.Proofs.Ytemlljgldkkkgaa
