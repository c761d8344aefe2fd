/- Plain law: penalties. No program. -/
import Derived.Test.YtemlljgldkkkgaaChoose
namespace Go.Proofs.Ytemlljgldkkkgaa
open Go.RowKit
/-- why a list of paragraphs is none -/
def scanE (n : Int) : Int → List Int → Int
  | _, [] => 0
  | p, x :: r => if x < 0 ∨ n ≤ x then 2 else if x ≤ p then 10 else scanE n x r
def prevA (xs : List Int) (k : Nat) : Int := if k = 0 then -1 else xs.getD (k - 1) 0
/-- the scan has come to place k -/
def ScanAt (n : Int) (xs : List Int) (k : Nat) : Prop := k ≤ xs.length ∧ scanE n (-1) xs = scanE n (prevA xs k) (xs.drop k) ∧ (∀ j, j < k → 0 ≤ xs.getD j 0 ∧ xs.getD j 0 < n)
theorem ScanAt.zero {n : Int} {xs : List Int} : ScanAt n xs 0 := ⟨Nat.zero_le _, rfl, fun j h => absurd h (by omega)⟩
theorem prevA_zero {xs : List Int} : prevA xs 0 = -1 := rfl
theorem prevA_succ {xs : List Int} {k : Nat} (h : k < xs.length) : prevA xs (k + 1) = xs[k] := by
  unfold prevA; rw [if_neg (by omega), Nat.add_sub_cancel, getD_lt' h]
theorem ScanAt.eq {n : Int} {xs : List Int} {k : Nat} (h : ScanAt n xs k) (hk : k < xs.length) : scanE n (-1) xs = if xs[k] < 0 ∨ n ≤ xs[k] then 2 else if xs[k] ≤ prevA xs k then 10 else scanE n xs[k] (xs.drop (k + 1)) := by
  rw [h.2.1, List.drop_eq_getElem_cons hk]; rfl
theorem ScanAt.range {n : Int} {xs : List Int} {k : Nat} (h : ScanAt n xs k) (hk : k < xs.length) (h2 : xs[k] < 0 ∨ n ≤ xs[k]) : scanE n (-1) xs = 2 := by rw [h.eq hk, if_pos h2]
theorem ScanAt.order {n : Int} {xs : List Int} {k : Nat} (h : ScanAt n xs k) (hk : k < xs.length) (h0 : 0 ≤ xs[k]) (h1 : xs[k] < n) (h2 : xs[k] ≤ prevA xs k) : scanE n (-1) xs = 10 := by rw [h.eq hk, if_neg (by omega), if_pos h2]
theorem ScanAt.step {n : Int} {xs : List Int} {k : Nat} (h : ScanAt n xs k) (hk : k < xs.length) (h0 : 0 ≤ xs[k]) (h1 : xs[k] < n) (h2 : ¬ xs[k] ≤ prevA xs k) : ScanAt n xs (k + 1) := by
  refine ⟨hk, ?_, fun j hj => ?_⟩
  · rw [h.eq hk, if_neg (by omega), if_neg h2, prevA_succ hk]
  · by_cases e : j = k
    · subst e; rw [getD_lt' hk]; exact ⟨h0, h1⟩
    · exact h.2.2 j (by omega)
theorem ScanAt.done {n : Int} {xs : List Int} (h : ScanAt n xs xs.length) : scanE n (-1) xs = 0 := by rw [h.2.1, List.drop_length]; rfl
/-- ascending within 0 .. n-1 -/
theorem scan_zero {n : Int} : ∀ {xs : List Int} {p : Int}, scanE n p xs = 0 → ∀ j, (h : j < xs.length) → 0 ≤ xs[j] ∧ xs[j] < n ∧ p < xs[j] ∧ (∀ i, (hi : i < j) → xs[i] < xs[j])
  | [], _, _, j, h => absurd h (by simp)
  | x :: r, p, hs, j, h => by
    unfold scanE at hs
    split at hs
    · omega
    · split at hs
      · omega
      · rename_i h1 h2
        match j, h with
        | 0, _ => exact ⟨by simp; omega, by simp; omega, by simp; omega, fun i hi => absurd hi (by omega)⟩
        | j + 1, h =>
          obtain ⟨a1, a2, a3, a4⟩ := scan_zero hs j (by simpa using h)
          refine ⟨by simpa using a1, by simpa using a2, by simp; omega, fun i hi => ?_⟩
          match i, hi with
          | 0, _ => simpa using a3
          | i + 1, hi => simpa using a4 i (by omega)
/-- a paragraph begins at line j, or there is no line j -/
def begB (N : Nat) (ys : List Int) (j : Nat) : Bool := decide (j = 0) || decide (j = N) || ys.any (fun x => x == (j : Int))
def penRaw (N : Nat) (xs : List Int) (w o : Int) (i : Nat) : Int :=
  (if begB N xs i = true ∧ begB N xs (i + 1) = false then o else 0) + (if i + 1 < N ∧ begB N xs (i + 1) = false ∧ begB N xs (i + 2) = true then w else 0)
def penAt (N : Nat) (xs : List Int) (w o : Int) (i : Nat) : Int := min (penRaw N xs w o i) 10000
def penBad (n w o : Int) : Prop := n < 0 ∨ 4096 < n ∨ w < 0 ∨ 10000 < w ∨ o < 0 ∨ 10000 < o
instance (n w o : Int) : Decidable (penBad n w o) := by unfold penBad; exact inferInstance
def penE (n : Int) (xs : List Int) (w o : Int) : Int := if penBad n w o then 2 else scanE n (-1) xs
def penL (n : Int) (xs : List Int) (w o : Int) : List Int := if penBad n w o ∨ scanE n (-1) xs ≠ 0 then [] else (List.range n.toNat).map (penAt n.toNat xs w o)
theorem pen_bad {n w o : Int} {xs : List Int} (h : penBad n w o) : penL n xs w o = [] ∧ penE n xs w o = 2 := by
  unfold penL penE; rw [if_pos (.inl h), if_pos h]; exact ⟨rfl, rfl⟩
theorem pen_scan {n w o : Int} {xs : List Int} (h : ¬ penBad n w o) (h2 : scanE n (-1) xs ≠ 0) : penL n xs w o = [] ∧ penE n xs w o = scanE n (-1) xs := by
  unfold penL penE; rw [if_pos (.inr h2), if_neg h]; exact ⟨rfl, rfl⟩
theorem pen_ok {N : Nat} {w o : Int} {xs : List Int} (h : ¬ penBad N w o) (h2 : scanE N (-1) xs = 0) : penL N xs w o = (List.range N).map (penAt N xs w o) ∧ penE N xs w o = 0 := by
  unfold penL penE; rw [if_neg (by intro h3; rcases h3 with h3 | h3; exact h h3; exact h3 h2), if_neg h]; exact ⟨rfl, h2⟩
theorem penL_len (n : Int) (xs : List Int) (w o : Int) : (penL n xs w o).length ≤ 4096 := by
  unfold penL
  split
  · simp
  · rename_i h
    have : ¬ penBad n w o := fun h2 => h (.inl h2)
    unfold penBad at this
    simp; omega
/-- the marks of k paragraphs -/
theorem begB_step {N : Nat} {xs : List Int} {k : Nat} (h : k < xs.length) (h0 : 0 ≤ xs[k]) (j : Nat) : begB N (xs.take (k + 1)) j = if j = xs[k].toNat then true else begB N (xs.take k) j := by
  unfold begB
  rw [List.take_succ_eq_append_getElem h, List.any_append]
  by_cases e : j = xs[k].toNat
  · rw [if_pos e]
    have : (xs[k] == (j : Int)) = true := by rw [beq_iff_eq]; omega
    simp [this]
  · rw [if_neg e]
    have : (xs[k] == (j : Int)) = false := beq_eq_false_iff_ne.2 (by omega)
    simp [this]
end Go.Proofs.Ytemlljgldkkkgaa
