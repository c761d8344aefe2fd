/- Plain law: the cost of page ends, potentials, page ends of least cost, as functions on lists. No program. -/
import Derived.Test.YtemlljgldkkkgaaSpec
namespace Go.Proofs.Ytemlljgldkkkgaa
/-- why a list is no list of ends -/
def endsE (n : Int) : List Int → Int → Int
  | [], last => if last ≠ n then 9 else 0
  | x :: r, last => if x < 1 ∨ n < x then 2 else if x ≤ last then 10 else endsE n r x
theorem endsE_step {n : Int} {xs : List Int} {k : Nat} (hk : k < xs.length) {l : Int} (h1 : ¬ xs[k] < 1) (h2 : ¬ n < xs[k]) (h3 : ¬ xs[k] ≤ l) (h : endsE n xs 0 = endsE n (xs.drop k) l) : endsE n xs 0 = endsE n (xs.drop (k + 1)) xs[k] := by
  rw [h, List.drop_eq_getElem_cons hk, endsE, if_neg (by omega), if_neg h3]
theorem endsE_2 {n : Int} {xs : List Int} {k : Nat} (hk : k < xs.length) {l : Int} (h1 : xs[k] < 1 ∨ n < xs[k]) (h : endsE n xs 0 = endsE n (xs.drop k) l) : endsE n xs 0 = 2 := by
  rw [h, List.drop_eq_getElem_cons hk, endsE, if_pos h1]
theorem endsE_10 {n : Int} {xs : List Int} {k : Nat} (hk : k < xs.length) {l : Int} (h1 : ¬ xs[k] < 1) (h2 : ¬ n < xs[k]) (h3 : xs[k] ≤ l) (h : endsE n xs 0 = endsE n (xs.drop k) l) : endsE n xs 0 = 10 := by
  rw [h, List.drop_eq_getElem_cons hk, endsE, if_neg (by omega), if_pos h3]
theorem endsE_9 {n : Int} {xs : List Int} {k : Nat} (hk : xs.length ≤ k) {l : Int} (h1 : l ≠ n) (h : endsE n xs 0 = endsE n (xs.drop k) l) : endsE n xs 0 = 9 := by
  rw [h, List.drop_of_length_le hk, endsE, if_pos h1]
theorem endsE_0 {n : Int} {xs : List Int} {k : Nat} (hk : xs.length ≤ k) {l : Int} (h1 : l = n) (h : endsE n xs 0 = endsE n (xs.drop k) l) : endsE n xs 0 = 0 := by
  rw [h, List.drop_of_length_le hk, endsE, if_neg (by omega)]
/-- ascending from l, up to n -/
def Asc (n : Int) : Int → List Int → Prop
  | l, [] => l = n
  | l, x :: r => l < x ∧ x ≤ n ∧ Asc n x r
theorem endsE_asc {n : Int} : ∀ (xs : List Int) (l : Int), endsE n xs l = 0 → Asc n l xs
  | [], l, h => by
    unfold endsE at h
    by_cases e : l ≠ n
    · rw [if_pos e] at h; cases h
    · exact (Decidable.not_not.1 e : l = n)
  | x :: r, l, h => by
    unfold endsE at h
    by_cases e : x < 1 ∨ n < x
    · rw [if_pos e] at h; cases h
    rw [if_neg e] at h
    by_cases e2 : x ≤ l
    · rw [if_pos e2] at h; cases h
    rw [if_neg e2] at h
    exact ⟨by omega, by omega, endsE_asc r x h⟩
/-- the sum of the costs of the pages from line a on, s before; 0 and the error of the first page that is not possible -/
def sumC (P : PP) : List Int → Nat → Int → Int
  | [], _, s => s
  | x :: r, a, s => if P.pageE a x.toNat ≠ 0 then 0 else sumC P r x.toNat (s + P.pageC a x.toNat)
def sumE (P : PP) : List Int → Nat → Int
  | [], _ => 0
  | x :: r, a => if P.pageE a x.toNat ≠ 0 then P.pageE a x.toNat else sumE P r x.toNat
def costC (P : PP) (ends : List Int) : Int := if chk P ≠ 0 then 0 else if endsE P.lines.length ends 0 ≠ 0 then 0 else sumC P ends 0 0
def costE (P : PP) (ends : List Int) : Int := if chk P ≠ 0 then 1 else if endsE P.lines.length ends 0 ≠ 0 then endsE P.lines.length ends 0 else sumE P ends 0
theorem cost_bad {P : PP} (h : chk P ≠ 0) (ends : List Int) : costC P ends = 0 ∧ costE P ends = 1 := by unfold costC costE; rw [if_pos h, if_pos h]; exact ⟨rfl, rfl⟩
theorem cost_ends {P : PP} (h : chk P = 0) {ends : List Int} {e : Int} (he : endsE P.lines.length ends 0 = e) (h0 : e ≠ 0) : costC P ends = 0 ∧ costE P ends = e := by
  unfold costC costE
  rw [if_neg (show ¬ chk P ≠ 0 by simp [h]), if_neg (show ¬ chk P ≠ 0 by simp [h]), he, if_pos h0, if_pos h0]; exact ⟨rfl, rfl⟩
theorem cost_in {P : PP} (h : chk P = 0) {ends : List Int} (he : endsE P.lines.length ends 0 = 0) : costC P ends = sumC P ends 0 0 ∧ costE P ends = sumE P ends 0 := by
  unfold costC costE
  rw [if_neg (show ¬ chk P ≠ 0 by simp [h]), if_neg (show ¬ chk P ≠ 0 by simp [h]), he]; exact ⟨rfl, rfl⟩
/-- where the second loop stands -/
structure AtC (P : PP) (ends : List Int) (k a : Nat) (s : Int) : Prop where
  c : sumC P ends 0 0 = sumC P (ends.drop k) a s
  e : sumE P ends 0 = sumE P (ends.drop k) a
  asc : Asc P.lines.length a (ends.drop k)
  s0 : 0 ≤ s
  s1 : s ≤ 20000 * k
theorem AtC.start {P : PP} {ends : List Int} (h : Asc P.lines.length 0 ends) : AtC P ends 0 0 0 := ⟨by simp, by simp, by simpa using h, Int.le_refl _, by omega⟩
theorem AtC.next {P : PP} {ends : List Int} {k a : Nat} {s : Int} (h : AtC P ends k a s) (hk : k < ends.length) : ∃ b : Nat, ends[k] = (b : Int) ∧ a < b ∧ b ≤ P.lines.length := by
  have := h.asc
  rw [List.drop_eq_getElem_cons hk] at this
  obtain ⟨h1, h2, _⟩ := this
  exact ⟨ends[k].toNat, by omega, by omega, by omega⟩
theorem AtC.bad {P : PP} {ends : List Int} {k a b : Nat} {s : Int} (h : AtC P ends k a s) (hk : k < ends.length) (hb : ends[k] = (b : Int)) (he : P.pageE a b ≠ 0) : sumC P ends 0 0 = 0 ∧ sumE P ends 0 = P.pageE a b := by
  refine ⟨?_, ?_⟩
  · rw [h.c, List.drop_eq_getElem_cons hk, sumC, hb, Int.toNat_natCast, if_pos he]
  · rw [h.e, List.drop_eq_getElem_cons hk, sumE, hb, Int.toNat_natCast, if_pos he]
theorem AtC.step {P : PP} (F : Fine P) {ends : List Int} {k a b : Nat} {s : Int} (h : AtC P ends k a s) (hk : k < ends.length) (hb : ends[k] = (b : Int)) (he : P.pageE a b = 0) : AtC P ends (k + 1) b (s + P.pageC a b) := by
  have hbd := F.pageC_bd a b
  have h0 := h.s0
  have h1 := h.s1
  refine ⟨?_, ?_, ?_, by omega, by omega⟩
  · rw [h.c, List.drop_eq_getElem_cons hk, sumC, hb, Int.toNat_natCast, if_neg (by simp [he])]
  · rw [h.e, List.drop_eq_getElem_cons hk, sumE, hb, Int.toNat_natCast, if_neg (by simp [he])]
  · have := h.asc
    rw [List.drop_eq_getElem_cons hk, hb] at this
    exact this.2.2
theorem AtC.done {P : PP} {ends : List Int} {k a : Nat} {s : Int} (h : AtC P ends k a s) (hk : ends.length ≤ k) : sumC P ends 0 0 = s ∧ sumE P ends 0 = 0 := by
  refine ⟨?_, ?_⟩
  · rw [h.c, List.drop_of_length_le hk, sumC]
  · rw [h.e, List.drop_of_length_le hk, sumE]
end Go.Proofs.Ytemlljgldkkkgaa
