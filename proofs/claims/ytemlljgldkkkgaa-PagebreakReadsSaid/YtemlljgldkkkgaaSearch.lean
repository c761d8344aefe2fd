/- Plain lists: the first index, comparison, the least number. No program. -/
namespace Go.Proofs.Ytemlljgldkkkgaa
/-- first index -/
def idx {α : Type} (p : α → Bool) (xs : List α) : Int := match xs.findIdx? p with | some i => (i : Int) | none => -1
theorem idx_hit {α : Type} (p : α → Bool) (xs : List α) (k : Nat) (hk : k < xs.length) (hb : ∀ j (hj : j < k), p (xs[j]'(by omega)) = false) (h : p xs[k] = true) : idx p xs = k := by
  have : xs.findIdx? p = some k := by
    rw [List.findIdx?_eq_some_iff_getElem]
    exact ⟨hk, h, fun j hj => by simp [hb j hj]⟩
  simp [idx, this]
theorem idx_miss {α : Type} (p : α → Bool) (xs : List α) (hb : ∀ j (hj : j < xs.length), p xs[j] = false) : idx p xs = -1 := by
  have : xs.findIdx? p = none := by
    rw [List.findIdx?_eq_none_iff]
    intro x hx
    obtain ⟨j, hj, rfl⟩ := List.mem_iff_getElem.1 hx
    exact hb j hj
  simp [idx, this]
theorem idx_any {α : Type} (p : α → Bool) (xs : List α) : decide (0 ≤ idx p xs) = xs.any p := by
  unfold idx
  cases h : xs.findIdx? p with
  | none =>
    rw [List.findIdx?_eq_none_iff] at h
    simp only [show ¬ ((0 : Int) ≤ -1) from by omega, decide_false]
    symm
    rw [List.any_eq_false]
    intro x hx
    simp [h x hx]
  | some i =>
    rw [List.findIdx?_eq_some_iff_getElem] at h
    obtain ⟨hi, hp, _⟩ := h
    simp only [show ((0 : Int) ≤ (i : Int)) from by omega, decide_true]
    symm
    rw [List.any_eq_true]
    exact ⟨_, List.getElem_mem hi, hp⟩
theorem idx_lo {α : Type} (p : α → Bool) (xs : List α) : -1 ≤ idx p xs := by
  unfold idx; split <;> omega
theorem idx_hi {α : Type} (p : α → Bool) (xs : List α) : idx p xs < xs.length := by
  unfold idx
  cases h : xs.findIdx? p with
  | none => simp only; omega
  | some i =>
    rw [List.findIdx?_eq_some_iff_getElem] at h
    obtain ⟨hi, _⟩ := h
    simp only; omega
/-- what the search knows after k rounds -/
def Missed {α : Type} (p : α → Bool) (xs : List α) (k : Nat) : Prop := k ≤ xs.length ∧ ∀ j (_ : j < k) (h2 : j < xs.length), p xs[j] = false
theorem Missed.zero {α : Type} {p : α → Bool} {xs : List α} : Missed p xs 0 := ⟨Nat.zero_le _, fun j h => by omega⟩
theorem Missed.step {α : Type} {p : α → Bool} {xs : List α} {k : Nat} (h : Missed p xs k) (hk : k < xs.length) (hp : p xs[k] = false) : Missed p xs (k + 1) :=
  ⟨hk, fun j h1 h2 => by
    by_cases e : j = k
    · subst e; exact hp
    · exact h.2 j (by omega) h2⟩
theorem Missed.hit {α : Type} {p : α → Bool} {xs : List α} {k : Nat} (h : Missed p xs k) (hk : k < xs.length) (hp : p xs[k] = true) : idx p xs = k :=
  idx_hit p xs k hk (fun j hj => h.2 j hj (by omega)) hp
theorem Missed.done {α : Type} {p : α → Bool} {xs : List α} {k : Nat} (h : Missed p xs k) (hk : xs.length ≤ k) : idx p xs = -1 :=
  idx_miss p xs (fun j hj => h.2 j (by omega) hj)
theorem Missed.any_false {α : Type} {p : α → Bool} {xs : List α} {k : Nat} (h : Missed p xs k) (hk : xs.length ≤ k) : xs.any p = false := by
  rw [← idx_any, h.done hk]; decide
theorem any_hit {α : Type} {p : α → Bool} {xs : List α} {k : Nat} (hk : k < xs.length) (hp : p xs[k] = true) : xs.any p = true :=
  List.any_eq_true.2 ⟨_, List.getElem_mem hk, hp⟩

/-- equal up to k -/
def SameTo {α : Type} (xs ys : List α) (k : Nat) : Prop := k ≤ xs.length ∧ xs.take k = ys.take k
theorem SameTo.zero {α : Type} {xs ys : List α} : SameTo xs ys 0 := ⟨Nat.zero_le _, by simp⟩
theorem SameTo.step {α : Type} {xs ys : List α} {k : Nat} (h : SameTo xs ys k) (h1 : k < xs.length) (h2 : k < ys.length) (he : xs[k] = ys[k]) : SameTo xs ys (k + 1) :=
  ⟨h1, by rw [List.take_succ_eq_append_getElem h1, List.take_succ_eq_append_getElem h2, h.2, he]⟩
theorem SameTo.all {α : Type} {xs ys : List α} {k : Nat} (h : SameTo xs ys k) (hk : xs.length ≤ k) (hl : xs.length = ys.length) : xs = ys := by
  have := h.2
  rwa [List.take_of_length_le hk, List.take_of_length_le (by omega)] at this

/-- the order of lists of numbers, as Go's slices.Compare has it -/
def cmpI (x y : Int) : Int := if x < y then -1 else if y < x then 1 else 0
def cmpL : List Int → List Int → Int
  | [], [] => 0
  | [], _ :: _ => -1
  | _ :: _, [] => 1
  | x :: xs, y :: ys => if cmpI x y ≠ 0 then cmpI x y else cmpL xs ys
theorem cmpI_eq {x y : Int} : cmpI x y = 0 ↔ x = y := by unfold cmpI; split <;> (try split) <;> omega
theorem cmpL_step {xs ys : List Int} {k : Nat} (h : SameTo xs ys k) : cmpL xs ys = cmpL (xs.drop k) (ys.drop k) := by
  obtain ⟨hk, ht⟩ := h
  induction k generalizing xs ys with
  | zero => simp
  | succ k ih =>
    cases xs with
    | nil => simp at hk
    | cons x xs =>
      cases ys with
      | nil => simp at ht
      | cons y ys =>
        simp only [List.take_succ_cons, List.cons.injEq] at ht
        obtain ⟨rfl, ht⟩ := ht
        simp only [List.length_cons] at hk
        simp only [List.drop_succ_cons, cmpL]
        rw [if_neg (by simp [cmpI_eq]), ih (by omega) ht]
theorem cmpL_at {xs ys : List Int} {k : Nat} (h : SameTo xs ys k) (h1 : k < xs.length) (h2 : k < ys.length) (hne : cmpI xs[k] ys[k] ≠ 0) : cmpL xs ys = cmpI xs[k] ys[k] := by
  rw [cmpL_step h, List.drop_eq_getElem_cons h1, List.drop_eq_getElem_cons h2]
  simp only [cmpL]
  rw [if_pos hne]
theorem cmpL_gt {xs ys : List Int} {k : Nat} (h : SameTo xs ys k) (h1 : k < xs.length) (h2 : ys.length ≤ k) : cmpL xs ys = 1 := by
  rw [cmpL_step h, List.drop_eq_getElem_cons h1, List.drop_of_length_le h2]
  simp only [cmpL]
theorem cmpL_end {xs ys : List Int} {k : Nat} (h : SameTo xs ys k) (h1 : xs.length ≤ k) : cmpL xs ys = if xs.length < ys.length then -1 else 0 := by
  have hk : k = xs.length := by have := h.1; omega
  rw [cmpL_step h, List.drop_of_length_le h1]
  by_cases hl : k < ys.length
  · rw [List.drop_eq_getElem_cons hl, if_pos (by omega)]
    simp only [cmpL]
  · rw [List.drop_of_length_le (by omega), if_neg (by omega)]
    simp only [cmpL]

/-- the least number of a list that is not empty -/
def minTo (xs : List Int) (k : Nat) (m : Int) : Prop := (∀ j (_ : j < k) (h2 : j < xs.length), m ≤ xs[j]) ∧ m ∈ xs
theorem minTo.step {xs : List Int} {k : Nat} {m : Int} (h : minTo xs k m) (hk : k < xs.length) : minTo xs (k + 1) (if xs[k] < m then xs[k] else m) := by
  refine ⟨fun j h1 h2 => ?_, ?_⟩
  · by_cases e : j = k
    · subst e; split <;> omega
    · have := h.1 j (by omega) h2; split <;> omega
  · split
    · exact List.getElem_mem hk
    · exact h.2
theorem minTo.lt {xs : List Int} {k : Nat} {m : Int} (h : minTo xs k m) (hk : xs.length ≤ k) (b : Int) : decide (m < b) = xs.any (fun x => decide (x < b)) := by
  rw [Bool.eq_iff_iff, List.any_eq_true]
  simp only [decide_eq_true_eq]
  constructor
  · intro hm; exact ⟨m, h.2, hm⟩
  · rintro ⟨x, hx, hlt⟩
    obtain ⟨j, hj, rfl⟩ := List.mem_iff_getElem.1 hx
    have := h.1 j (by omega) hj
    omega
end Go.Proofs.Ytemlljgldkkkgaa
