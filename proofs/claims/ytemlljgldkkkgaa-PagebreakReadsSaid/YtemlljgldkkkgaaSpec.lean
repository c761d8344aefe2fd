/- Plain law: page problems, their check, heights, pages, costs, potentials, page ends, as functions on lists. No program. -/
import Derived.Test.YtemlljgldkkkgaaSearch
namespace Go.Proofs.Ytemlljgldkkkgaa
structure PP where
  lines : List Int
  notes : List (List Int)
  pens : List Int
  height : Int
  gap : Int

def bad (c t : Nat) : Nat := min 10000 (100 * (c * c * c) / (t * t * t))
theorem bad_le (c t : Nat) : bad c t ≤ 10000 := by unfold bad; omega

def badLen (n : Int) : Bool := !(decide (0 ≤ n) && decide (n ≤ 1073741824))
def badPen (n : Int) : Bool := decide (n < 0) || decide (10000 < n)
def nbk (P : PP) : Nat := (P.notes.headD []).length
def rangeBad (P : PP) : Bool :=
  P.lines.any badLen || P.notes.any (fun l => l.any badLen) || P.pens.any badPen || decide (P.height < 1) || badLen P.height || badLen P.gap
def chk (P : PP) : Int :=
  if 4096 < P.lines.length then 4
  else if P.notes.length ≠ P.lines.length ∨ P.pens.length ≠ P.lines.length then 9
  else if P.notes.any (fun l => decide (l.length ≠ nbk P)) = true then 9
  else if 16 < nbk P then 4
  else if rangeBad P = true then 2 else 0

/-- what a page problem is -/
structure Fine (P : PP) : Prop where
  ln : P.lines.length ≤ 4096
  nl : P.notes.length = P.lines.length
  pl : P.pens.length = P.lines.length
  rows : ∀ l ∈ P.notes, l.length = nbk P
  blocks : nbk P ≤ 16
  lr : ∀ x ∈ P.lines, 0 ≤ x ∧ x ≤ 1073741824
  nr : ∀ l ∈ P.notes, ∀ x ∈ l, 0 ≤ x ∧ x ≤ 1073741824
  pr : ∀ x ∈ P.pens, 0 ≤ x ∧ x ≤ 10000
  h1 : 1 ≤ P.height
  h2 : P.height ≤ 1073741824
  g0 : 0 ≤ P.gap
  g1 : P.gap ≤ 1073741824
theorem badLen_f {n : Int} : badLen n = false ↔ 0 ≤ n ∧ n ≤ 1073741824 := by simp [badLen]
theorem badPen_f {n : Int} : badPen n = false ↔ 0 ≤ n ∧ n ≤ 10000 := by simp [badPen]
theorem chk_fine {P : PP} (h : chk P = 0) : Fine P := by
  unfold chk at h
  by_cases c1 : 4096 < P.lines.length
  · rw [if_pos c1] at h; cases h
  rw [if_neg c1] at h
  by_cases c2 : P.notes.length ≠ P.lines.length ∨ P.pens.length ≠ P.lines.length
  · rw [if_pos c2] at h; cases h
  rw [if_neg c2] at h
  by_cases c3 : P.notes.any (fun l => decide (l.length ≠ nbk P)) = true
  · rw [if_pos c3] at h; cases h
  rw [if_neg c3] at h
  by_cases c4 : 16 < nbk P
  · rw [if_pos c4] at h; cases h
  rw [if_neg c4] at h
  by_cases c5 : rangeBad P = true
  · rw [if_pos c5] at h; cases h
  simp only [rangeBad, Bool.not_eq_true, Bool.or_eq_false_iff, decide_eq_false_iff_not, List.any_eq_false] at c5
  obtain ⟨⟨⟨⟨⟨r1, r2⟩, r3⟩, r4⟩, r5⟩, r6⟩ := c5
  simp only [Bool.not_eq_true, List.any_eq_false, decide_eq_true_eq, Decidable.not_not] at c3
  have r5 := badLen_f.1 r5
  have r6 := badLen_f.1 r6
  refine ⟨by omega, by omega, by omega, fun l hl => c3 l hl, by omega, fun x hx => badLen_f.1 (by simpa using r1 x hx), fun l hl x hx => ?_, fun x hx => badPen_f.1 (by simpa using r3 x hx), by omega, r5.2, r6.1, r6.2⟩
  exact badLen_f.1 (by simpa using r2 l hl x hx)

/-! ### sums -/
def sumTo (f : Nat → Int) : Nat → Int
  | 0 => 0
  | n + 1 => sumTo f n + f n
theorem sumTo_mono {f : Nat → Int} {a b : Nat} (h : a ≤ b) (h0 : ∀ i, a ≤ i → i < b → 0 ≤ f i) : sumTo f a ≤ sumTo f b := by
  induction b with
  | zero => obtain rfl : a = 0 := by omega
            exact Int.le_refl _
  | succ b ih =>
    by_cases e : a = b + 1
    · subst e; exact Int.le_refl _
    · have := ih (by omega) (fun i h1 h2 => h0 i h1 (by omega))
      have := h0 b (by omega) (by omega)
      simp only [sumTo]; omega
theorem sumTo_le {f : Nat → Int} {n : Nat} {M : Int} (h : ∀ i, i < n → f i ≤ M) : sumTo f n ≤ n * M := by
  induction n with
  | zero => simp [sumTo]
  | succ n ih =>
    have := ih (fun i hi => h i (by omega))
    have := h n (by omega)
    simp only [sumTo, Int.natCast_succ, Int.add_mul]; omega
theorem sumTo_congr {f g : Nat → Int} {n : Nat} (h : ∀ i, i < n → f i = g i) : sumTo f n = sumTo g n := by
  induction n with
  | zero => rfl
  | succ n ih => simp only [sumTo]; rw [ih (fun i hi => h i (by omega)), h n (by omega)]
theorem sumTo_nonneg {f : Nat → Int} {n : Nat} (h : ∀ i, i < n → 0 ≤ f i) : 0 ≤ sumTo f n := by
  have := sumTo_mono (f := f) (a := 0) (b := n) (Nat.zero_le _) (fun i _ hi => h i hi)
  simpa [sumTo] using this

/-! ### heights -/
def PP.line (P : PP) (i : Nat) : Int := P.lines.getD i 0
def PP.note (P : PP) (b i : Nat) : Int := (P.notes.getD i []).getD b 0
def PP.pen (P : PP) (i : Nat) : Int := P.pens.getD i 0
/-- the sum of the lines before i -/
def PP.sl (P : PP) (i : Nat) : Int := sumTo P.line i
def PP.sn (P : PP) (b i : Nat) : Int := sumTo (P.note b) i
def withGap (g x : Int) : Int := if 0 < x then x + g else 0
/-- the height of the lines from a to before b, with the first k blocks -/
def PP.hgtK (P : PP) (a b k : Nat) : Int := (P.sl b - P.sl a) + sumTo (fun j => withGap P.gap (P.sn j b - P.sn j a)) k
def PP.hgt (P : PP) (a b : Nat) : Int := P.hgtK a b (nbk P)

theorem getD_lt' {α : Type} {l : List α} {d : α} {i : Nat} (h : i < l.length) : l.getD i d = l[i] := by simp [List.getD, List.getElem?_eq_getElem h]
theorem getD_ge' {α : Type} {l : List α} {d : α} {i : Nat} (h : l.length ≤ i) : l.getD i d = d := by simp [List.getD, List.getElem?_eq_none h]
section
variable {P : PP}
theorem Fine.line_bd (F : Fine P) (i : Nat) : 0 ≤ P.line i ∧ P.line i ≤ 1073741824 := by
  unfold PP.line
  by_cases h : i < P.lines.length
  · rw [getD_lt' h]; exact F.lr _ (List.getElem_mem h)
  · rw [getD_ge' (by omega)]; omega
theorem Fine.pen_bd (F : Fine P) (i : Nat) : 0 ≤ P.pen i ∧ P.pen i ≤ 10000 := by
  unfold PP.pen
  by_cases h : i < P.pens.length
  · rw [getD_lt' h]; exact F.pr _ (List.getElem_mem h)
  · rw [getD_ge' (by omega)]; omega
theorem Fine.note_bd (F : Fine P) (b i : Nat) : 0 ≤ P.note b i ∧ P.note b i ≤ 1073741824 := by
  unfold PP.note
  by_cases h : i < P.notes.length
  · rw [getD_lt' h]
    by_cases h' : b < P.notes[i].length
    · rw [getD_lt' h']; exact F.nr _ (List.getElem_mem h) _ (List.getElem_mem h')
    · rw [getD_ge' (by omega)]; omega
  · rw [getD_ge' (by omega : P.notes.length ≤ i)]; simp
theorem Fine.sl_bd (F : Fine P) {i : Nat} (h : i ≤ 4096) : 0 ≤ P.sl i ∧ P.sl i ≤ 4398046511104 := by
  refine ⟨sumTo_nonneg (fun j _ => (F.line_bd j).1), ?_⟩
  have := sumTo_le (f := P.line) (n := i) (fun j _ => (F.line_bd j).2)
  unfold PP.sl; omega
theorem Fine.sn_bd (F : Fine P) (b : Nat) {i : Nat} (h : i ≤ 4096) : 0 ≤ P.sn b i ∧ P.sn b i ≤ 4398046511104 := by
  refine ⟨sumTo_nonneg (fun j _ => (F.note_bd b j).1), ?_⟩
  have := sumTo_le (f := P.note b) (n := i) (fun j _ => (F.note_bd b j).2)
  unfold PP.sn; omega
theorem Fine.sl_mono (F : Fine P) {a b : Nat} (h : a ≤ b) : P.sl a ≤ P.sl b := sumTo_mono h (fun j _ _ => (F.line_bd j).1)
theorem Fine.sn_mono (F : Fine P) (k : Nat) {a b : Nat} (h : a ≤ b) : P.sn k a ≤ P.sn k b := sumTo_mono h (fun j _ _ => (F.note_bd k j).1)
theorem Fine.gap_bd (F : Fine P) {a b k : Nat} (h : a ≤ b) (hb : b ≤ 4096) : 0 ≤ withGap P.gap (P.sn k b - P.sn k a) ∧ withGap P.gap (P.sn k b - P.sn k a) ≤ 4399120252928 := by
  have h1 := F.sn_mono k h
  have h2 := F.sn_bd k hb
  have h3 := F.sn_bd k (i := a) (by omega)
  have := F.g0
  have := F.g1
  unfold withGap
  split <;> omega
theorem Fine.hgtK_bd (F : Fine P) {a b k : Nat} (h : a ≤ b) (hb : b ≤ 4096) (hk : k ≤ 16) : 0 ≤ P.hgtK a b k ∧ P.hgtK a b k ≤ 74783970557952 := by
  have h1 := F.sl_mono h
  have h2 := F.sl_bd hb
  have h3 := F.sl_bd (i := a) (by omega)
  have h4 := sumTo_nonneg (f := fun j => withGap P.gap (P.sn j b - P.sn j a)) (n := k) (fun j _ => (F.gap_bd h hb).1)
  have h5 := sumTo_le (f := fun j => withGap P.gap (P.sn j b - P.sn j a)) (n := k) (fun j _ => (F.gap_bd h hb).2)
  unfold PP.hgtK
  omega
theorem Fine.hgt_bd (F : Fine P) {a b : Nat} (h : a ≤ b) (hb : b ≤ P.lines.length) : 0 ≤ P.hgt a b ∧ P.hgt a b ≤ 74783970557952 :=
  F.hgtK_bd h (Nat.le_trans hb F.ln) F.blocks
/-- more lines are not less high -/
theorem Fine.hgt_mono (F : Fine P) {a b c d : Nat} (h1 : a ≤ b) (_h2 : b ≤ c) (h3 : c ≤ d) : P.hgt b c ≤ P.hgt a d := by
  have l1 := F.sl_mono h1
  have l2 := F.sl_mono h3
  have key : ∀ k, sumTo (fun j => withGap P.gap (P.sn j c - P.sn j b)) k ≤ sumTo (fun j => withGap P.gap (P.sn j d - P.sn j a)) k := by
    intro k
    induction k with
    | zero => exact Int.le_refl _
    | succ k ih =>
      have m1 := F.sn_mono k h1
      have m2 := F.sn_mono k h3
      have := F.g0
      have : withGap P.gap (P.sn k c - P.sn k b) ≤ withGap P.gap (P.sn k d - P.sn k a) := by
        unfold withGap
        split <;> split <;> omega
      simp only [sumTo]; omega
  have := key (nbk P)
  unfold PP.hgt PP.hgtK
  omega
end

/-! ### pages -/
/-- the cost of a page, and why it is not possible -/
def PP.pageE (P : PP) (a b : Nat) : Int :=
  if P.height < P.hgt a b then 22 else if b = P.lines.length then 0 else if 10000 ≤ P.pen (b - 1) then 23 else 0
def PP.pageC (P : PP) (a b : Nat) : Int :=
  if P.height < P.hgt a b then 0 else if b = P.lines.length then 0 else if 10000 ≤ P.pen (b - 1) then 0 else (bad (P.height - P.hgt a b).toNat P.height.toNat : Int) + P.pen (b - 1)
theorem Fine.pageC_bd {P : PP} (F : Fine P) (a b : Nat) : 0 ≤ P.pageC a b ∧ P.pageC a b ≤ 20000 := by
  have := F.pen_bd (b - 1)
  have := bad_le (P.height - P.hgt a b).toNat P.height.toNat
  unfold PP.pageC
  split
  · omega
  · split
    · omega
    · split <;> omega
end Go.Proofs.Ytemlljgldkkkgaa
