/- How a page problem lies in memory. -/
import Derived.Test.YtemlljgldkkkgaaMem
import Derived.Test.YtemlljgldkkkgaaSpec
namespace Go.Proofs.Ytemlljgldkkkgaa
open Go.RowKit
structure PPR (w : World) (B : Nat) (AL AN AP : Option Addr) (P : PP) : Prop where
  l : IntsR w B AL P.lines
  n : RowsR w B AN P.notes
  p : IntsR w B AP P.pens
section
variable {w w' : World} {B B' : Nat} {AL AN AP : Option Addr} {P : PP}
theorem PPR.below (h : PPR w B AL AN AP P) (hb : Below B w w') : PPR w' B AL AN AP P := ⟨h.l.below hb, h.n.below hb, h.p.below hb⟩
theorem PPR.more (h : PPR w B AL AN AP P) (hB : B ≤ B') : PPR w B' AL AN AP P := ⟨h.l.more hB, h.n.more hB, h.p.more hB⟩
theorem PPR.to (h : PPR w B AL AN AP P) (hb : Below B w w') (hs : B ≤ B') : PPR w' B' AL AN AP P := (h.below hb).more hs
theorem PPR.alloc (h : PPR w w.heap.size AL AN AP P) (o : Obj) : PPR (w.alloc o) (w.alloc o).heap.size AL AN AP P :=
  h.to ((Below.refl _ _).alloc (Nat.le_refl _) _) (by simp)
theorem PPR.line_at (h : PPR w B AL AN AP P) {k : Nat} (hk : k < P.lines.length) : ∃ b o, AL = some ⟨b, o, none⟩ ∧ b < B ∧ w.cell? ⟨b, o + k, none⟩ = some (.int .i64 (P.line k)) := by
  unfold PP.line; rw [getD_lt' hk]; exact h.l.at_ hk
theorem PPR.pen_at (h : PPR w B AL AN AP P) {k : Nat} (hk : k < P.pens.length) : ∃ b o, AP = some ⟨b, o, none⟩ ∧ b < B ∧ w.cell? ⟨b, o + k, none⟩ = some (.int .i64 (P.pen k)) := by
  unfold PP.pen; rw [getD_lt' hk]; exact h.p.at_ hk
theorem PPR.row_at (h : PPR w B AL AN AP P) (F : Fine P) {k : Nat} (hk : k < P.lines.length) :
    ∃ b o Ai ci, AN = some ⟨b, o, none⟩ ∧ b < B ∧ w.cell? ⟨b, o + k, none⟩ = some (.slice Ai (nbk P) ci) ∧ ∀ j, j < nbk P → ∃ b' o', Ai = some ⟨b', o', none⟩ ∧ b' < B ∧ w.cell? ⟨b', o' + j, none⟩ = some (.int .i64 (P.note j k)) := by
  have hk' : k < P.notes.length := by rw [F.nl]; exact hk
  obtain ⟨b, o, Ai, ci, hA, hb, hc, hr⟩ := h.n k hk'
  have hl := F.rows _ (List.getElem_mem hk')
  rw [hl] at hc
  refine ⟨b, o, Ai, ci, hA, hb, hc, fun j hj => ?_⟩
  have hj' : j < (P.notes[k]'hk').length := by rw [hl]; exact hj
  unfold PP.note
  rw [getD_lt' hk', getD_lt' hj']
  exact hr.at_ hj'
end
theorem bthen {a b c : World} (h : Below a.heap.size a b) (k : Below b.heap.size b c) : Below a.heap.size a c := h.trans (k.mono h.size)
/-- the five cells of a boxed page problem, in every later world -/
theorem box_cells {w wr : World} {v0 v1 v2 v3 v4 : Value} {t : TypeId} (hb : Below (w.alloc (.cells #[v0, v1, v2, v3, v4] t)).heap.size (w.alloc (.cells #[v0, v1, v2, v3, v4] t)) wr) :
    wr.cell? ⟨w.heap.size, 0, none⟩ = some v0 ∧ wr.cell? ⟨w.heap.size, 1, none⟩ = some v1 ∧ wr.cell? ⟨w.heap.size, 2, none⟩ = some v2 ∧ wr.cell? ⟨w.heap.size, 3, none⟩ = some v3 ∧ wr.cell? ⟨w.heap.size, 4, none⟩ = some v4 :=
  ⟨(hb.cell (p := ⟨w.heap.size, 0, none⟩) (by simp)).trans (by simp), (hb.cell (p := ⟨w.heap.size, 1, none⟩) (by simp)).trans (by simp), (hb.cell (p := ⟨w.heap.size, 2, none⟩) (by simp)).trans (by simp), (hb.cell (p := ⟨w.heap.size, 3, none⟩) (by simp)).trans (by simp), (hb.cell (p := ⟨w.heap.size, 4, none⟩) (by simp)).trans (by simp)⟩
/-- lengths that a machine can hold -/
structure Sz (P : PP) : Prop where
  l : P.lines.length ≤ 140737488355328
  n : P.notes.length ≤ 140737488355328
  p : P.pens.length ≤ 140737488355328
theorem nbk_eq {P : PP} (h : 0 < P.notes.length) : nbk P = P.notes[0].length := by
  unfold nbk
  revert h
  generalize P.notes = l
  intro h
  cases l with
  | nil => simp at h
  | cons x r => rfl
end Go.Proofs.Ytemlljgldkkkgaa
