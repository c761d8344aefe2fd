/- The reference's check of a page problem. Condition: lengths that a machine can hold. -/
import Derived.Test.YtemlljgldkkkgaaRep
import Derived.Test.YtemlljgldkkkgaaLib
namespace Go.Proofs.Ytemlljgldkkkgaa
open Go.RowKit
/-- the first k lines are in range -/
def Ranged (P : PP) (k : Nat) : Prop := ∀ j, j < k → badLen (P.line j) = false ∧ badPen (P.pen j) = false ∧ (P.notes.getD j []).any badLen = false
theorem Ranged.step {P : PP} {k : Nat} (h : Ranged P k) (h1 : badLen (P.line k) = false) (h2 : badPen (P.pen k) = false) (h3 : (P.notes.getD k []).any badLen = false) : Ranged P (k + 1) := fun j hj => by
  by_cases e : j = k
  · subst e; exact ⟨h1, h2, h3⟩
  · exact h j (by omega)
theorem any_of_all {α : Type} {p : α → Bool} {l : List α} (d : α) (h : ∀ j, j < l.length → p (l.getD j d) = false) : l.any p = false := by
  rw [List.any_eq_false]
  intro x hx
  obtain ⟨j, hj, rfl⟩ := List.mem_iff_getElem.1 hx
  have := h j hj
  rw [getD_lt' hj] at this
  simp [this]
theorem any_at {α : Type} {p : α → Bool} {l : List α} (d : α) {j : Nat} (hj : j < l.length) (h : p (l.getD j d) = true) : l.any p = true := by
  rw [getD_lt' hj] at h
  exact List.any_eq_true.2 ⟨_, List.getElem_mem hj, h⟩
theorem Ranged.done {P : PP} (h : Ranged P P.lines.length) (h1 : P.notes.length = P.lines.length) (h2 : P.pens.length = P.lines.length) :
    rangeBad P = (decide (P.height < 1) || badLen P.height || badLen P.gap) := by
  unfold rangeBad
  rw [any_of_all (0 : Int) (fun j hj => (h j hj).1), any_of_all ([] : List Int) (fun j hj => (h j (by omega)).2.2), any_of_all (0 : Int) (fun j hj => (h j (by omega)).2.1)]
  rfl
theorem chk_4 {P : PP} (h : 4096 < P.lines.length) : chk P = 4 := by unfold chk; rw [if_pos h]
theorem chk_9 {P : PP} (h : ¬ 4096 < P.lines.length) (h2 : P.notes.length ≠ P.lines.length ∨ P.pens.length ≠ P.lines.length) : chk P = 9 := by unfold chk; rw [if_neg h, if_pos h2]
theorem chk_9b {P : PP} (h : ¬ 4096 < P.lines.length) (h2 : ¬ (P.notes.length ≠ P.lines.length ∨ P.pens.length ≠ P.lines.length)) (h3 : P.notes.any (fun l => decide (l.length ≠ nbk P)) = true) : chk P = 9 := by
  unfold chk; rw [if_neg h, if_neg h2, if_pos h3]
theorem chk_4b {P : PP} (h : ¬ 4096 < P.lines.length) (h2 : ¬ (P.notes.length ≠ P.lines.length ∨ P.pens.length ≠ P.lines.length)) (h3 : P.notes.any (fun l => decide (l.length ≠ nbk P)) = false) (h4 : 16 < nbk P) : chk P = 4 := by
  unfold chk; rw [if_neg h, if_neg h2, if_neg (by rw [h3]; exact Bool.false_ne_true), if_pos h4]
theorem chk_end {P : PP} (h : ¬ 4096 < P.lines.length) (h2 : ¬ (P.notes.length ≠ P.lines.length ∨ P.pens.length ≠ P.lines.length)) (h3 : P.notes.any (fun l => decide (l.length ≠ nbk P)) = false) (h4 : ¬ 16 < nbk P) : chk P = if rangeBad P = true then 2 else 0 := by
  unfold chk; rw [if_neg h, if_neg h2, if_neg (by rw [h3]; exact Bool.false_ne_true), if_neg h4]
theorem chk_2 {P : PP} (h : ¬ 4096 < P.lines.length) (h2 : ¬ (P.notes.length ≠ P.lines.length ∨ P.pens.length ≠ P.lines.length)) (h3 : P.notes.any (fun l => decide (l.length ≠ nbk P)) = false) (h4 : ¬ 16 < nbk P) (h5 : rangeBad P = true) : chk P = 2 := by
  rw [chk_end h h2 h3 h4, if_pos h5]
theorem chk_0 {P : PP} (h : ¬ 4096 < P.lines.length) (h2 : ¬ (P.notes.length ≠ P.lines.length ∨ P.pens.length ≠ P.lines.length)) (h3 : P.notes.any (fun l => decide (l.length ≠ nbk P)) = false) (h4 : ¬ 16 < nbk P) (h5 : rangeBad P = false) : chk P = 0 := by
  rw [chk_end h h2 h3 h4, if_neg (by simp [h5])]
theorem rb_line {P : PP} {k : Nat} (h : k < P.lines.length) (hb : badLen (P.line k) = true) : rangeBad P = true := by
  unfold rangeBad; rw [any_at (0 : Int) h hb]; simp
theorem rb_pen {P : PP} {k : Nat} (h : k < P.pens.length) (hb : badPen (P.pen k) = true) : rangeBad P = true := by
  unfold rangeBad; rw [any_at (0 : Int) h hb]; simp
theorem rb_note {P : PP} {k : Nat} (h : k < P.notes.length) (hb : (P.notes.getD k []).any badLen = true) : rangeBad P = true := by
  unfold rangeBad; rw [any_at ([] : List Int) (p := fun l => l.any badLen) h hb]; simp
set_option maxRecDepth 100000 in
set_option maxHeartbeats 3200000 in
theorem checkRef_any (AL AN AP : Option Addr) (cL cN cP : Nat) (P : PP) (w : World) (S : Sz P) (hR : PPR w w.heap.size AL AN AP P) :
    Calls Try.prog 35 #[.agg #[.slice AL P.lines.length cL, .slice AN P.notes.length cN, .slice AP P.pens.length cP, .int .i64 P.height, .int .i64 P.gap]] w fun e w' => e = .returned (.int .i64 (chk P)) ∧ Below w.heap.size w w' := by
  have z1 := S.l
  have z2 := S.n
  have z3 := S.p
  have HR := hR.alloc (.cells #[.slice AL P.lines.length cL, .slice AN P.notes.length cN, .slice AP P.pens.length cP, .int .i64 P.height, .int .i64 P.gap] 25)
  have B0 : Below w.heap.size w (w.alloc (.cells #[.slice AL P.lines.length cL, .slice AN P.notes.length cN, .slice AP P.pens.length cP, .int .i64 P.height, .int .i64 P.gap] 25)) := (Below.refl _ _).alloc (Nat.le_refl _) _
  by_cases c1 : 4096 < P.lines.length
  · go_enter Try.func35, Try.ntmps35
    go_wp2
    go_ret
    exact ⟨ret_int (chk_4 c1).symm, B0⟩
  by_cases c2 : P.notes.length ≠ P.lines.length
  · have e : ((P.notes.length : Int) != (P.lines.length : Int)) = true := by simp; omega
    go_enter Try.func35, Try.ntmps35
    go_wp2
    go_ret
    exact ⟨ret_int (chk_9 c1 (.inl c2)).symm, B0⟩
  have c2 : P.notes.length = P.lines.length := by omega
  by_cases c3 : P.pens.length ≠ P.lines.length
  · have e : ((P.notes.length : Int) != (P.lines.length : Int)) = false := by simp [c2]
    have e2 : ((P.pens.length : Int) != (P.lines.length : Int)) = true := by simp; omega
    have C2 := Lib.hid c2
    clear c2
    go_enter Try.func35, Try.ntmps35
    go_wp2
    go_ret
    exact ⟨ret_int (chk_9 c1 (.inr c3)).symm, B0⟩
  have c3 : P.pens.length = P.lines.length := by omega
  have c23 : ¬ (P.notes.length ≠ P.lines.length ∨ P.pens.length ≠ P.lines.length) := by omega
  have e : ((P.notes.length : Int) != (P.lines.length : Int)) = false := by simp [c2]
  have e2 : ((P.pens.length : Int) != (P.lines.length : Int)) = false := by simp [c3]
  have n1 : P.lines.length ≤ P.notes.length := by omega
  have n2 : P.notes.length ≤ P.lines.length := by omega
  have n3 : P.lines.length ≤ P.pens.length := by omega
  have C23 := Lib.hid c23
  have C2 := Lib.hid c2
  have C3 := Lib.hid c3
  clear c2 c3 c23
  go_enter Try.func35, Try.ntmps35
  go_wp2_with fail
  obtain ⟨W1, hW1⟩ : ∃ W1, w.alloc (.cells #[.slice AL P.lines.length cL, .slice AN P.notes.length cN, .slice AP P.pens.length cP, .int .i64 P.height, .int .i64 P.gap] 25) = W1 := ⟨_, rfl⟩
  have BC := fun wr (hb : Below W1.heap.size W1 wr) => box_cells (wr := wr) (by rw [hW1]; exact hb)
  rw [hW1] at HR B0
  rw [hW1]
  clear hW1
  have BC := Lib.hid BC
  go_loopw [3] (fun i wr => ∃ k : Nat, i = .int .i64 k ∧ Missed (fun l => decide (l.length ≠ nbk P)) P.notes k ∧ Below W1.heap.size W1 wr) (fun i _ => P.notes.length - (intOf i).toNat)
  case atStart => exact ⟨0, rfl, Missed.zero, Below.refl _ _⟩
  case round =>
    obtain ⟨k, rfl, hm, hb⟩ := hrel
    have hk := hm.1
    obtain ⟨d0, d1, d2, d3, d4⟩ := BC.out wr hb
    by_cases hlt : k < P.notes.length
    · obtain ⟨b, o, Ai, ci, hA, hbl, hc0, hri⟩ := (HR.n.below hb) k hlt
      obtain ⟨b', o', A0, ci', hA', hbl', hc', hri'⟩ := (HR.n.below hb) 0 (by omega)
      subst hA
      injection hA' with hA'
      injection hA' with e1 e2
      subst e1 e2
      simp only [Nat.add_zero] at hc'
      have i1 : (k : Int) < (P.notes.length : Int) := by omega
      have i2 : (0 : Int) < (P.notes.length : Int) := by omega
      clear hri hri'
      by_cases hp : P.notes[k].length = P.notes[0].length
      · have hpk : ((P.notes[k].length : Int) != (P.notes[0].length : Int)) = false := by simp [hp]
        have HP := Lib.hid (hm.step hlt (by rw [nbk_eq (by omega)]; simp [hp]))
        clear hp
        go_wp2_with fail
        go_quiet (fail)
        go_wp2_with fail
        go_roundw
        case rel => exact ⟨k + 1, by go_num, HP.out, below_drewN hb _⟩
        case measure => simp [intOf]; omega
      · have hpk : ((P.notes[k].length : Int) != (P.notes[0].length : Int)) = true := by simp; omega
        have HP := Lib.hid (chk_9b c1 C23.out (any_hit hlt (by rw [nbk_eq (by omega)]; simp [hp])))
        clear hp
        go_wp2_with fail
        go_quiet (fail)
        go_wp2_with fail
        go_ret
        exact ⟨ret_int HP.out.symm, B0.trans (below_drewN (hb.mono B0.size) _)⟩
    · have hany := Lib.hid (hm.any_false (by omega))
      clear hm
      have hR' := HR.to hb hb.size
      have B1 := B0.trans (hb.mono B0.size)
      clear HR B0 hb hR
      by_cases c4 : 16 < nbk P
      · have hpos : 0 < P.notes.length := by
          rcases Nat.eq_zero_or_pos P.notes.length with h | h
          · have := List.eq_nil_of_length_eq_zero h
            unfold nbk at c4; rw [this] at c4; simp at c4
          · exact h
        obtain ⟨b', o', A0, ci', hA', hbl', hc', hri'⟩ := hR'.n 0 hpos
        subst hA'
        simp only [Nat.add_zero] at hc'
        have hlen : 16 < P.notes[0].length := by rw [← nbk_eq hpos]; exact c4
        go_wp2
        go_ret
        exact ⟨ret_int (chk_4b c1 C23.out hany.out c4).symm, B1⟩
      · have key : ∀ k, k < P.lines.length → ∃ b o Ai ci xs, AN = some ⟨b, o, none⟩ ∧ wr.cell? ⟨b, o + k, none⟩ = some (.slice Ai xs.length ci) ∧ IntsR wr wr.heap.size Ai xs ∧ xs.length ≤ 16 ∧ Hid (P.notes.getD k [] = xs) := by
          intro q hq
          have hq' : q < P.notes.length := by omega
          obtain ⟨b', o', A0, ci', hA', hbl', hc', hri'⟩ := hR'.n q hq'
          refine ⟨b', o', A0, ci', P.notes[q], hA', hc', hri', ?_, getD_lt' hq'⟩
          have := hany.out
          rw [List.any_eq_false] at this
          have := this _ (List.getElem_mem hq')
          simp at this
          omega
        have KEY := Lib.hid key
        clear key
        by_cases hpos : 0 < P.notes.length
        · obtain ⟨b', o', A0, ci', rfl, hbl', hc', hri'⟩ := hR'.n 0 hpos
          simp only [Nat.add_zero] at hc'
          have hlen : P.notes[0].length ≤ 16 := by rw [← nbk_eq hpos]; omega
          clear hri'
          go_wp2_with fail
          go_loop [4] (fun i => ∃ q : Nat, i = .int .i64 q ∧ q ≤ P.lines.length ∧ Hid (Ranged P q)) (fun i => P.lines.length - (intOf i).toNat)
          case atStart => exact ⟨0, rfl, Nat.zero_le _, fun j hj => by omega⟩
          case round =>
            obtain ⟨q, rfl, hq, hrg⟩ := hrel
            by_cases hql : q < P.lines.length
            · obtain ⟨bl, ol, hAL, hbl2, hcl⟩ := hR'.line_at hql
              obtain ⟨bp, op, hAP, hbp2, hcp⟩ := hR'.pen_at (show q < P.pens.length by omega)
              obtain ⟨bn, on, An, cn, xs, hAN, hcn, hrn, hrl, hxs⟩ := KEY.out q hql
              subst hAL
              subst hAP
              injection hAN with hAN
              injection hAN with w1 w2
              subst w1 w2
              by_cases a1 : P.line q < 0
              · have HB := Lib.hid (chk_2 c1 C23.out hany.out c4 (rb_line hql (by simp [badLen]; omega)))
                go_wp2
                go_ret
                exact ⟨ret_int HB.out.symm, B1⟩
              by_cases a2 : 1073741824 < P.line q
              · have HB := Lib.hid (chk_2 c1 C23.out hany.out c4 (rb_line hql (by simp [badLen]; omega)))
                go_wp2
                go_ret
                exact ⟨ret_int HB.out.symm, B1⟩
              by_cases a3 : P.pen q < 0
              · have HB := Lib.hid (chk_2 c1 C23.out hany.out c4 (rb_pen (k := q) (by omega) (by simp [badPen]; omega)))
                go_wp2
                go_ret
                exact ⟨ret_int HB.out.symm, B1⟩
              by_cases a4 : 10000 < P.pen q
              · have HB := Lib.hid (chk_2 c1 C23.out hany.out c4 (rb_pen (k := q) (by omega) (by simp [badPen]; omega)))
                go_wp2
                go_ret
                exact ⟨ret_int HB.out.symm, B1⟩
              have G1 := Lib.hid (badLen_f.2 ⟨show 0 ≤ P.line q by omega, show P.line q ≤ 1073741824 by omega⟩)
              have G2 := Lib.hid (badPen_f.2 ⟨show 0 ≤ P.pen q by omega, show P.pen q ≤ 10000 by omega⟩)
              go_wp2_with fail
              go_loop [5] (fun i => ∃ r : Nat, i = .int .i64 r ∧ Hid (Missed badLen xs r)) (fun i => xs.length - (intOf i).toNat)
              case atStart => exact ⟨0, rfl, Missed.zero⟩
              case round =>
                obtain ⟨r, rfl, hm⟩ := hrel
                have hr := hm.out.1
                clear a1 a2 a3 a4 hcl hcp
                by_cases hrl2 : r < xs.length
                · obtain ⟨bx, ox, hAx, hbx, hcx⟩ := hrn.at_ hrl2
                  subst hAx
                  by_cases b1 : xs[r] < 0
                  · have HB := Lib.hid (chk_2 c1 C23.out hany.out c4 (rb_note (k := q) (by omega) (by rw [hxs.out]; exact any_hit hrl2 (by simp [badLen]; omega))))
                    go_wp2
                    go_ret
                    exact ⟨ret_int HB.out.symm, B1⟩
                  by_cases b2 : 1073741824 < xs[r]
                  · have HB := Lib.hid (chk_2 c1 C23.out hany.out c4 (rb_note (k := q) (by omega) (by rw [hxs.out]; exact any_hit hrl2 (by simp [badLen]; omega))))
                    go_wp2
                    go_ret
                    exact ⟨ret_int HB.out.symm, B1⟩
                  have HM := Lib.hid (hm.out.step hrl2 (badLen_f.2 ⟨by omega, by omega⟩))
                  go_wp2
                  go_round
                  case rel => exact ⟨r + 1, by go_num, HM.out⟩
                  case measure => simp [intOf]; omega
                · have HM := Lib.hid (hrg.out.step G1.out G2.out (by rw [hxs.out]; exact hm.out.any_false (by omega)))
                  go_wp2
                  go_round
                  case rel => exact ⟨q + 1, by go_num, by omega, HM.out⟩
                  case measure => simp [intOf]; omega
            · obtain rfl : q = P.lines.length := by omega
              have HE := Lib.hid (hrg.out.done C2.out C3.out)
              by_cases e1 : P.height < 1
              · have HB := Lib.hid (chk_2 c1 C23.out hany.out c4 (by rw [HE.out]; simp [e1]))
                go_wp2
                go_ret
                exact ⟨ret_int HB.out.symm, B1⟩
              by_cases e2 : 1073741824 < P.height
              · have HB := Lib.hid (chk_2 c1 C23.out hany.out c4 (by rw [HE.out]; simp [badLen]; omega))
                go_wp2
                go_ret
                exact ⟨ret_int HB.out.symm, B1⟩
              by_cases e3 : P.gap < 0
              · have HB := Lib.hid (chk_2 c1 C23.out hany.out c4 (by rw [HE.out]; simp [badLen]; omega))
                go_wp2
                go_ret
                exact ⟨ret_int HB.out.symm, B1⟩
              by_cases e4 : 1073741824 < P.gap
              · have HB := Lib.hid (chk_2 c1 C23.out hany.out c4 (by rw [HE.out]; simp [badLen]; omega))
                go_wp2
                go_ret
                exact ⟨ret_int HB.out.symm, B1⟩
              have HB := Lib.hid (chk_0 c1 C23.out hany.out c4 (by rw [HE.out]; simp [badLen]; omega))
              go_wp2
              go_ret
              exact ⟨ret_int HB.out.symm, B1⟩
        · go_wp2_with fail
          go_loop [4] (fun i => ∃ q : Nat, i = .int .i64 q ∧ q ≤ P.lines.length ∧ Hid (Ranged P q)) (fun i => P.lines.length - (intOf i).toNat)
          case atStart => exact ⟨0, rfl, Nat.zero_le _, fun j hj => by omega⟩
          case round =>
            obtain ⟨q, rfl, hq, hrg⟩ := hrel
            by_cases hql : q < P.lines.length
            · exfalso; omega
            · obtain rfl : q = P.lines.length := by omega
              have HE := Lib.hid (hrg.out.done C2.out C3.out)
              by_cases e1 : P.height < 1
              · have HB := Lib.hid (chk_2 c1 C23.out hany.out c4 (by rw [HE.out]; simp [e1]))
                go_wp2
                go_ret
                exact ⟨ret_int HB.out.symm, B1⟩
              by_cases e2 : 1073741824 < P.height
              · have HB := Lib.hid (chk_2 c1 C23.out hany.out c4 (by rw [HE.out]; simp [badLen]; omega))
                go_wp2
                go_ret
                exact ⟨ret_int HB.out.symm, B1⟩
              by_cases e3 : P.gap < 0
              · have HB := Lib.hid (chk_2 c1 C23.out hany.out c4 (by rw [HE.out]; simp [badLen]; omega))
                go_wp2
                go_ret
                exact ⟨ret_int HB.out.symm, B1⟩
              by_cases e4 : 1073741824 < P.gap
              · have HB := Lib.hid (chk_2 c1 C23.out hany.out c4 (by rw [HE.out]; simp [badLen]; omega))
                go_wp2
                go_ret
                exact ⟨ret_int HB.out.symm, B1⟩
              have HB := Lib.hid (chk_0 c1 C23.out hany.out c4 (by rw [HE.out]; simp [badLen]; omega))
              go_wp2
              go_ret
              exact ⟨ret_int HB.out.symm, B1⟩
end Go.Proofs.Ytemlljgldkkkgaa
