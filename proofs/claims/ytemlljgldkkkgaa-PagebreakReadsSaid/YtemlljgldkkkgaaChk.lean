/- pagebreak's check, and the small tests it calls. Written for this claim. -/
import Derived.Test.YtemlljgldkkkgaaRef2
import Derived.Laws.EntriesVeiled
import Derived.Shelf.Abstract
namespace Go.Proofs.Ytemlljgldkkkgaa
open Go.RowKit Go.Shelf
theorem length_any (n : Int) (w : World) :
    Calls Try.prog 71 #[.int .i64 n] w fun e w' => e = .returned (.bool (decide (0 ≤ n) && decide (n ≤ 1073741824))) ∧ w = w' := by
  by_cases h : 0 ≤ n
  · go_enter Try.func71, Try.ntmps71
    go_wp2
    go_ret
    exact ⟨by simp [h], rfl⟩
  · have hd : decide (0 ≤ n) = false := by simpa using h
    go_enter Try.func71, Try.ntmps71
    go_wp2
    go_ret
    exact ⟨by simp, rfl⟩
theorem bad_any (n : Int) (w : World) : Calls Try.prog 70 #[.int .i64 n] w fun e w' => e = .returned (.bool (badLen n)) ∧ w = w' := by
  go_enter Try.func70, Try.ntmps70
  go_wp2_with (go_at_call 71; refine (length_any _ _).mono ?_; rintro e w1 ⟨rfl, rfl⟩)
  go_ret
  exact ⟨ret_bool (by simp [badLen]), rfl⟩
theorem badPen_any (n : Int) (w : World) : Calls Try.prog 74 #[.int .i64 n] w fun e w' => e = .returned (.bool (badPen n)) ∧ w = w' := by
  by_cases h : n < 0
  · go_enter Try.func74, Try.ntmps74
    go_wp2
    go_ret
    exact ⟨by simp [badPen, h], rfl⟩
  · have hd : decide (n < 0) = false := by simpa using h
    go_enter Try.func74, Try.ntmps74
    go_wp2
    go_ret
    exact ⟨by simp [badPen, hd], rfl⟩
theorem eg70 : ∀ args w, (callFunc 70 args).run Try.prog w = .ok (.enter 70 args) w := enters_of Try.func70 (by kernel_rfl) rfl
theorem eg73 : ∀ args w, (callFunc 73 args).run Try.prog w = .ok (.enter 73 args) w := enters_of Try.func73 (by kernel_rfl) rfl
theorem eg74 : ∀ args w, (callFunc 74 args).run Try.prog w = .ok (.enter 74 args) w := enters_of Try.func74 (by kernel_rfl) rfl
theorem pred70 (x : Int) (w : World) : Pred Try.prog 70 #[] w #[.int .i64 x] (badLen x) := fun W _ => (bad_any x W).mono fun _ _ ⟨he, hw⟩ => ⟨he, hw ▸ Below.refl _ _⟩
theorem pred74 (x : Int) (w : World) : Pred Try.prog 74 #[] w #[.int .i64 x] (badPen x) := fun W _ => (badPen_any x W).mono fun _ _ ⟨he, hw⟩ => ⟨he, hw ▸ Below.refl _ _⟩
theorem rowBad_any (A : Option Addr) (c : Nat) (xs : List Int) (g : Nat) (w : World) (hn : xs.length ≤ 140737488355328) (hR : IntsR w w.heap.size A xs) (hc : w.cell? ⟨g, 0, none⟩ = some (.func (.func 70) #[] #[])) :
    Calls Try.prog 73 #[.slice A xs.length c, .pointer (some ⟨g, 0, none⟩)] w fun e w' => e = .returned (.bool (xs.any badLen)) ∧ Below w.heap.size w w' := by
  have HC := Lib.hid (containsFunc_any 70 #[] badLen A c xs w hn hR eg70 (fun x _ => pred70 x w))
  go_enter Try.func73, Try.ntmps73
  go_wp2_with (go_at_call 72; refine HC.out.mono ?_; rintro e w1 ⟨rfl, hb1⟩)
  go_ret
  exact ⟨rfl, hb1⟩

theorem any_getD_false {α : Type} {p : α → Bool} {l : List α} (h : l.any p = false) {k : Nat} (hk : k < l.length) : p l[k] = false := by
  rw [List.any_eq_false] at h
  simpa using h _ (List.getElem_mem hk)
set_option maxRecDepth 100000 in
set_option maxHeartbeats 3200000 in
theorem check_any (AL AN AP : Option Addr) (cL cN cP : Nat) (P : PP) (w : World) (S : Sz P) (hR : PPR w w.heap.size AL AN AP P) :
    Calls Try.prog 34 #[.agg #[.slice AL P.lines.length cL, .slice AN P.notes.length cN, .slice AP P.pens.length cP, .int .i64 P.height, .int .i64 P.gap]] w fun e w' => e = .returned (.int .i64 (chk P)) ∧ Below w.heap.size w w' := by
  have z1 := S.l
  have z2 := S.n
  have z3 := S.p
  have HR := hR.alloc (.cells #[.slice AL P.lines.length cL, .slice AN P.notes.length cN, .slice AP P.pens.length cP, .int .i64 P.height, .int .i64 P.gap] 25)
  have B0 : Below w.heap.size w (w.alloc (.cells #[.slice AL P.lines.length cL, .slice AN P.notes.length cN, .slice AP P.pens.length cP, .int .i64 P.height, .int .i64 P.gap] 25)) := (Below.refl _ _).alloc (Nat.le_refl _) _
  by_cases c1 : 4096 < P.lines.length
  · go_enter Try.func34, Try.ntmps34
    go_wp2
    go_ret
    exact ⟨ret_int (chk_4 c1).symm, B0⟩
  by_cases c2 : P.notes.length ≠ P.lines.length
  · have e : ((P.notes.length : Int) != (P.lines.length : Int)) = true := by simp; omega
    go_enter Try.func34, Try.ntmps34
    go_wp2
    go_ret
    exact ⟨ret_int (chk_9 c1 (.inl c2)).symm, B0⟩
  have c2 : P.notes.length = P.lines.length := by omega
  by_cases c3 : P.pens.length ≠ P.lines.length
  · have e : ((P.notes.length : Int) != (P.lines.length : Int)) = false := by simp [c2]
    have e2 : ((P.pens.length : Int) != (P.lines.length : Int)) = true := by simp; omega
    have C2 := Lib.hid c2
    clear c2
    go_enter Try.func34, Try.ntmps34
    go_wp2
    go_ret
    exact ⟨ret_int (chk_9 c1 (.inr c3)).symm, B0⟩
  have c3 : P.pens.length = P.lines.length := by omega
  have c23 : ¬ (P.notes.length ≠ P.lines.length ∨ P.pens.length ≠ P.lines.length) := by omega
  have e : ((P.notes.length : Int) != (P.lines.length : Int)) = false := by simp [c2]
  have e2 : ((P.pens.length : Int) != (P.lines.length : Int)) = false := by simp [c3]
  have n1 : P.lines.length ≤ P.notes.length := by omega
  have n2 : P.notes.length ≤ P.lines.length := by omega
  have n3 : P.lines.length ≤ P.pens.length := by omega
  have C23 := Lib.hid c23
  have C2 := Lib.hid c2
  have C3 := Lib.hid c3
  clear c2 c3 c23
  go_enter Try.func34, Try.ntmps34
  go_wp2_with fail
  go_loop [29] (fun i => ∃ k : Nat, i = .int .i64 k ∧ Missed (fun l => decide (l.length ≠ nbk P)) P.notes k) (fun i => P.notes.length - (intOf i).toNat)
  case atStart => exact ⟨0, rfl, Missed.zero⟩
  case round =>
    obtain ⟨k, rfl, hm⟩ := hrel
    have hk := hm.1
    by_cases hlt : k < P.notes.length
    · obtain ⟨b, o, Ai, ci, hA, hbl, hc0, hri⟩ := HR.n k hlt
      obtain ⟨b', o', A0, ci', hA', hbl', hc', hri'⟩ := HR.n 0 (by omega)
      subst hA
      injection hA' with hA'
      injection hA' with e1 e2
      subst e1 e2
      simp only [Nat.add_zero] at hc'
      clear hri hri'
      by_cases hp : P.notes[k].length = P.notes[0].length
      · have hpk : ((P.notes[k].length : Int) != (P.notes[0].length : Int)) = false := by simp [hp]
        have HP := Lib.hid (hm.step hlt (by rw [nbk_eq (by omega)]; simp [hp]))
        clear hp
        go_wp2
        go_round
        case rel => exact ⟨k + 1, by go_num, HP.out⟩
        case measure => simp [intOf]; omega
      · have hpk : ((P.notes[k].length : Int) != (P.notes[0].length : Int)) = true := by simp; omega
        have HP := Lib.hid (chk_9b c1 C23.out (any_hit hlt (by rw [nbk_eq (by omega)]; simp [hp])))
        clear hp
        go_wp2
        go_ret
        exact ⟨ret_int HP.out.symm, B0⟩
    · have hany := Lib.hid (hm.any_false (by omega))
      clear hm
      by_cases c4 : 16 < nbk P
      · have hpos : 0 < P.notes.length := by
          rcases Nat.eq_zero_or_pos P.notes.length with h | h
          · have := List.eq_nil_of_length_eq_zero h
            unfold nbk at c4; rw [this] at c4; simp at c4
          · exact h
        obtain ⟨b', o', A0, ci', hA', hbl', hc', hri'⟩ := HR.n 0 hpos
        subst hA'
        simp only [Nat.add_zero] at hc'
        have hlen : 16 < P.notes[0].length := by rw [← nbk_eq hpos]; exact c4
        go_wp2
        go_ret
        exact ⟨ret_int (chk_4b c1 C23.out hany.out c4).symm, B0⟩
      · have RL := Lib.hid (show ∀ xs ∈ P.notes, xs.length ≤ 16 by
          intro xs hxs
          have := hany.out
          rw [List.any_eq_false] at this
          have := this _ hxs
          simp at this
          omega)
        by_cases hpos : 0 < P.notes.length
        · obtain ⟨b', o', A0, ci', rfl, hbl', hc', hri'⟩ := HR.n 0 hpos
          simp only [Nat.add_zero] at hc'
          have hlen : P.notes[0].length ≤ 16 := by rw [← nbk_eq hpos]; omega
          clear hri'
          obtain ⟨W2, hW2⟩ : ∃ W2, (w.alloc (.cells #[.slice AL P.lines.length cL, .slice (some ⟨b', o', none⟩) P.notes.length cN, .slice AP P.pens.length cP, .int .i64 P.height, .int .i64 P.gap] 25)).alloc (.cells #[.func (.func 70) #[] #[]] 82) = W2 := ⟨_, rfl⟩
          have B2 : Below w.heap.size w W2 := by rw [← hW2]; exact B0.alloc (by simp) _
          have HR2 : PPR W2 W2.heap.size AL (some ⟨b', o', none⟩) AP P := by rw [← hW2]; exact HR.alloc _
          have K := Lib.hid (show ∀ wr, Below W2.heap.size W2 wr → wr.cell? ⟨w.heap.size, 0, none⟩ = some (.slice AL P.lines.length cL) ∧ wr.cell? ⟨w.heap.size, 1, none⟩ = some (.slice (some ⟨b', o', none⟩) P.notes.length cN) ∧ wr.cell? ⟨w.heap.size, 2, none⟩ = some (.slice AP P.pens.length cP) ∧ wr.cell? ⟨w.heap.size, 3, none⟩ = some (.int .i64 P.height) ∧ wr.cell? ⟨w.heap.size, 4, none⟩ = some (.int .i64 P.gap) ∧ wr.cell? ⟨w.heap.size + 1, 0, none⟩ = some (.func (.func 70) #[] #[]) by
            intro wr hwr
            rw [← hW2] at hwr
            obtain ⟨f0, f1, f2, f3, f4⟩ := box_cells (((Below.refl _ _).alloc (Nat.le_refl _) (.cells #[.func (.func 70) #[] #[]] 82)).trans (hwr.mono (by simp)))
            exact ⟨f0, f1, f2, f3, f4, (hwr.cell (p := ⟨w.heap.size + 1, 0, none⟩) (by simp)).trans (by simp)⟩)
          have HW2 := Lib.hid hW2
          clear hW2 HR hR
          by_cases a1 : P.lines.any badLen = true
          · have A1 := Lib.hid a1
            have HQ := Lib.hid (chk_2 c1 C23.out hany.out c4 (show rangeBad P = true by unfold rangeBad; rw [a1]; simp))
            clear a1
            go_wp2_with fail
            rw [HW2.out]
            go_wp2_with fail
            refine (containsFunc_any 70 #[] badLen AL cL P.lines _ z1 HR2.l eg70 (fun x _ => pred70 x _)).mono ?_
            rw [A1.out]
            rintro e w1 ⟨rfl, hb1⟩
            obtain ⟨e0, e1, e2', e3, e4, e5⟩ := K.out w1 hb1
            go_wp2
            go_ret
            exact ⟨ret_int HQ.out.symm, bthen B2 hb1⟩
          have a1 : P.lines.any badLen = false := by simpa using a1
          by_cases a2 : P.notes.any (fun l => l.any badLen) = true
          · have A1 := Lib.hid a1
            have A2 := Lib.hid a2
            have HQ := Lib.hid (chk_2 c1 C23.out hany.out c4 (show rangeBad P = true by unfold rangeBad; rw [a2]; simp))
            clear a1 a2
            go_wp2_with fail
            rw [HW2.out]
            go_wp2_with fail
            refine (containsFunc_any 70 #[] badLen AL cL P.lines _ z1 HR2.l eg70 (fun x _ => pred70 x _)).mono ?_
            rw [A1.out]
            rintro e w1 ⟨rfl, hb1⟩
            obtain ⟨e0, e1, e2', e3, e4, e5⟩ := K.out w1 hb1
            go_wp2_with fail
            refine (containsFuncR_any 73 #[.pointer (some ⟨w.heap.size + 1, 0, none⟩)] (fun l => l.any badLen) (some ⟨b', o', none⟩) cN P.notes _ z2 (HR2.n.to hb1 hb1.size) eg73 (fun xs hxs Ai ci hri W hbW => (rowBad_any Ai ci xs (w.heap.size + 1) W (Nat.le_trans (RL.out xs hxs) (by omega)) (hri.to hbW hbW.size) (kc hbW e5)))).mono ?_
            rw [A2.out]
            rintro e w2 ⟨rfl, hb2⟩
            clear e0 e1 e2' e3 e4 e5
            obtain ⟨e0, e1, e2', e3, e4, e5⟩ := K.out w2 (bthen hb1 hb2)
            go_wp2
            go_ret
            exact ⟨ret_int HQ.out.symm, bthen B2 (bthen hb1 hb2)⟩
          have a2 : P.notes.any (fun l => l.any badLen) = false := by simpa using a2
          by_cases a3 : P.pens.any badPen = true
          · have A1 := Lib.hid a1
            have A2 := Lib.hid a2
            have A3 := Lib.hid a3
            have HQ := Lib.hid (chk_2 c1 C23.out hany.out c4 (show rangeBad P = true by unfold rangeBad; rw [a3]; simp))
            clear a1 a2 a3
            go_wp2_with fail
            rw [HW2.out]
            go_wp2_with fail
            refine (containsFunc_any 70 #[] badLen AL cL P.lines _ z1 HR2.l eg70 (fun x _ => pred70 x _)).mono ?_
            rw [A1.out]
            rintro e w1 ⟨rfl, hb1⟩
            obtain ⟨e0, e1, e2', e3, e4, e5⟩ := K.out w1 hb1
            go_wp2_with fail
            refine (containsFuncR_any 73 #[.pointer (some ⟨w.heap.size + 1, 0, none⟩)] (fun l => l.any badLen) (some ⟨b', o', none⟩) cN P.notes _ z2 (HR2.n.to hb1 hb1.size) eg73 (fun xs hxs Ai ci hri W hbW => (rowBad_any Ai ci xs (w.heap.size + 1) W (Nat.le_trans (RL.out xs hxs) (by omega)) (hri.to hbW hbW.size) (kc hbW e5)))).mono ?_
            rw [A2.out]
            rintro e w2 ⟨rfl, hb2⟩
            clear e0 e1 e2' e3 e4 e5
            obtain ⟨e0, e1, e2', e3, e4, e5⟩ := K.out w2 (bthen hb1 hb2)
            go_wp2_with fail
            refine (containsFunc_any 74 #[] badPen AP cP P.pens _ z3 (HR2.p.to (bthen hb1 hb2) (bthen hb1 hb2).size) eg74 (fun x _ => pred74 x _)).mono ?_
            rw [A3.out]
            rintro e w3 ⟨rfl, hb3⟩
            clear e0 e1 e2' e3 e4 e5
            obtain ⟨e0, e1, e2', e3, e4, e5⟩ := K.out w3 (bthen (bthen hb1 hb2) hb3)
            go_wp2
            go_ret
            exact ⟨ret_int HQ.out.symm, bthen B2 (bthen (bthen hb1 hb2) hb3)⟩
          have a3 : P.pens.any badPen = false := by simpa using a3
          have HZ := Lib.hid (show rangeBad P = (decide (P.height < 1) || badLen P.height || badLen P.gap) by unfold rangeBad; rw [a1, a2, a3]; simp)
          have A1 := Lib.hid a1
          have A2 := Lib.hid a2
          have A3 := Lib.hid a3
          clear a1 a2 a3
          by_cases a4 : P.height < 1
          · have HQ := Lib.hid (chk_2 c1 C23.out hany.out c4 (show rangeBad P = true by rw [HZ.out]; simp [a4]))
            go_wp2_with fail
            rw [HW2.out]
            go_wp2_with fail
            refine (containsFunc_any 70 #[] badLen AL cL P.lines _ z1 HR2.l eg70 (fun x _ => pred70 x _)).mono ?_
            rw [A1.out]
            rintro e w1 ⟨rfl, hb1⟩
            obtain ⟨e0, e1, e2', e3, e4, e5⟩ := K.out w1 hb1
            go_wp2_with fail
            refine (containsFuncR_any 73 #[.pointer (some ⟨w.heap.size + 1, 0, none⟩)] (fun l => l.any badLen) (some ⟨b', o', none⟩) cN P.notes _ z2 (HR2.n.to hb1 hb1.size) eg73 (fun xs hxs Ai ci hri W hbW => (rowBad_any Ai ci xs (w.heap.size + 1) W (Nat.le_trans (RL.out xs hxs) (by omega)) (hri.to hbW hbW.size) (kc hbW e5)))).mono ?_
            rw [A2.out]
            rintro e w2 ⟨rfl, hb2⟩
            clear e0 e1 e2' e3 e4 e5
            obtain ⟨e0, e1, e2', e3, e4, e5⟩ := K.out w2 (bthen hb1 hb2)
            go_wp2_with fail
            refine (containsFunc_any 74 #[] badPen AP cP P.pens _ z3 (HR2.p.to (bthen hb1 hb2) (bthen hb1 hb2).size) eg74 (fun x _ => pred74 x _)).mono ?_
            rw [A3.out]
            rintro e w3 ⟨rfl, hb3⟩
            clear e0 e1 e2' e3 e4 e5
            obtain ⟨e0, e1, e2', e3, e4, e5⟩ := K.out w3 (bthen (bthen hb1 hb2) hb3)
            go_wp2
            go_ret
            exact ⟨ret_int HQ.out.symm, bthen B2 (bthen (bthen hb1 hb2) hb3)⟩
          by_cases a5 : badLen P.height = true
          · have HQ := Lib.hid (chk_2 c1 C23.out hany.out c4 (show rangeBad P = true by rw [HZ.out]; simp [a5]))
            go_wp2_with fail
            rw [HW2.out]
            go_wp2_with fail
            refine (containsFunc_any 70 #[] badLen AL cL P.lines _ z1 HR2.l eg70 (fun x _ => pred70 x _)).mono ?_
            rw [A1.out]
            rintro e w1 ⟨rfl, hb1⟩
            obtain ⟨e0, e1, e2', e3, e4, e5⟩ := K.out w1 hb1
            go_wp2_with fail
            refine (containsFuncR_any 73 #[.pointer (some ⟨w.heap.size + 1, 0, none⟩)] (fun l => l.any badLen) (some ⟨b', o', none⟩) cN P.notes _ z2 (HR2.n.to hb1 hb1.size) eg73 (fun xs hxs Ai ci hri W hbW => (rowBad_any Ai ci xs (w.heap.size + 1) W (Nat.le_trans (RL.out xs hxs) (by omega)) (hri.to hbW hbW.size) (kc hbW e5)))).mono ?_
            rw [A2.out]
            rintro e w2 ⟨rfl, hb2⟩
            clear e0 e1 e2' e3 e4 e5
            obtain ⟨e0, e1, e2', e3, e4, e5⟩ := K.out w2 (bthen hb1 hb2)
            go_wp2_with fail
            refine (containsFunc_any 74 #[] badPen AP cP P.pens _ z3 (HR2.p.to (bthen hb1 hb2) (bthen hb1 hb2).size) eg74 (fun x _ => pred74 x _)).mono ?_
            rw [A3.out]
            rintro e w3 ⟨rfl, hb3⟩
            clear e0 e1 e2' e3 e4 e5
            obtain ⟨e0, e1, e2', e3, e4, e5⟩ := K.out w3 (bthen (bthen hb1 hb2) hb3)
            go_wp2_with (go_at_call 70; refine (bad_any _ _).mono ?_; rintro e wx ⟨rfl, rfl⟩)
            go_ret
            exact ⟨ret_int HQ.out.symm, bthen B2 (bthen (bthen hb1 hb2) hb3)⟩
          have a5 : badLen P.height = false := by simpa using a5
          by_cases a6 : badLen P.gap = true
          · have HQ := Lib.hid (chk_2 c1 C23.out hany.out c4 (show rangeBad P = true by rw [HZ.out]; simp [a6]))
            go_wp2_with fail
            rw [HW2.out]
            go_wp2_with fail
            refine (containsFunc_any 70 #[] badLen AL cL P.lines _ z1 HR2.l eg70 (fun x _ => pred70 x _)).mono ?_
            rw [A1.out]
            rintro e w1 ⟨rfl, hb1⟩
            obtain ⟨e0, e1, e2', e3, e4, e5⟩ := K.out w1 hb1
            go_wp2_with fail
            refine (containsFuncR_any 73 #[.pointer (some ⟨w.heap.size + 1, 0, none⟩)] (fun l => l.any badLen) (some ⟨b', o', none⟩) cN P.notes _ z2 (HR2.n.to hb1 hb1.size) eg73 (fun xs hxs Ai ci hri W hbW => (rowBad_any Ai ci xs (w.heap.size + 1) W (Nat.le_trans (RL.out xs hxs) (by omega)) (hri.to hbW hbW.size) (kc hbW e5)))).mono ?_
            rw [A2.out]
            rintro e w2 ⟨rfl, hb2⟩
            clear e0 e1 e2' e3 e4 e5
            obtain ⟨e0, e1, e2', e3, e4, e5⟩ := K.out w2 (bthen hb1 hb2)
            go_wp2_with fail
            refine (containsFunc_any 74 #[] badPen AP cP P.pens _ z3 (HR2.p.to (bthen hb1 hb2) (bthen hb1 hb2).size) eg74 (fun x _ => pred74 x _)).mono ?_
            rw [A3.out]
            rintro e w3 ⟨rfl, hb3⟩
            clear e0 e1 e2' e3 e4 e5
            obtain ⟨e0, e1, e2', e3, e4, e5⟩ := K.out w3 (bthen (bthen hb1 hb2) hb3)
            go_wp2_with (go_at_call 70; refine (bad_any _ _).mono ?_; rintro e wx ⟨rfl, rfl⟩)
            go_ret
            exact ⟨ret_int HQ.out.symm, bthen B2 (bthen (bthen hb1 hb2) hb3)⟩
          have a6 : badLen P.gap = false := by simpa using a6
          have HQ := Lib.hid (chk_0 c1 C23.out hany.out c4 (show rangeBad P = false by rw [HZ.out]; simp [a5, a6]; omega))
          go_wp2_with fail
          rw [HW2.out]
          go_wp2_with fail
          refine (containsFunc_any 70 #[] badLen AL cL P.lines _ z1 HR2.l eg70 (fun x _ => pred70 x _)).mono ?_
          rw [A1.out]
          rintro e w1 ⟨rfl, hb1⟩
          obtain ⟨e0, e1, e2', e3, e4, e5⟩ := K.out w1 hb1
          go_wp2_with fail
          refine (containsFuncR_any 73 #[.pointer (some ⟨w.heap.size + 1, 0, none⟩)] (fun l => l.any badLen) (some ⟨b', o', none⟩) cN P.notes _ z2 (HR2.n.to hb1 hb1.size) eg73 (fun xs hxs Ai ci hri W hbW => (rowBad_any Ai ci xs (w.heap.size + 1) W (Nat.le_trans (RL.out xs hxs) (by omega)) (hri.to hbW hbW.size) (kc hbW e5)))).mono ?_
          rw [A2.out]
          rintro e w2 ⟨rfl, hb2⟩
          clear e0 e1 e2' e3 e4 e5
          obtain ⟨e0, e1, e2', e3, e4, e5⟩ := K.out w2 (bthen hb1 hb2)
          go_wp2_with fail
          refine (containsFunc_any 74 #[] badPen AP cP P.pens _ z3 (HR2.p.to (bthen hb1 hb2) (bthen hb1 hb2).size) eg74 (fun x _ => pred74 x _)).mono ?_
          rw [A3.out]
          rintro e w3 ⟨rfl, hb3⟩
          clear e0 e1 e2' e3 e4 e5
          obtain ⟨e0, e1, e2', e3, e4, e5⟩ := K.out w3 (bthen (bthen hb1 hb2) hb3)
          go_wp2_with (go_at_call 70; refine (bad_any _ _).mono ?_; rintro e wx ⟨rfl, rfl⟩)
          go_ret
          exact ⟨ret_int HQ.out.symm, bthen B2 (bthen (bthen hb1 hb2) hb3)⟩
        · have _hx : True := trivial
          obtain ⟨W2, hW2⟩ : ∃ W2, (w.alloc (.cells #[.slice AL P.lines.length cL, .slice AN P.notes.length cN, .slice AP P.pens.length cP, .int .i64 P.height, .int .i64 P.gap] 25)).alloc (.cells #[.func (.func 70) #[] #[]] 82) = W2 := ⟨_, rfl⟩
          have B2 : Below w.heap.size w W2 := by rw [← hW2]; exact B0.alloc (by simp) _
          have HR2 : PPR W2 W2.heap.size AL AN AP P := by rw [← hW2]; exact HR.alloc _
          have K := Lib.hid (show ∀ wr, Below W2.heap.size W2 wr → wr.cell? ⟨w.heap.size, 0, none⟩ = some (.slice AL P.lines.length cL) ∧ wr.cell? ⟨w.heap.size, 1, none⟩ = some (.slice AN P.notes.length cN) ∧ wr.cell? ⟨w.heap.size, 2, none⟩ = some (.slice AP P.pens.length cP) ∧ wr.cell? ⟨w.heap.size, 3, none⟩ = some (.int .i64 P.height) ∧ wr.cell? ⟨w.heap.size, 4, none⟩ = some (.int .i64 P.gap) ∧ wr.cell? ⟨w.heap.size + 1, 0, none⟩ = some (.func (.func 70) #[] #[]) by
            intro wr hwr
            rw [← hW2] at hwr
            obtain ⟨f0, f1, f2, f3, f4⟩ := box_cells (((Below.refl _ _).alloc (Nat.le_refl _) (.cells #[.func (.func 70) #[] #[]] 82)).trans (hwr.mono (by simp)))
            exact ⟨f0, f1, f2, f3, f4, (hwr.cell (p := ⟨w.heap.size + 1, 0, none⟩) (by simp)).trans (by simp)⟩)
          have HW2 := Lib.hid hW2
          clear hW2 HR hR
          by_cases a1 : P.lines.any badLen = true
          · have A1 := Lib.hid a1
            have HQ := Lib.hid (chk_2 c1 C23.out hany.out c4 (show rangeBad P = true by unfold rangeBad; rw [a1]; simp))
            clear a1
            go_wp2_with fail
            rw [HW2.out]
            go_wp2_with fail
            refine (containsFunc_any 70 #[] badLen AL cL P.lines _ z1 HR2.l eg70 (fun x _ => pred70 x _)).mono ?_
            rw [A1.out]
            rintro e w1 ⟨rfl, hb1⟩
            obtain ⟨e0, e1, e2', e3, e4, e5⟩ := K.out w1 hb1
            go_wp2
            go_ret
            exact ⟨ret_int HQ.out.symm, bthen B2 hb1⟩
          have a1 : P.lines.any badLen = false := by simpa using a1
          by_cases a2 : P.notes.any (fun l => l.any badLen) = true
          · have A1 := Lib.hid a1
            have A2 := Lib.hid a2
            have HQ := Lib.hid (chk_2 c1 C23.out hany.out c4 (show rangeBad P = true by unfold rangeBad; rw [a2]; simp))
            clear a1 a2
            go_wp2_with fail
            rw [HW2.out]
            go_wp2_with fail
            refine (containsFunc_any 70 #[] badLen AL cL P.lines _ z1 HR2.l eg70 (fun x _ => pred70 x _)).mono ?_
            rw [A1.out]
            rintro e w1 ⟨rfl, hb1⟩
            obtain ⟨e0, e1, e2', e3, e4, e5⟩ := K.out w1 hb1
            go_wp2_with fail
            refine (containsFuncR_any 73 #[.pointer (some ⟨w.heap.size + 1, 0, none⟩)] (fun l => l.any badLen) AN cN P.notes _ z2 (HR2.n.to hb1 hb1.size) eg73 (fun xs hxs Ai ci hri W hbW => (rowBad_any Ai ci xs (w.heap.size + 1) W (Nat.le_trans (RL.out xs hxs) (by omega)) (hri.to hbW hbW.size) (kc hbW e5)))).mono ?_
            rw [A2.out]
            rintro e w2 ⟨rfl, hb2⟩
            clear e0 e1 e2' e3 e4 e5
            obtain ⟨e0, e1, e2', e3, e4, e5⟩ := K.out w2 (bthen hb1 hb2)
            go_wp2
            go_ret
            exact ⟨ret_int HQ.out.symm, bthen B2 (bthen hb1 hb2)⟩
          have a2 : P.notes.any (fun l => l.any badLen) = false := by simpa using a2
          by_cases a3 : P.pens.any badPen = true
          · have A1 := Lib.hid a1
            have A2 := Lib.hid a2
            have A3 := Lib.hid a3
            have HQ := Lib.hid (chk_2 c1 C23.out hany.out c4 (show rangeBad P = true by unfold rangeBad; rw [a3]; simp))
            clear a1 a2 a3
            go_wp2_with fail
            rw [HW2.out]
            go_wp2_with fail
            refine (containsFunc_any 70 #[] badLen AL cL P.lines _ z1 HR2.l eg70 (fun x _ => pred70 x _)).mono ?_
            rw [A1.out]
            rintro e w1 ⟨rfl, hb1⟩
            obtain ⟨e0, e1, e2', e3, e4, e5⟩ := K.out w1 hb1
            go_wp2_with fail
            refine (containsFuncR_any 73 #[.pointer (some ⟨w.heap.size + 1, 0, none⟩)] (fun l => l.any badLen) AN cN P.notes _ z2 (HR2.n.to hb1 hb1.size) eg73 (fun xs hxs Ai ci hri W hbW => (rowBad_any Ai ci xs (w.heap.size + 1) W (Nat.le_trans (RL.out xs hxs) (by omega)) (hri.to hbW hbW.size) (kc hbW e5)))).mono ?_
            rw [A2.out]
            rintro e w2 ⟨rfl, hb2⟩
            clear e0 e1 e2' e3 e4 e5
            obtain ⟨e0, e1, e2', e3, e4, e5⟩ := K.out w2 (bthen hb1 hb2)
            go_wp2_with fail
            refine (containsFunc_any 74 #[] badPen AP cP P.pens _ z3 (HR2.p.to (bthen hb1 hb2) (bthen hb1 hb2).size) eg74 (fun x _ => pred74 x _)).mono ?_
            rw [A3.out]
            rintro e w3 ⟨rfl, hb3⟩
            clear e0 e1 e2' e3 e4 e5
            obtain ⟨e0, e1, e2', e3, e4, e5⟩ := K.out w3 (bthen (bthen hb1 hb2) hb3)
            go_wp2
            go_ret
            exact ⟨ret_int HQ.out.symm, bthen B2 (bthen (bthen hb1 hb2) hb3)⟩
          have a3 : P.pens.any badPen = false := by simpa using a3
          have HZ := Lib.hid (show rangeBad P = (decide (P.height < 1) || badLen P.height || badLen P.gap) by unfold rangeBad; rw [a1, a2, a3]; simp)
          have A1 := Lib.hid a1
          have A2 := Lib.hid a2
          have A3 := Lib.hid a3
          clear a1 a2 a3
          by_cases a4 : P.height < 1
          · have HQ := Lib.hid (chk_2 c1 C23.out hany.out c4 (show rangeBad P = true by rw [HZ.out]; simp [a4]))
            go_wp2_with fail
            rw [HW2.out]
            go_wp2_with fail
            refine (containsFunc_any 70 #[] badLen AL cL P.lines _ z1 HR2.l eg70 (fun x _ => pred70 x _)).mono ?_
            rw [A1.out]
            rintro e w1 ⟨rfl, hb1⟩
            obtain ⟨e0, e1, e2', e3, e4, e5⟩ := K.out w1 hb1
            go_wp2_with fail
            refine (containsFuncR_any 73 #[.pointer (some ⟨w.heap.size + 1, 0, none⟩)] (fun l => l.any badLen) AN cN P.notes _ z2 (HR2.n.to hb1 hb1.size) eg73 (fun xs hxs Ai ci hri W hbW => (rowBad_any Ai ci xs (w.heap.size + 1) W (Nat.le_trans (RL.out xs hxs) (by omega)) (hri.to hbW hbW.size) (kc hbW e5)))).mono ?_
            rw [A2.out]
            rintro e w2 ⟨rfl, hb2⟩
            clear e0 e1 e2' e3 e4 e5
            obtain ⟨e0, e1, e2', e3, e4, e5⟩ := K.out w2 (bthen hb1 hb2)
            go_wp2_with fail
            refine (containsFunc_any 74 #[] badPen AP cP P.pens _ z3 (HR2.p.to (bthen hb1 hb2) (bthen hb1 hb2).size) eg74 (fun x _ => pred74 x _)).mono ?_
            rw [A3.out]
            rintro e w3 ⟨rfl, hb3⟩
            clear e0 e1 e2' e3 e4 e5
            obtain ⟨e0, e1, e2', e3, e4, e5⟩ := K.out w3 (bthen (bthen hb1 hb2) hb3)
            go_wp2
            go_ret
            exact ⟨ret_int HQ.out.symm, bthen B2 (bthen (bthen hb1 hb2) hb3)⟩
          by_cases a5 : badLen P.height = true
          · have HQ := Lib.hid (chk_2 c1 C23.out hany.out c4 (show rangeBad P = true by rw [HZ.out]; simp [a5]))
            go_wp2_with fail
            rw [HW2.out]
            go_wp2_with fail
            refine (containsFunc_any 70 #[] badLen AL cL P.lines _ z1 HR2.l eg70 (fun x _ => pred70 x _)).mono ?_
            rw [A1.out]
            rintro e w1 ⟨rfl, hb1⟩
            obtain ⟨e0, e1, e2', e3, e4, e5⟩ := K.out w1 hb1
            go_wp2_with fail
            refine (containsFuncR_any 73 #[.pointer (some ⟨w.heap.size + 1, 0, none⟩)] (fun l => l.any badLen) AN cN P.notes _ z2 (HR2.n.to hb1 hb1.size) eg73 (fun xs hxs Ai ci hri W hbW => (rowBad_any Ai ci xs (w.heap.size + 1) W (Nat.le_trans (RL.out xs hxs) (by omega)) (hri.to hbW hbW.size) (kc hbW e5)))).mono ?_
            rw [A2.out]
            rintro e w2 ⟨rfl, hb2⟩
            clear e0 e1 e2' e3 e4 e5
            obtain ⟨e0, e1, e2', e3, e4, e5⟩ := K.out w2 (bthen hb1 hb2)
            go_wp2_with fail
            refine (containsFunc_any 74 #[] badPen AP cP P.pens _ z3 (HR2.p.to (bthen hb1 hb2) (bthen hb1 hb2).size) eg74 (fun x _ => pred74 x _)).mono ?_
            rw [A3.out]
            rintro e w3 ⟨rfl, hb3⟩
            clear e0 e1 e2' e3 e4 e5
            obtain ⟨e0, e1, e2', e3, e4, e5⟩ := K.out w3 (bthen (bthen hb1 hb2) hb3)
            go_wp2_with (go_at_call 70; refine (bad_any _ _).mono ?_; rintro e wx ⟨rfl, rfl⟩)
            go_ret
            exact ⟨ret_int HQ.out.symm, bthen B2 (bthen (bthen hb1 hb2) hb3)⟩
          have a5 : badLen P.height = false := by simpa using a5
          by_cases a6 : badLen P.gap = true
          · have HQ := Lib.hid (chk_2 c1 C23.out hany.out c4 (show rangeBad P = true by rw [HZ.out]; simp [a6]))
            go_wp2_with fail
            rw [HW2.out]
            go_wp2_with fail
            refine (containsFunc_any 70 #[] badLen AL cL P.lines _ z1 HR2.l eg70 (fun x _ => pred70 x _)).mono ?_
            rw [A1.out]
            rintro e w1 ⟨rfl, hb1⟩
            obtain ⟨e0, e1, e2', e3, e4, e5⟩ := K.out w1 hb1
            go_wp2_with fail
            refine (containsFuncR_any 73 #[.pointer (some ⟨w.heap.size + 1, 0, none⟩)] (fun l => l.any badLen) AN cN P.notes _ z2 (HR2.n.to hb1 hb1.size) eg73 (fun xs hxs Ai ci hri W hbW => (rowBad_any Ai ci xs (w.heap.size + 1) W (Nat.le_trans (RL.out xs hxs) (by omega)) (hri.to hbW hbW.size) (kc hbW e5)))).mono ?_
            rw [A2.out]
            rintro e w2 ⟨rfl, hb2⟩
            clear e0 e1 e2' e3 e4 e5
            obtain ⟨e0, e1, e2', e3, e4, e5⟩ := K.out w2 (bthen hb1 hb2)
            go_wp2_with fail
            refine (containsFunc_any 74 #[] badPen AP cP P.pens _ z3 (HR2.p.to (bthen hb1 hb2) (bthen hb1 hb2).size) eg74 (fun x _ => pred74 x _)).mono ?_
            rw [A3.out]
            rintro e w3 ⟨rfl, hb3⟩
            clear e0 e1 e2' e3 e4 e5
            obtain ⟨e0, e1, e2', e3, e4, e5⟩ := K.out w3 (bthen (bthen hb1 hb2) hb3)
            go_wp2_with (go_at_call 70; refine (bad_any _ _).mono ?_; rintro e wx ⟨rfl, rfl⟩)
            go_ret
            exact ⟨ret_int HQ.out.symm, bthen B2 (bthen (bthen hb1 hb2) hb3)⟩
          have a6 : badLen P.gap = false := by simpa using a6
          have HQ := Lib.hid (chk_0 c1 C23.out hany.out c4 (show rangeBad P = false by rw [HZ.out]; simp [a5, a6]; omega))
          go_wp2_with fail
          rw [HW2.out]
          go_wp2_with fail
          refine (containsFunc_any 70 #[] badLen AL cL P.lines _ z1 HR2.l eg70 (fun x _ => pred70 x _)).mono ?_
          rw [A1.out]
          rintro e w1 ⟨rfl, hb1⟩
          obtain ⟨e0, e1, e2', e3, e4, e5⟩ := K.out w1 hb1
          go_wp2_with fail
          refine (containsFuncR_any 73 #[.pointer (some ⟨w.heap.size + 1, 0, none⟩)] (fun l => l.any badLen) AN cN P.notes _ z2 (HR2.n.to hb1 hb1.size) eg73 (fun xs hxs Ai ci hri W hbW => (rowBad_any Ai ci xs (w.heap.size + 1) W (Nat.le_trans (RL.out xs hxs) (by omega)) (hri.to hbW hbW.size) (kc hbW e5)))).mono ?_
          rw [A2.out]
          rintro e w2 ⟨rfl, hb2⟩
          clear e0 e1 e2' e3 e4 e5
          obtain ⟨e0, e1, e2', e3, e4, e5⟩ := K.out w2 (bthen hb1 hb2)
          go_wp2_with fail
          refine (containsFunc_any 74 #[] badPen AP cP P.pens _ z3 (HR2.p.to (bthen hb1 hb2) (bthen hb1 hb2).size) eg74 (fun x _ => pred74 x _)).mono ?_
          rw [A3.out]
          rintro e w3 ⟨rfl, hb3⟩
          clear e0 e1 e2' e3 e4 e5
          obtain ⟨e0, e1, e2', e3, e4, e5⟩ := K.out w3 (bthen (bthen hb1 hb2) hb3)
          go_wp2_with (go_at_call 70; refine (bad_any _ _).mono ?_; rintro e wx ⟨rfl, rfl⟩)
          go_ret
          exact ⟨ret_int HQ.out.symm, bthen B2 (bthen (bthen hb1 hb2) hb3)⟩
end Go.Proofs.Ytemlljgldkkkgaa
