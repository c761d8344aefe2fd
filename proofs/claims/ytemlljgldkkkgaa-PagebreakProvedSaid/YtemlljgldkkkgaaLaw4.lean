/- PagebreakBest returns true: the walk. Condition: the second argument is a uint16. -/
import Derived.Test.YtemlljgldkkkgaaAwake
import Derived.Test.YtemlljgldkkkgaaFineW
import Derived.Test.YtemlljgldkkkgaaChoose
import Derived.Test.YtemlljgldkkkgaaLaw3
namespace Go.Proofs.Ytemlljgldkkkgaa
open Go.RowKit Go.Shelf
theorem endsE_of_asc {n : Int} : ∀ (xs : List Int) (l : Int), 0 ≤ l → Asc n l xs → endsE n xs l = 0
  | [], l, _, h => by
    have h : l = n := h
    unfold endsE
    rw [if_neg (by omega)]
  | x :: r, l, h0, h => by
    obtain ⟨h1, h2, h3⟩ := h
    unfold endsE
    rw [if_neg (by omega), if_neg (by omega)]
    exact endsE_of_asc r x (by omega) h3
theorem pageE_cases (P : PP) (a b : Nat) : P.pageE a b = 0 ∨ P.pageE a b = 22 ∨ P.pageE a b = 23 := by
  unfold PP.pageE
  split
  · exact .inr (.inl rfl)
  · split
    · exact .inl rfl
    · split
      · exact .inr (.inr rfl)
      · exact .inl rfl
theorem sumE_cases (P : PP) : ∀ (xs : List Int) (a : Nat), sumE P xs a = 0 ∨ sumE P xs a = 22 ∨ sumE P xs a = 23
  | [], a => .inl rfl
  | x :: r, a => by
    rw [sumE]
    by_cases c : P.pageE a x.toNat ≠ 0
    · rw [if_pos c]
      rcases pageE_cases P a x.toNat with h | h | h
      · exact absurd h c
      · exact .inr (.inl h)
      · exact .inr (.inr h)
    · rw [if_neg c]; exact sumE_cases P r x.toNat
theorem fineB_spec {P : PP} (h : fineB P = true) : P.lines.length ≤ 10 ∧ chk P = 0 := by
  unfold fineB at h
  simp at h
  exact ⟨h.1, h.2.2⟩
/-- what the law asks -/
theorem best_ok {P : PP} (h : fineB P = true) {xs : List Int} (ha : Asc P.lines.length 0 xs) :
    (costE P xs = 22 ∨ costE P xs = 23) ∨ (costE P xs = 0 ∧ breakE P = 0 ∧ (breakC P < costC P xs ∨ (breakC P = costC P xs ∧ cmpL (breakL P) xs ≤ 0))) := by
  obtain ⟨_, hc⟩ := fineB_spec h
  have F := chk_fine hc
  have he := endsE_of_asc xs 0 (Int.le_refl _) ha
  obtain ⟨c1, c2⟩ := cost_in hc he
  rw [c2, c1]
  rcases sumE_cases P xs 0 with h0 | h0 | h0
  · right
    obtain ⟨p1, p2⟩ := pot_least F xs 0 (Nat.zero_le _) ha h0
    obtain ⟨b1, b2, b3⟩ := break_ok hc (show ¬ pot P 0 < 0 by omega)
    refine ⟨h0, b3, ?_⟩
    rw [b1, b2]
    by_cases e : pot P 0 < sumC P xs 0 0
    · exact .inl e
    · right
      have e2 : sumC P xs 0 0 = pot P 0 := by omega
      exact ⟨e2.symm, brk_first F xs P.lines.length 0 (Nat.zero_le _) (by omega) ha h0 e2⟩
  · exact .inl (.inl h0)
  · exact .inl (.inr h0)
set_option maxRecDepth 100000 in
set_option maxHeartbeats 3200000 in
theorem PagebreakBest_any (AL AN AP : Option Addr) (cL cN cP : Nat) (P : PP) (b : Int) (w : World) (S : Sz P) (hR : PPR w w.heap.size AL AN AP P) (hb0 : 0 ≤ b) (hb1 : b ≤ 65535) :
    Calls Try.prog 4 #[.agg #[.slice AL P.lines.length cL, .slice AN P.notes.length cN, .slice AP P.pens.length cP, .int .i64 P.height, .int .i64 P.gap], .int .u16 b] w fun e w' => e = .returned (.bool true) ∧ Below w.heap.size w w' := by
  have HR := hR.alloc (.cells #[.slice AL P.lines.length cL, .slice AN P.notes.length cN, .slice AP P.pens.length cP, .int .i64 P.height, .int .i64 P.gap] 25)
  have B0 : Below w.heap.size w (w.alloc (.cells #[.slice AL P.lines.length cL, .slice AN P.notes.length cN, .slice AP P.pens.length cP, .int .i64 P.height, .int .i64 P.gap] 25)) := (Below.refl _ _).alloc (Nat.le_refl _) _
  have CF := Lib.hid (fine_any AL AN AP cL cN cP P _ S HR)
  by_cases hf : fineB P = true
  rotate_left
  · have hf' : fineB P = false := by simpa using hf
    have G := Lib.hid hf'
    clear hf hf'
    go_enter Try.func4, Try.ntmps4
    go_wp2_with fail
    refine CF.out.mono ?_
    rw [G.out]
    rintro e w1 ⟨rfl, hb1⟩
    go_wp2_with (go_at_call 16; refine (awake_any _).mono ?_; rintro e w2 ⟨rfl, hb2⟩)
    go_ret
    exact ⟨rfl, bthen (bthen B0 hb1) hb2⟩
  have G := Lib.hid hf
  have FS := Lib.hid (fineB_spec hf)
  clear hf
  go_enter Try.func4, Try.ntmps4
  go_wp2_with fail
  refine CF.out.mono ?_
  rw [G.out]
  rintro e w1 ⟨rfl, hb1'⟩
  obtain ⟨f0, f1, f2, f3, f4⟩ := box_cells hb1'
  have HR1 := HR.to hb1' hb1'.size
  have B1 := bthen B0 hb1'
  clear HR hR hb1' B0 CF
  go_wp2_with fail
  refine (choose_any P.lines.length b w1 FS.out.1 hb0 hb1).mono ?_
  rintro e w2 ⟨AX, cX, xs, rfl, hX, hasc, hxl, hb2⟩
  have hxn : xs.length ≤ 10 := Nat.le_trans hxl FS.out.1
  have BO := Lib.hid (best_ok G.out hasc)
  have K2 := Lib.hid hb2
  have g0 := kc hb2 f0
  have g1 := kc hb2 f1
  have g2 := kc hb2 f2
  have g3 := kc hb2 f3
  have g4 := kc hb2 f4
  have HX := Lib.hid hX
  clear f0 f1 f2 f3 f4 hb2 hX hasc hxl
  go_wp2_with fail
  refine (cost_any AL AN AP cL cN cP P AX cX xs w2 S (HR1.to K2.out K2.out.size) HX.out (by omega)).mono ?_
  rintro e w3 ⟨rfl, hb3⟩
  have K3 := Lib.hid hb3
  have f0 := kc hb3 g0
  have f1 := kc hb3 g1
  have f2 := kc hb3 g2
  have f3 := kc hb3 g3
  have f4 := kc hb3 g4
  clear g0 g1 g2 g3 g4 hb3
  go_wp2_with fail
  refine (break_any AL AN AP cL cN cP P w3 S (HR1.to (bthen K2.out K3.out) (bthen K2.out K3.out).size)).mono ?_
  rintro e w4 ⟨A1, c1, rfl, hI1, hb4⟩
  have hX4 := HX.out.to (bthen K3.out hb4) (bthen K3.out hb4).size
  have B4 := bthen B1 (bthen (bthen K2.out K3.out) hb4)
  have EQ := Lib.hid (compare_any A1 AX c1 cX (breakL P) xs w4 (Nat.le_trans (breakL_len P) (by decide)) (by omega) hI1 hX4)
  clear f0 f1 f2 f3 f4 HR1 B1 hb4 hI1 hX4
  rcases BO.out with h | ⟨h1, h2, h3⟩
  · have e1 : (costE P xs != 0) = true := by rcases h with h | h <;> simp [h]
    by_cases h22 : costE P xs = 22
    · have e2 : (costE P xs == 22) = true := by simp [h22]
      clear h h22
      go_wp2_with (go_at_call 16; refine (awake_any _).mono ?_; rintro e w5 ⟨rfl, hb5⟩)
      go_ret
      exact ⟨rfl, bthen B4 hb5⟩
    · have e2 : (costE P xs == 22) = false := by simp [h22]
      have e3 : (costE P xs == 23) = true := by
        rcases h with h | h
        · exact absurd h h22
        · simp [h]
      clear h h22
      go_wp2_with (go_at_call 16; refine (awake_any _).mono ?_; rintro e w5 ⟨rfl, hb5⟩)
      go_ret
      exact ⟨rfl, bthen B4 hb5⟩
  · have e1 : (costE P xs != 0) = false := by simp [h1]
    have e2 : (breakE P == 0) = true := by simp [h2]
    by_cases h4 : breakC P < costC P xs
    · have e3 : decide (breakC P < costC P xs) = true := by simpa using h4
      clear h1 h2 h3 h4
      go_wp2_with (go_at_call 16; refine (awake_any _).mono ?_; rintro e w5 ⟨rfl, hb5⟩)
      go_ret
      exact ⟨rfl, bthen B4 hb5⟩
    · have e3 : decide (breakC P < costC P xs) = false := by simpa using h4
      obtain ⟨h5, h6⟩ : breakC P = costC P xs ∧ cmpL (breakL P) xs ≤ 0 := by
        rcases h3 with h | h
        · exact absurd h h4
        · exact h
      have e4 : (costC P xs == breakC P) = true := by simp [h5]
      have e5 : decide (cmpL (breakL P) xs ≤ 0) = true := by simpa using h6
      clear h1 h2 h3 h4 h5 h6
      go_wp2_with fail
      refine EQ.out.mono ?_
      rintro e w5 ⟨rfl, hb5⟩
      go_wp2_with (go_at_call 16; refine (awake_any _).mono ?_; rintro e w6 ⟨rfl, hb6⟩)
      go_ret
      exact ⟨rfl, bthen (bthen B4 hb5) hb6⟩
end Go.Proofs.Ytemlljgldkkkgaa
