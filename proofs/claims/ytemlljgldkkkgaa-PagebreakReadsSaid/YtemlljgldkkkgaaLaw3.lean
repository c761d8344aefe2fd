/- PagebreakBreaks returns true: the walk -/
import Derived.Test.YtemlljgldkkkgaaVerEq
import Derived.Deep.RegionHeld3
namespace Go.Proofs.Ytemlljgldkkkgaa
open Go.RowKit Go.Shelf
theorem brkGo_len (P : PP) : ∀ f i, (brkGo P f i).length ≤ f
  | 0, i => by simp [brkGo]
  | f + 1, i => by
    rw [brkGo]
    split
    · split
      · rename_i j _
        have := brkGo_len P f j
        simp; omega
      · simp
    · simp
theorem breakL_len (P : PP) : (breakL P).length ≤ 4096 := by
  unfold breakL
  by_cases h : chk P = 0
  · have F := chk_fine h
    rw [if_neg (by simp [h])]
    split
    · simp
    · have := brkGo_len P P.lines.length 0
      have := F.ln
      unfold brkL
      omega
  · rw [if_pos h]; simp
theorem potsL_len (P : PP) : (potsL P).length ≤ 4097 := by
  unfold potsL
  by_cases h : chk P = 0
  · have F := chk_fine h
    rw [if_neg (by simp [h]), potL_len]
    have := F.ln
    omega
  · rw [if_pos h]; simp
set_option maxRecDepth 100000 in
set_option maxHeartbeats 3200000 in
theorem PagebreakBreaks_any (AL AN AP : Option Addr) (cL cN cP : Nat) (P : PP) (AE : Option Addr) (cE : Nat) (ends : List Int) (AL2 : Option Addr) (cL2 : Nat) (l : List Int) (w : World) (S : Sz P) (hR : PPR w w.heap.size AL AN AP P) (hE : IntsR w w.heap.size AE ends) (hL : IntsR w w.heap.size AL2 l) (hl64 : ∀ x ∈ l, I64 x) :
    Calls Try.prog 3 #[.agg #[.slice AL P.lines.length cL, .slice AN P.notes.length cN, .slice AP P.pens.length cP, .int .i64 P.height, .int .i64 P.gap], .slice AE ends.length cE, .slice AL2 l.length cL2] w fun e w' => e = .returned (.bool true) ∧ Below w.heap.size w w' := by
  have HR := hR.alloc (.cells #[.slice AL P.lines.length cL, .slice AN P.notes.length cN, .slice AP P.pens.length cP, .int .i64 P.height, .int .i64 P.gap] 25)
  have B0 : Below w.heap.size w (w.alloc (.cells #[.slice AL P.lines.length cL, .slice AN P.notes.length cN, .slice AP P.pens.length cP, .int .i64 P.height, .int .i64 P.gap] 25)) := (Below.refl _ _).alloc (Nat.le_refl _) _
  have HE := hE.to B0 B0.size
  have HL := hL.to B0 B0.size
  have CG := Lib.hid (great_any AL AN AP cL cN cP P 10 _ S HR)
  by_cases g0 : great P 10 = true
  · have G := Lib.hid g0
    clear g0
    go_enter Try.func3, Try.ntmps3
    go_wp2_with fail
    refine CG.out.mono ?_
    rw [G.out]
    rintro e w1 ⟨rfl, hb1⟩
    go_wp2_with (go_at_call 16; refine (awake_any _).mono ?_; rintro e w2 ⟨rfl, hb2⟩)
    go_ret
    exact ⟨rfl, bthen (bthen B0 hb1) hb2⟩
  have g0 : great P 10 = false := by simpa using g0
  have G := Lib.hid g0
  clear g0
  by_cases g1 : 12 < ends.length
  · have d1 : decide ((12 : Int) < (ends.length : Int)) = true := by simp; omega
    go_enter Try.func3, Try.ntmps3
    go_wp2_with fail
    refine CG.out.mono ?_
    rw [G.out]
    rintro e w1 ⟨rfl, hb1⟩
    go_wp2_with (go_at_call 16; refine (awake_any _).mono ?_; rintro e w2 ⟨rfl, hb2⟩)
    go_ret
    exact ⟨rfl, bthen (bthen B0 hb1) hb2⟩
  have d1 : decide ((12 : Int) < (ends.length : Int)) = false := by simp; omega
  by_cases g2 : 12 < l.length
  · have d2 : decide ((12 : Int) < (l.length : Int)) = true := by simp; omega
    go_enter Try.func3, Try.ntmps3
    go_wp2_with fail
    refine CG.out.mono ?_
    rw [G.out]
    rintro e w1 ⟨rfl, hb1⟩
    go_wp2_with (go_at_call 16; refine (awake_any _).mono ?_; rintro e w2 ⟨rfl, hb2⟩)
    go_ret
    exact ⟨rfl, bthen (bthen B0 hb1) hb2⟩
  have d2 : decide ((12 : Int) < (l.length : Int)) = false := by simp; omega
  go_enter Try.func3, Try.ntmps3
  go_wp2_with fail
  refine CG.out.mono ?_
  rw [G.out]
  rintro e w1 ⟨rfl, hb1⟩
  obtain ⟨f0, f1, f2, f3, f4⟩ := box_cells hb1
  have HR1 := HR.to hb1 hb1.size
  have HE1 := HE.to hb1 hb1.size
  have HL1 := HL.to hb1 hb1.size
  have B1 := bthen B0 hb1
  clear HR HE HL hR hE hL hb1 B0 CG G d1 d2
  go_wp2_with fail
  refine (break_any AL AN AP cL cN cP P w1 S HR1).mono ?_
  rintro e w2 ⟨A1, c1, rfl, hI1, hb2⟩
  have K2 := Lib.hid hb2
  have g0 := kc hb2 f0
  have g1 := kc hb2 f1
  have g2 := kc hb2 f2
  have g3 := kc hb2 f3
  have g4 := kc hb2 f4
  clear f0 f1 f2 f3 f4 hb2
  go_wp2_with fail
  refine (breakRef_any AL AN AP cL cN cP P w2 S (HR1.to K2.out K2.out.size)).mono ?_
  rintro e w3 ⟨A2, c2, rfl, hI2, hb3⟩
  have K3 := Lib.hid hb3
  have f0 := kc hb3 g0
  have f1 := kc hb3 g1
  have f2 := kc hb3 g2
  have f3 := kc hb3 g3
  have f4 := kc hb3 g4
  clear g0 g1 g2 g3 g4 hb3
  go_wp2_with fail
  refine (Potentials_any AL AN AP cL cN cP P w3 S (HR1.to (bthen K2.out K3.out) (bthen K2.out K3.out).size)).mono ?_
  rintro e w4 ⟨A3, c3, rfl, hI3, hb4⟩
  have K4 := Lib.hid hb4
  have g0 := kc hb4 f0
  have g1 := kc hb4 f1
  have g2 := kc hb4 f2
  have g3 := kc hb4 f3
  have g4 := kc hb4 f4
  clear f0 f1 f2 f3 f4 hb4
  go_wp2_with fail
  refine (PotentialsRef_any AL AN AP cL cN cP P w4 S (HR1.to (bthen (bthen K2.out K3.out) K4.out) (bthen (bthen K2.out K3.out) K4.out).size)).mono ?_
  rintro e w5 ⟨A4, c4, rfl, hI4, hb5⟩
  have f0 := kc hb5 g0
  have f1 := kc hb5 g1
  have f2 := kc hb5 g2
  have f3 := kc hb5 g3
  have f4 := kc hb5 g4
  have B45 := hb5
  have B35 := bthen K4.out B45
  have B25 := bthen K3.out B35
  have B15 := bthen K2.out B25
  have hJ1 := hI1.to B25 B25.size
  have hJ2 := hI2.to B35 B35.size
  have hJ3 := hI3.to B45 B45.size
  have HR5 := HR1.to B15 B15.size
  have HE5 := HE1.to B15 B15.size
  have HL5 := HL1.to B15 B15.size
  have B5 := bthen B1 B15
  have hln1 : (breakL P).length ≤ 140737488355328 := Nat.le_trans (breakL_len P) (by decide)
  have hln2 : (potsL P).length ≤ 140737488355328 := Nat.le_trans (potsL_len P) (by decide)
  have E1 := Lib.hid (show ∀ W, Below w5.heap.size w5 W → Calls Try.prog 21 #[.slice A1 (breakL P).length c1, .slice A2 (breakL P).length c2] W fun e w' => e = .returned (.bool true) ∧ Below W.heap.size W w' from fun W hW => by
    have := equal_any A1 A2 c1 c2 (breakL P) (breakL P) W hln1 hln1 (hJ1.to hW hW.size) (hJ2.to hW hW.size)
    simpa using this)
  have E2 := Lib.hid (show ∀ W, Below w5.heap.size w5 W → Calls Try.prog 21 #[.slice A3 (potsL P).length c3, .slice A4 (potsL P).length c4] W fun e w' => e = .returned (.bool true) ∧ Below W.heap.size W w' from fun W hW => by
    have := equal_any A3 A4 c3 c4 (potsL P) (potsL P) W hln2 hln2 (hJ3.to hW hW.size) (hI4.to hW hW.size)
    simpa using this)
  have V1 := Lib.hid (show ∀ W, Below w5.heap.size w5 W → Calls Try.prog 22 #[.agg #[.slice AL P.lines.length cL, .slice AN P.notes.length cN, .slice AP P.pens.length cP, .int .i64 P.height, .int .i64 P.gap], .slice AE ends.length cE, .slice AL2 l.length cL2] W fun e w' => e = .returned (.int .i64 (verR P ends l)) ∧ Below W.heap.size W w' from fun W hW => by
    have := verify_any AL AN AP cL cN cP P AE cE ends AL2 cL2 l W S (HR5.to hW hW.size) (HE5.to hW hW.size) (by omega) (HL5.to hW hW.size) (by omega) hl64
    rw [ver_eq] at this
    exact this)
  have V2 := Lib.hid (show ∀ W, Below w5.heap.size w5 W → Calls Try.prog 23 #[.agg #[.slice AL P.lines.length cL, .slice AN P.notes.length cN, .slice AP P.pens.length cP, .int .i64 P.height, .int .i64 P.gap], .slice AE ends.length cE, .slice AL2 l.length cL2] W fun e w' => e = .returned (.int .i64 (verR P ends l)) ∧ Below W.heap.size W w' from fun W hW =>
    verifyRef_any AL AN AP cL cN cP P AE cE ends AL2 cL2 l W S (HR5.to hW hW.size) (HE5.to hW hW.size) (by omega) (HL5.to hW hW.size) (by omega))
  have CS := Lib.hid (show ∀ W, Below w5.heap.size w5 W → W.cell? ⟨w.heap.size, 0, none⟩ = some (.slice AL P.lines.length cL) ∧ W.cell? ⟨w.heap.size, 1, none⟩ = some (.slice AN P.notes.length cN) ∧ W.cell? ⟨w.heap.size, 2, none⟩ = some (.slice AP P.pens.length cP) ∧ W.cell? ⟨w.heap.size, 3, none⟩ = some (.int .i64 P.height) ∧ W.cell? ⟨w.heap.size, 4, none⟩ = some (.int .i64 P.gap) from fun W hW => ⟨kc hW f0, kc hW f1, kc hW f2, kc hW f3, kc hW f4⟩)
  clear g0 g1 g2 g3 g4 hb5 B45 B35 B25 B15 hJ1 hJ2 hJ3 HR5 HE5 HL5 HR1 HE1 HL1 hI1 hI2 hI3 hI4 B1 hln1 hln2
  have hB := (Below.refl w5.heap.size w5).drew
  go_wp2_with fail
  go_region_held3 (fun W => W.cell? ⟨w.heap.size, 0, none⟩ = some (.slice AL P.lines.length cL) ∧ W.cell? ⟨w.heap.size, 1, none⟩ = some (.slice AN P.notes.length cN) ∧ W.cell? ⟨w.heap.size, 2, none⟩ = some (.slice AP P.pens.length cP) ∧ W.cell? ⟨w.heap.size, 3, none⟩ = some (.int .i64 P.height) ∧ W.cell? ⟨w.heap.size, 4, none⟩ = some (.int .i64 P.gap))
    (first | (go_keep; done) | exact CS.out _ hB)
    (first
      | (go_at_call 21; refine (E1.out _ hB).mono ?_; clear E1; rintro e w7 ⟨rfl, b7⟩; have hB := bthen hB b7)
      | (go_at_call 21; refine (E2.out _ hB).mono ?_; rintro e w7 ⟨rfl, b7⟩; have hB := bthen hB b7)
      | (go_at_call 22; refine (V1.out _ hB).mono ?_; rintro e w7 ⟨rfl, b7⟩; have hB := bthen hB b7)
      | (go_at_call 23; refine (V2.out _ hB).mono ?_; rintro e w7 ⟨rfl, b7⟩; have hB := bthen hB b7)
      | (go_at_call 16; refine (awake_any _).mono ?_; rintro e w7 ⟨rfl, b7⟩; have hB := bthen hB b7))
  all_goals (go_wp2; go_ret; exact ⟨rfl, bthen B5 hB⟩)
end Go.Proofs.Ytemlljgldkkkgaa
