/- PagebreakReads returns true: the walk. No condition beyond the sizes of slices. -/
import Derived.Test.YtemlljgldkkkgaaPenal
import Derived.Test.YtemlljgldkkkgaaAwake
import Derived.Test.YtemlljgldkkkgaaLaw3
namespace Go.Proofs.Ytemlljgldkkkgaa
open Go.RowKit Go.Shelf
set_option maxRecDepth 100000 in
set_option maxHeartbeats 6400000 in
theorem PagebreakReads_any (AL AN AP : Option Addr) (cL cN cP : Nat) (P : PP) (x y : Int) (AE : Option Addr) (cE : Nat) (ends : List Int) (n wi o : Int) (w : World) (S : Sz P) (hR : PPR w w.heap.size AL AN AP P) (hE : IntsR w w.heap.size AE ends) :
    Calls Try.prog 6 #[.agg #[.slice AL P.lines.length cL, .slice AN P.notes.length cN, .slice AP P.pens.length cP, .int .i64 P.height, .int .i64 P.gap], .int .i64 x, .int .i64 y, .slice AE ends.length cE, .int .i64 n, .int .i64 wi, .int .i64 o] w fun e w' => e = .returned (.bool true) ∧ Below w.heap.size w w' := by
  have HR := hR.alloc (.cells #[.slice AL P.lines.length cL, .slice AN P.notes.length cN, .slice AP P.pens.length cP, .int .i64 P.height, .int .i64 P.gap] 25)
  have B0 : Below w.heap.size w (w.alloc (.cells #[.slice AL P.lines.length cL, .slice AN P.notes.length cN, .slice AP P.pens.length cP, .int .i64 P.height, .int .i64 P.gap] 25)) := (Below.refl _ _).alloc (Nat.le_refl _) _
  have HE := hE.to B0 B0.size
  have CG := Lib.hid (great_any AL AN AP cL cN cP P 10 _ S HR)
  by_cases g0 : great P 10 = true
  · have G := Lib.hid g0
    clear g0
    go_enter Try.func6, Try.ntmps6
    go_wp2_with fail
    refine CG.out.mono ?_
    rw [G.out]
    rintro e w1 ⟨rfl, hb1⟩
    go_wp2_with (go_at_call 16; refine (awake_any _).mono ?_; rintro e w2 ⟨rfl, hb2⟩)
    go_ret
    exact ⟨rfl, bthen (bthen B0 hb1) hb2⟩
  have g0 : great P 10 = false := by simpa using g0
  have G := Lib.hid g0
  clear g0
  by_cases g1 : 12 < ends.length
  · have d1 : decide ((12 : Int) < (ends.length : Int)) = true := by simp; omega
    go_enter Try.func6, Try.ntmps6
    go_wp2_with fail
    refine CG.out.mono ?_
    rw [G.out]
    rintro e w1 ⟨rfl, hb1⟩
    go_wp2_with (go_at_call 16; refine (awake_any _).mono ?_; rintro e w2 ⟨rfl, hb2⟩)
    go_ret
    exact ⟨rfl, bthen (bthen B0 hb1) hb2⟩
  have d1 : decide ((12 : Int) < (ends.length : Int)) = false := by simp; omega
  go_enter Try.func6, Try.ntmps6
  go_wp2_with fail
  refine CG.out.mono ?_
  rw [G.out]
  rintro e w1 ⟨rfl, hb1⟩
  obtain ⟨f0, f1, f2, f3, f4⟩ := box_cells hb1
  have HR1 := HR.to hb1 hb1.size
  have HE1 := HE.to hb1 hb1.size
  have B1 := bthen B0 hb1
  clear HR HE hR hE hb1 B0 CG G d1
  go_wp2_with fail
  refine (Height_any AL AN AP cL cN cP P x y w1 S HR1).mono ?_
  rintro e w2 ⟨rfl, hb2⟩
  have K2 := Lib.hid hb2
  have g0 := kc hb2 f0
  have g1 := kc hb2 f1
  have g2 := kc hb2 f2
  have g3 := kc hb2 f3
  have g4 := kc hb2 f4
  clear f0 f1 f2 f3 f4 hb2
  go_wp2_with fail
  refine (HeightRef_any AL AN AP cL cN cP P x y w2 S (HR1.to K2.out K2.out.size)).mono ?_
  rintro e w3 ⟨rfl, hb3⟩
  have K3 := Lib.hid (bthen K2.out hb3)
  have f0 := kc hb3 g0
  have f1 := kc hb3 g1
  have f2 := kc hb3 g2
  have f3 := kc hb3 g3
  have f4 := kc hb3 g4
  clear g0 g1 g2 g3 g4 hb3
  go_wp2_with fail
  refine (cost_any AL AN AP cL cN cP P AE cE ends w3 S (HR1.to K3.out K3.out.size) (HE1.to K3.out K3.out.size) (by omega)).mono ?_
  rintro e w4 ⟨rfl, hb4⟩
  have K4 := Lib.hid (bthen K3.out hb4)
  have g0 := kc hb4 f0
  have g1 := kc hb4 f1
  have g2 := kc hb4 f2
  have g3 := kc hb4 f3
  have g4 := kc hb4 f4
  clear f0 f1 f2 f3 f4 hb4
  go_wp2_with fail
  refine (costRef_any AL AN AP cL cN cP P AE cE ends w4 S (HR1.to K4.out K4.out.size) (HE1.to K4.out K4.out.size) (by omega)).mono ?_
  rintro e w5 ⟨rfl, hb5⟩
  have K5 := Lib.hid (bthen K4.out hb5)
  have f0 := kc hb5 g0
  have f1 := kc hb5 g1
  have f2 := kc hb5 g2
  have f3 := kc hb5 g3
  have f4 := kc hb5 g4
  clear g0 g1 g2 g3 g4 hb5
  go_wp2_with fail
  refine (Penalties_any AE cE ends n wi o w5 (HE1.to K5.out K5.out.size) (by omega)).mono ?_
  rintro e w6 ⟨A1, c1, rfl, hI1, hb6⟩
  have K6 := Lib.hid (bthen K5.out hb6)
  have g0 := kc hb6 f0
  have g1 := kc hb6 f1
  have g2 := kc hb6 f2
  have g3 := kc hb6 f3
  have g4 := kc hb6 f4
  clear f0 f1 f2 f3 f4 hb6
  go_wp2_with fail
  refine (PenaltiesRef_any AE cE ends n wi o w6 (HE1.to K6.out K6.out.size) (by omega)).mono ?_
  rintro e w7 ⟨A2, c2, rfl, hI2, hb7⟩
  have K7 := Lib.hid (bthen K6.out hb7)
  have f0 := kc hb7 g0
  have f1 := kc hb7 g1
  have f2 := kc hb7 g2
  have f3 := kc hb7 g3
  have f4 := kc hb7 g4
  have hJ1 := hI1.to hb7 hb7.size
  have HR7 := HR1.to K7.out K7.out.size
  have B7 := Lib.hid (bthen B1 K7.out)
  have hln : (penL n ends wi o).length ≤ 140737488355328 := Nat.le_trans (penL_len _ _ _ _) (by decide)
  have E1 := Lib.hid (show ∀ W, Below w7.heap.size w7 W → Calls Try.prog 21 #[.slice A1 (penL n ends wi o).length c1, .slice A2 (penL n ends wi o).length c2] W fun e w' => e = .returned (.bool true) ∧ Below W.heap.size W w' from fun W hW => by
    have := equal_any A1 A2 c1 c2 (penL n ends wi o) (penL n ends wi o) W hln hln (hJ1.to hW hW.size) (hI2.to hW hW.size)
    simpa using this)
  have V1 := Lib.hid (show ∀ W, Below w7.heap.size w7 W → Calls Try.prog 34 #[.agg #[.slice AL P.lines.length cL, .slice AN P.notes.length cN, .slice AP P.pens.length cP, .int .i64 P.height, .int .i64 P.gap]] W fun e w' => e = .returned (.int .i64 (chk P)) ∧ Below W.heap.size W w' from fun W hW =>
    check_any AL AN AP cL cN cP P W S (HR7.to hW hW.size))
  have V2 := Lib.hid (show ∀ W, Below w7.heap.size w7 W → Calls Try.prog 35 #[.agg #[.slice AL P.lines.length cL, .slice AN P.notes.length cN, .slice AP P.pens.length cP, .int .i64 P.height, .int .i64 P.gap]] W fun e w' => e = .returned (.int .i64 (chk P)) ∧ Below W.heap.size W w' from fun W hW =>
    checkRef_any AL AN AP cL cN cP P W S (HR7.to hW hW.size))
  have CS := Lib.hid (show ∀ W, Below w7.heap.size w7 W → W.cell? ⟨w.heap.size, 0, none⟩ = some (.slice AL P.lines.length cL) ∧ W.cell? ⟨w.heap.size, 1, none⟩ = some (.slice AN P.notes.length cN) ∧ W.cell? ⟨w.heap.size, 2, none⟩ = some (.slice AP P.pens.length cP) ∧ W.cell? ⟨w.heap.size, 3, none⟩ = some (.int .i64 P.height) ∧ W.cell? ⟨w.heap.size, 4, none⟩ = some (.int .i64 P.gap) from fun W hW => ⟨kc hW f0, kc hW f1, kc hW f2, kc hW f3, kc hW f4⟩)
  clear g0 g1 g2 g3 g4 hb7 hJ1 HR7 HR1 HE1 hI1 hI2 B1 hln K2 K3 K4 K5 K6 K7
  have hB := (Below.refl w7.heap.size w7).drew
  have t1 : (chk P == chk P) = true := beq_self_eq_true _
  have t2 : (heightC P x y == heightC P x y) = true := beq_self_eq_true _
  have t3 : (heightE P x y == heightE P x y) = true := beq_self_eq_true _
  have t4 : (costC P ends == costC P ends) = true := beq_self_eq_true _
  have t5 : (costE P ends == costE P ends) = true := beq_self_eq_true _
  have t6 : (penE n ends wi o == penE n ends wi o) = true := beq_self_eq_true _
  go_wp2_with fail
  go_region_held3 (fun W => W.cell? ⟨w.heap.size, 0, none⟩ = some (.slice AL P.lines.length cL) ∧ W.cell? ⟨w.heap.size, 1, none⟩ = some (.slice AN P.notes.length cN) ∧ W.cell? ⟨w.heap.size, 2, none⟩ = some (.slice AP P.pens.length cP) ∧ W.cell? ⟨w.heap.size, 3, none⟩ = some (.int .i64 P.height) ∧ W.cell? ⟨w.heap.size, 4, none⟩ = some (.int .i64 P.gap))
    (first | (go_keep; done) | exact CS.out _ hB)
    (first
      | (go_at_call 21; refine (E1.out _ hB).mono ?_; clear E1; rintro e w8 ⟨rfl, b8⟩; have hB := bthen hB b8)
      | (go_at_call 34; refine (V1.out _ hB).mono ?_; rintro e w8 ⟨rfl, b8⟩; have hB := bthen hB b8)
      | (go_at_call 35; refine (V2.out _ hB).mono ?_; rintro e w8 ⟨rfl, b8⟩; have hB := bthen hB b8)
      | (go_at_call 16; refine (awake_any _).mono ?_; rintro e w8 ⟨rfl, b8⟩; have hB := bthen hB b8))
  all_goals (go_wp2; go_ret; exact ⟨rfl, bthen B7.out hB⟩)
end Go.Proofs.Ytemlljgldkkkgaa
