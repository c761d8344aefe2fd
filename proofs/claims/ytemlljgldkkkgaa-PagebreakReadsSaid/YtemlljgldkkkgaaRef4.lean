/- The reference's cost of a page. -/
import Derived.Test.YtemlljgldkkkgaaRef3
import Derived.Deep.RegionHeld3
namespace Go.Proofs.Ytemlljgldkkkgaa
open Go.RowKit
theorem badnessRef_at (x y : Int) (c t : Nat) (w : World) (hx : x = (c : Int)) (hy : y = (t : Int)) (hc : c ≤ 1073741824) (ht : t ≤ 1073741824) (h1 : 1 ≤ t) :
    Calls Try.prog 95 #[.int .i64 x, .int .i64 y] w fun e w' => e = .returned (.int .i64 (bad c t : Int)) ∧ Below w.heap.size w w' := by
  subst hx hy
  exact badnessRef_any c t w hc ht h1
theorem pageE_22 {P : PP} {a b : Nat} (h : P.height < P.hgt a b) : P.pageC a b = 0 ∧ P.pageE a b = 22 := by unfold PP.pageC PP.pageE; rw [if_pos h, if_pos h]; exact ⟨rfl, rfl⟩
theorem pageE_last {P : PP} {a b : Nat} (h : ¬ P.height < P.hgt a b) (h2 : b = P.lines.length) : P.pageC a b = 0 ∧ P.pageE a b = 0 := by
  unfold PP.pageC PP.pageE; rw [if_neg h, if_neg h, if_pos h2, if_pos h2]; exact ⟨rfl, rfl⟩
theorem pageE_23 {P : PP} {a b : Nat} (h : ¬ P.height < P.hgt a b) (h2 : ¬ b = P.lines.length) (h3 : 10000 ≤ P.pen (b - 1)) : P.pageC a b = 0 ∧ P.pageE a b = 23 := by
  unfold PP.pageC PP.pageE; rw [if_neg h, if_neg h, if_neg h2, if_neg h2, if_pos h3, if_pos h3]; exact ⟨rfl, rfl⟩
theorem pageE_0 {P : PP} {a b : Nat} (h : ¬ P.height < P.hgt a b) (h2 : ¬ b = P.lines.length) (h3 : ¬ 10000 ≤ P.pen (b - 1)) : P.pageC a b = (bad (P.height - P.hgt a b).toNat P.height.toNat : Int) + P.pen (b - 1) ∧ P.pageE a b = 0 := by
  unfold PP.pageC PP.pageE; rw [if_neg h, if_neg h, if_neg h2, if_neg h2, if_neg h3, if_neg h3]; exact ⟨rfl, rfl⟩
set_option maxRecDepth 100000 in
set_option maxHeartbeats 1600000 in
theorem pageRef_any (AL AN AP : Option Addr) (cL cN cP : Nat) (P : PP) (a b : Nat) (w : World) (F : Fine P) (hR : PPR w w.heap.size AL AN AP P) (hab : a ≤ b) (hb : b ≤ P.lines.length) (hb1 : 1 ≤ b) :
    Calls Try.prog 63 #[.agg #[.slice AL P.lines.length cL, .slice AN P.notes.length cN, .slice AP P.pens.length cP, .int .i64 P.height, .int .i64 P.gap], .int .i64 (a : Int), .int .i64 (b : Int)] w fun e w' => e = .returned (.tuple #[.int .i64 (P.pageC a b), .int .i64 (P.pageE a b)]) ∧ Below w.heap.size w w' := by
  have HR := hR.alloc (.cells #[.slice AL P.lines.length cL, .slice AN P.notes.length cN, .slice AP P.pens.length cP, .int .i64 P.height, .int .i64 P.gap] 25)
  have B0 : Below w.heap.size w (w.alloc (.cells #[.slice AL P.lines.length cL, .slice AN P.notes.length cN, .slice AP P.pens.length cP, .int .i64 P.height, .int .i64 P.gap] 25)) := (Below.refl _ _).alloc (Nat.le_refl _) _
  have hn := F.ln
  have hh := F.hgt_bd hab hb
  have hg1 := F.h1
  have hg2 := F.h2
  have HH := Lib.hid (heightRef_any AL AN AP cL cN cP P a b _ F HR hab hb)
  by_cases e1 : P.height < P.hgt a b
  · have HE := Lib.hid (pageE_22 e1)
    go_enter Try.func63, Try.ntmps63
    go_wp2_with (go_at_call 68; refine HH.out.mono ?_; rintro e w1 ⟨rfl, hb1⟩; obtain ⟨d0, d1, d2, d3, d4⟩ := box_cells hb1)
    go_ret2
    exact ⟨ret2 HE.out.1.symm HE.out.2.symm, B0.trans (hb1.mono (by simp))⟩
  by_cases e2 : b = P.lines.length
  · have HE := Lib.hid (pageE_last e1 e2)
    have e2' : ((b : Int) == (P.lines.length : Int)) = true := by simp [e2]
    clear e2
    go_enter Try.func63, Try.ntmps63
    go_wp2_with (go_at_call 68; refine HH.out.mono ?_; rintro e w1 ⟨rfl, hb1⟩; obtain ⟨d0, d1, d2, d3, d4⟩ := box_cells hb1)
    go_ret2
    exact ⟨ret2 HE.out.1.symm HE.out.2.symm, B0.trans (hb1.mono (by simp))⟩
  have e2' : ((b : Int) == (P.lines.length : Int)) = false := by simp; omega
  have hpl : P.lines.length ≤ P.pens.length := Nat.le_of_eq F.pl.symm
  obtain ⟨bp, op, rfl, hbp, hcp0⟩ := HR.pen_at (k := b - 1) (by omega)
  have hwb : ((b : Int) - 1) = ((b - 1 : Nat) : Int) := by omega
  have hwb2 : IntKind.i64.wrap ((b - 1 : Nat) : Int) = ((b - 1 : Nat) : Int) := by rw [IntKind.wrap_i64]; omega
  by_cases e3 : 10000 ≤ P.pen (b - 1)
  · have HE := Lib.hid (pageE_23 e1 e2 e3)
    have HC := Lib.hid hcp0
    clear hcp0
    go_enter Try.func63, Try.ntmps63
    go_wp2_with (go_at_call 68; refine HH.out.mono ?_; rintro e w1 ⟨rfl, hb1⟩; obtain ⟨d0, d1, d2, d3, d4⟩ := box_cells hb1; have dp := kc hb1 HC.out)
    go_ret2
    exact ⟨ret2 HE.out.1.symm HE.out.2.symm, B0.trans (hb1.mono (by simp))⟩
  have HE := Lib.hid (pageE_0 e1 e2 e3)
  have HC := Lib.hid hcp0
  clear hcp0
  go_enter Try.func63, Try.ntmps63
  go_wp2_with (go_at_call 68; refine HH.out.mono ?_; rintro e w1 ⟨rfl, hb1⟩; obtain ⟨d0, d1, d2, d3, d4⟩ := box_cells hb1; have dp := kc hb1 HC.out)
  have HX := Lib.hid (show IntKind.i64.wrap (P.height - P.hgt a b) = ((P.height - P.hgt a b).toNat : Int) by rw [IntKind.wrap_i64]; omega)
  have HY := Lib.hid (show P.height = (P.height.toNat : Int) by omega)
  have hpb := F.pen_bd (b - 1)
  have hbl := bad_le (P.height - P.hgt a b).toNat P.height.toNat
  have i1 : (0 : Int) ≤ ((b - 1 : Nat) : Int) := by omega
  have i2 : ((b - 1 : Nat) : Int) < (P.pens.length : Int) := by omega
  have HW := Lib.hid (show IntKind.i64.wrap ((bad (P.height - P.hgt a b).toNat P.height.toNat : Int) + P.pen (b - 1)) = (bad (P.height - P.hgt a b).toNat P.height.toNat : Int) + P.pen (b - 1) by rw [IntKind.wrap_i64]; omega)
  go_region_held3 (fun w' => w'.cell? ⟨w.heap.size, 3, none⟩ = some (.int .i64 P.height) ∧ w'.cell? ⟨w.heap.size, 2, none⟩ = some (.slice (some ⟨bp, op, none⟩) P.pens.length cP) ∧ w'.cell? ⟨bp, op + (b - 1), none⟩ = some (.int .i64 (P.pen (b - 1)))) (first | go_keep | exact ⟨kc b7 d3, kc b7 d2, kc b7 dp⟩)
    (first | (go_at_call 95; refine (badnessRef_at _ _ (P.height - P.hgt a b).toNat P.height.toNat _ HX.out HY.out (by omega) (by omega) (by omega)).mono ?_; rintro e w7 ⟨rfl, b7⟩))
  go_wp2
  go_ret2
  exact ⟨ret2 (HW.out.trans HE.out.1.symm) HE.out.2.symm, bthen (bthen B0 hb1).drew b7⟩
end Go.Proofs.Ytemlljgldkkkgaa
