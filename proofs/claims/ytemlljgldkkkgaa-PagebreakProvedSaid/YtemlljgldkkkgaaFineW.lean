/- The law's fine: a valid page problem of at most ten lines. No condition beyond the reach. -/
import Derived.Test.YtemlljgldkkkgaaChk
import Derived.Test.YtemlljgldkkkgaaGreat
import Derived.Test.YtemlljgldkkkgaaBest
namespace Go.Proofs.Ytemlljgldkkkgaa
open Go.RowKit Go.Shelf
def fineB (P : PP) : Bool := decide (P.lines.length ≤ 10) && (!great P 10 && decide (chk P = 0))
set_option maxRecDepth 100000 in
set_option maxHeartbeats 1600000 in
theorem fine_any (AL AN AP : Option Addr) (cL cN cP : Nat) (P : PP) (w : World) (S : Sz P) (hR : PPR w w.heap.size AL AN AP P) :
    Calls Try.prog 24 #[.agg #[.slice AL P.lines.length cL, .slice AN P.notes.length cN, .slice AP P.pens.length cP, .int .i64 P.height, .int .i64 P.gap]] w fun e w' => e = .returned (.bool (fineB P)) ∧ Below w.heap.size w w' := by
  have HR := hR.alloc (.cells #[.slice AL P.lines.length cL, .slice AN P.notes.length cN, .slice AP P.pens.length cP, .int .i64 P.height, .int .i64 P.gap] 25)
  have B0 : Below w.heap.size w (w.alloc (.cells #[.slice AL P.lines.length cL, .slice AN P.notes.length cN, .slice AP P.pens.length cP, .int .i64 P.height, .int .i64 P.gap] 25)) := (Below.refl _ _).alloc (Nat.le_refl _) _
  have CG := Lib.hid (great_any AL AN AP cL cN cP P 10 _ S HR)
  by_cases a1 : P.lines.length ≤ 10
  rotate_left
  · have b1 : decide ((P.lines.length : Int) ≤ 10) = false := by simp; omega
    have HQ := Lib.hid (show fineB P = false by unfold fineB; simp [a1])
    go_enter Try.func24, Try.ntmps24
    go_wp2
    go_ret
    exact ⟨ret_bool HQ.out.symm, B0⟩
  have b1 : decide ((P.lines.length : Int) ≤ 10) = true := by simp; omega
  by_cases a2 : great P 10 = true
  · have HQ := Lib.hid (show fineB P = false by unfold fineB; simp [a2])
    have G := Lib.hid a2
    clear a2
    go_enter Try.func24, Try.ntmps24
    go_wp2_with fail
    refine CG.out.mono ?_
    rw [G.out]
    rintro e w1 ⟨rfl, hb1⟩
    go_wp2
    go_ret
    exact ⟨ret_bool HQ.out.symm, bthen B0 hb1⟩
  have a2 : great P 10 = false := by simpa using a2
  by_cases a3 : chk P = 0
  · have b3 : (chk P == 0) = true := by simp [a3]
    have HQ := Lib.hid (show fineB P = true by unfold fineB; simp [a1, a2, a3])
    have G := Lib.hid a2
    clear a2 a3
    go_enter Try.func24, Try.ntmps24
    go_wp2_with fail
    refine CG.out.mono ?_
    rw [G.out]
    rintro e w1 ⟨rfl, hb1⟩
    obtain ⟨f0, f1, f2, f3, f4⟩ := box_cells hb1
    have HR1 := HR.to hb1 hb1.size
    go_wp2_with fail
    refine (check_any AL AN AP cL cN cP P w1 S HR1).mono ?_
    rintro e w2 ⟨rfl, hb2⟩
    go_wp2
    go_ret
    exact ⟨ret_bool HQ.out.symm, bthen (bthen B0 hb1) hb2⟩
  · have b3 : (chk P == 0) = false := by simp [a3]
    have HQ := Lib.hid (show fineB P = false by unfold fineB; simp [a3])
    have G := Lib.hid a2
    clear a2 a3
    go_enter Try.func24, Try.ntmps24
    go_wp2_with fail
    refine CG.out.mono ?_
    rw [G.out]
    rintro e w1 ⟨rfl, hb1⟩
    obtain ⟨f0, f1, f2, f3, f4⟩ := box_cells hb1
    have HR1 := HR.to hb1 hb1.size
    go_wp2_with fail
    refine (check_any AL AN AP cL cN cP P w1 S HR1).mono ?_
    rintro e w2 ⟨rfl, hb2⟩
    go_wp2
    go_ret
    exact ⟨ret_bool HQ.out.symm, bthen (bthen B0 hb1) hb2⟩
end Go.Proofs.Ytemlljgldkkkgaa
