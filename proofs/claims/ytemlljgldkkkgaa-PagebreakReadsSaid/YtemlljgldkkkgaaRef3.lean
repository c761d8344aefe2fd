/- The reference's Height. -/
import Derived.Test.YtemlljgldkkkgaaRef1
import Derived.Test.YtemlljgldkkkgaaRef2
namespace Go.Proofs.Ytemlljgldkkkgaa
open Go.RowKit
/-- Height's two results -/
def heightC (P : PP) (x y : Int) : Int := if chk P ≠ 0 then 0 else if x < 0 ∨ y < x ∨ (P.lines.length : Int) < y then 0 else P.hgt x.toNat y.toNat
def heightE (P : PP) (x y : Int) : Int := if chk P ≠ 0 then 1 else if x < 0 ∨ y < x ∨ (P.lines.length : Int) < y then 2 else 0
theorem height_bad {P : PP} (h : chk P ≠ 0) (x y : Int) : heightC P x y = 0 ∧ heightE P x y = 1 := by unfold heightC heightE; rw [if_pos h, if_pos h]; exact ⟨rfl, rfl⟩
theorem height_out {P : PP} (h : chk P = 0) {x y : Int} (h2 : x < 0 ∨ y < x ∨ (P.lines.length : Int) < y) : heightC P x y = 0 ∧ heightE P x y = 2 := by
  unfold heightC heightE; rw [if_neg (show ¬ chk P ≠ 0 by simp [h]), if_neg (show ¬ chk P ≠ 0 by simp [h]), if_pos h2, if_pos h2]; exact ⟨rfl, rfl⟩
theorem height_in {P : PP} (h : chk P = 0) {a b : Nat} (h1 : a ≤ b) (h2 : b ≤ P.lines.length) : heightC P a b = P.hgt a b ∧ heightE P a b = 0 := by
  unfold heightC heightE; have e : ¬ ((a : Int) < 0 ∨ (b : Int) < (a : Int) ∨ (P.lines.length : Int) < (b : Int)) := by omega
  rw [if_neg (show ¬ chk P ≠ 0 by simp [h]), if_neg (show ¬ chk P ≠ 0 by simp [h]), if_neg e, if_neg e]; exact ⟨by simp, rfl⟩
theorem ret2 {a b c d : Int} (h1 : a = c) (h2 : b = d) : Ending.returned (.tuple #[.int .i64 a, .int .i64 b]) = .returned (.tuple #[.int .i64 c, .int .i64 d]) := by rw [h1, h2]
set_option maxRecDepth 100000 in
set_option maxHeartbeats 1600000 in
theorem HeightRef_any (AL AN AP : Option Addr) (cL cN cP : Nat) (P : PP) (x y : Int) (w : World) (S : Sz P) (hR : PPR w w.heap.size AL AN AP P) :
    Calls Try.prog 30 #[.agg #[.slice AL P.lines.length cL, .slice AN P.notes.length cN, .slice AP P.pens.length cP, .int .i64 P.height, .int .i64 P.gap], .int .i64 x, .int .i64 y] w fun e w' => e = .returned (.tuple #[.int .i64 (heightC P x y), .int .i64 (heightE P x y)]) ∧ Below w.heap.size w w' := by
  have HR := hR.alloc (.cells #[.slice AL P.lines.length cL, .slice AN P.notes.length cN, .slice AP P.pens.length cP, .int .i64 P.height, .int .i64 P.gap] 25)
  have B0 : Below w.heap.size w (w.alloc (.cells #[.slice AL P.lines.length cL, .slice AN P.notes.length cN, .slice AP P.pens.length cP, .int .i64 P.height, .int .i64 P.gap] 25)) := (Below.refl _ _).alloc (Nat.le_refl _) _
  have z1 := S.l
  have CK := Lib.hid (checkRef_any AL AN AP cL cN cP P (w.alloc (.cells #[.slice AL P.lines.length cL, .slice AN P.notes.length cN, .slice AP P.pens.length cP, .int .i64 P.height, .int .i64 P.gap] 25)) S HR)
  by_cases h0 : chk P = 0
  · have F := chk_fine h0
    have h0' : (chk P != 0) = false := by simp [h0]
    by_cases hx : x < 0
    · have HE := Lib.hid (height_out h0 (x := x) (y := y) (.inl hx))
      clear h0
      go_enter Try.func30, Try.ntmps30
      go_wp2_with (go_at_call 35; refine CK.out.mono ?_; rintro e w1 ⟨rfl, hb1⟩; obtain ⟨d0, d1, d2, d3, d4⟩ := box_cells hb1)
      go_ret2
      exact ⟨ret2 HE.out.1.symm HE.out.2.symm, B0.trans (hb1.mono (by simp))⟩
    by_cases hxy : y < x
    · have HE := Lib.hid (height_out h0 (x := x) (y := y) (.inr (.inl hxy)))
      clear h0
      go_enter Try.func30, Try.ntmps30
      go_wp2_with (go_at_call 35; refine CK.out.mono ?_; rintro e w1 ⟨rfl, hb1⟩; obtain ⟨d0, d1, d2, d3, d4⟩ := box_cells hb1)
      go_ret2
      exact ⟨ret2 HE.out.1.symm HE.out.2.symm, B0.trans (hb1.mono (by simp))⟩
    by_cases hy : (P.lines.length : Int) < y
    · have HE := Lib.hid (height_out h0 (x := x) (y := y) (.inr (.inr hy)))
      clear h0
      go_enter Try.func30, Try.ntmps30
      go_wp2_with (go_at_call 35; refine CK.out.mono ?_; rintro e w1 ⟨rfl, hb1⟩; obtain ⟨d0, d1, d2, d3, d4⟩ := box_cells hb1)
      go_ret2
      exact ⟨ret2 HE.out.1.symm HE.out.2.symm, B0.trans (hb1.mono (by simp))⟩
    obtain ⟨a, rfl⟩ := Int.eq_ofNat_of_zero_le (show 0 ≤ x by omega)
    obtain ⟨b, rfl⟩ := Int.eq_ofNat_of_zero_le (show 0 ≤ y by omega)
    have HE := Lib.hid (height_in h0 (a := a) (b := b) (by omega) (by omega))
    have HH := Lib.hid (fun w hR => heightRef_any AL AN AP cL cN cP P a b w F hR (by omega) (by omega))
    clear h0
    go_enter Try.func30, Try.ntmps30
    go_wp2_with (go_at_call 35; refine CK.out.mono ?_; rintro e w1 ⟨rfl, hb1⟩; obtain ⟨d0, d1, d2, d3, d4⟩ := box_cells hb1)
    refine (HH.out _ (HR.to hb1 hb1.size)).mono ?_
    rintro e w2 ⟨rfl, hb2⟩
    go_wp2
    go_ret2
    exact ⟨ret2 HE.out.1.symm HE.out.2.symm, (B0.trans (hb1.mono (by simp))).trans (hb2.mono (B0.trans (hb1.mono (by simp))).size)⟩
  · have h0' : (chk P != 0) = true := by simp [h0]
    have HE := Lib.hid (height_bad h0 x y)
    clear h0
    go_enter Try.func30, Try.ntmps30
    go_wp2_with (go_at_call 35; refine CK.out.mono ?_; rintro e w1 ⟨rfl, hb1⟩)
    go_ret2
    exact ⟨ret2 HE.out.1.symm HE.out.2.symm, B0.trans (hb1.mono (by simp))⟩
end Go.Proofs.Ytemlljgldkkkgaa
