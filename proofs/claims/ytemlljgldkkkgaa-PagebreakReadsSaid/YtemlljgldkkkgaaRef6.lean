/- The reference's potentials. -/
import Derived.Test.YtemlljgldkkkgaaRef4
import Derived.Test.YtemlljgldkkkgaaSpec3
import Derived.Deep.OwnRows
namespace Go.Proofs.Ytemlljgldkkkgaa
open Go.RowKit
/-- the table while line i is worked on: m pages seen -/
def potM (P : PP) (i m : Nat) : Nat → Int := fun j => if j = i then relax P (potA P (i + 1)) i m else potA P (i + 1) j
theorem potM_zero (P : PP) (i : Nat) : potM P i 0 = fun j => if j = i then -1 else potA P (i + 1) j := rfl
theorem potM_full {P : PP} {i m : Nat} (h : i < P.lines.length) (hm : relax P (potA P (i + 1)) i m = relax P (potA P (i + 1)) i (P.lines.length - i)) : potM P i m = potA P i := by
  rw [potA_step P h]; funext j; unfold potM; rw [hm]
theorem potM_at {P : PP} {i m q : Nat} (h : q ≠ i) : potM P i m q = potA P (i + 1) q := by unfold potM; rw [if_neg h]
theorem potM_i {P : PP} {i m : Nat} : potM P i m i = relax P (potA P (i + 1)) i m := by unfold potM; rw [if_pos rfl]
theorem potM_skip {P : PP} {i m : Nat} (h : relax P (potA P (i + 1)) i (m + 1) = relax P (potA P (i + 1)) i m) : potM P i m = potM P i (m + 1) := by
  funext j; unfold potM; rw [h]
theorem potM_take {P : PP} {i m : Nat} {X : Int} (h : relax P (potA P (i + 1)) i (m + 1) = X) (j : Nat) : (if j = i then Value.int .i64 X else .int .i64 (potM P i m j)) = .int .i64 (potM P i (m + 1) j) := by
  unfold potM; rw [h]; split <;> rfl
theorem rowBelow {w w' : World} {b n : Nat} {t : TypeId} {f : Nat → Value} (h : w.rowIs b t n f) (hb : Below w.heap.size w w') : w'.rowIs b t n f := h.of_block (hb.block b h.lt)
theorem relax_fill {P : PP} (F : Fine P) {v : Nat → Int} {i m n : Nat} (hm : m ≤ n) (h : P.pageE i (i + 1 + m) = 22) : relax P v i m = relax P v i n := by
  obtain ⟨d, rfl⟩ : ∃ d, n = m + d := ⟨n - m, by omega⟩
  exact (relax_stop F h d).symm
set_option maxRecDepth 100000 in
set_option maxHeartbeats 3200000 in
theorem potentialsRef_any (AL AN AP : Option Addr) (cL cN cP : Nat) (P : PP) (w : World) (F : Fine P) (hR : PPR w w.heap.size AL AN AP P) :
    Calls Try.prog 62 #[.agg #[.slice AL P.lines.length cL, .slice AN P.notes.length cN, .slice AP P.pens.length cP, .int .i64 P.height, .int .i64 P.gap]] w fun e w' => (∃ g, e = .returned (.slice (some ⟨g, 0, none⟩) (P.lines.length + 1) (P.lines.length + 1)) ∧ w.heap.size ≤ g ∧ w'.rowIs g 3 (P.lines.length + 1) (fun j => .int .i64 (pot P j))) ∧ Below w.heap.size w w' := by
  have HR := hR.alloc (.cells #[.slice AL P.lines.length cL, .slice AN P.notes.length cN, .slice AP P.pens.length cP, .int .i64 P.height, .int .i64 P.gap] 25)
  have B0 : Below w.heap.size w (w.alloc (.cells #[.slice AL P.lines.length cL, .slice AN P.notes.length cN, .slice AP P.pens.length cP, .int .i64 P.height, .int .i64 P.gap] 25)) := (Below.refl _ _).alloc (Nat.le_refl _) _
  have hln := F.ln
  have hmk := run_make_row' (P := Try.prog) 22 3 (.int .i64 0) 8 Try.underlying22 int_info rfl .i64 .i64 (P.lines.length + 1) (by omega) (by omega)
  have ec : ((P.lines.length + 1 : Nat) : Int) = (P.lines.length : Int) + 1 := by omega
  rw [ec] at hmk
  clear ec
  go_enter Try.func62, Try.ntmps62
  go_wp2_with fail
  clear hmk
  go_loopw [5] (fun i wr => ∃ z : Int, i = .int .i64 z ∧ -1 ≤ z ∧ z + 1 ≤ P.lines.length ∧ Below (w.alloc (.cells #[.slice AL P.lines.length cL, .slice AN P.notes.length cN, .slice AP P.pens.length cP, .int .i64 P.height, .int .i64 P.gap] 25)).heap.size (w.alloc (.cells #[.slice AL P.lines.length cL, .slice AN P.notes.length cN, .slice AP P.pens.length cP, .int .i64 P.height, .int .i64 P.gap] 25)) wr ∧ wr.rowIs (w.heap.size + 1) 3 (P.lines.length + 1) (fun j => .int .i64 (potA P (z + 1).toNat j))) (fun i _ => (intOf i + 1).toNat)
  case atStart =>
    refine ⟨_, rfl, by omega, by omega, (Below.refl _ _).alloc (by simp) _, ?_⟩
    have := World.rowIs_made (w.alloc (.cells #[.slice AL P.lines.length cL, .slice AN P.notes.length cN, .slice AP P.pens.length cP, .int .i64 P.height, .int .i64 P.gap] 25)) (.int .i64 0) (P.lines.length + 1) 3
    simp only [World.size_alloc] at this
    refine this.congr (fun j _ => ?_)
    rw [potA_end P (by omega)]
  case round =>
    obtain ⟨z, rfl, hz0, hz1, hb, hrow⟩ := hrel
    by_cases hz : 0 ≤ z
    · obtain ⟨i, rfl⟩ := Int.eq_ofNat_of_zero_le hz
      have hi : i < P.lines.length := by omega
      rw [show ((i : Int) + 1).toNat = i + 1 by omega] at hrow
      have hci := hrow.cell (i := i) (by omega)
      have hfi := hrow.frozen i
      have HROW := Lib.hid (hrow.set i (.int .i64 (-1)))
      clear hrow
      go_wp2_with fail
      clear hci hfi
      have hb1 := hb.setCell (p := ⟨w.heap.size + 1, i, none⟩) (by simp) (.int .i64 (-1))
      have hrow1 : (wr.setCell ⟨w.heap.size + 1, i, none⟩ (.int .i64 (-1))).rowIs (w.heap.size + 1) 3 (P.lines.length + 1) (fun j => .int .i64 (potM P i 0 j)) := HROW.out.congr (fun j _ => by show _ = Value.int IntKind.i64 (if j = i then -1 else potA P (i + 1) j); split <;> rfl)
      clear HROW hb
      obtain ⟨w3, hw3⟩ : ∃ w3, wr.setCell ⟨w.heap.size + 1, i, none⟩ (.int .i64 (-1)) = w3 := ⟨_, rfl⟩
      rw [hw3] at hb1 hrow1
      rw [hw3]
      clear hw3
      go_loopw [6] (fun j wr => ∃ q m : Nat, j = .int .i64 q ∧ Hid (q = i + 1 + m) ∧ i + 1 ≤ q ∧ q ≤ P.lines.length + 1 ∧ Below (w.alloc (.cells #[.slice AL P.lines.length cL, .slice AN P.notes.length cN, .slice AP P.pens.length cP, .int .i64 P.height, .int .i64 P.gap] 25)).heap.size (w.alloc (.cells #[.slice AL P.lines.length cL, .slice AN P.notes.length cN, .slice AP P.pens.length cP, .int .i64 P.height, .int .i64 P.gap] 25)) wr ∧ wr.rowIs (w.heap.size + 1) 3 (P.lines.length + 1) (fun j => .int .i64 (potM P i m j))) (fun j _ => P.lines.length + 1 - (intOf j).toNat)
      case atStart => exact ⟨i + 1, 0, by go_num, rfl, by omega, by omega, hb1, hrow1⟩
      case round =>
        obtain ⟨q, m, rfl, hqm, hq0, hq1, hb, hrow⟩ := hrel
        clear hb1 hrow1
        by_cases hqn : q ≤ P.lines.length
        · have HP := Lib.hid (fun w hR => pageRef_any AL AN AP cL cN cP P i q w F hR (by omega) hqn (by omega))
          obtain ⟨d0, d1, d2, d3, d4⟩ := box_cells hb
          have HRr := HR.to hb hb.size
          have HB := Lib.hid hb
          have HRW := Lib.hid hrow
          have hcq := hrow.cell (i := q) (by omega)
          have hci := hrow.cell (i := i) (by omega)
          have hfi := hrow.frozen i
          rw [potM_at (by omega)] at hcq
          rw [potM_i] at hci
          have hV := potA_bd F (i + 1) q
          have hRb := relaxA_bd F (i + 1) i m
          have hC := F.pageC_bd i q
          obtain ⟨V, hVe⟩ : ∃ V, potA P (i + 1) q = V := ⟨_, rfl⟩
          obtain ⟨R, hRe⟩ : ∃ R, relax P (potA P (i + 1)) i m = R := ⟨_, rfl⟩
          rw [hVe] at hcq hV
          rw [hRe] at hci hRb
          obtain rfl : q = i + 1 + m := hqm.out
          have HVe := Lib.hid hVe
          have HRe := Lib.hid hRe
          clear hb hrow hVe hRe hqm
          have j0 : (0 : Int) ≤ ((i + 1 + m : Nat) : Int) := by omega
          have j1 : ((i + 1 + m : Nat) : Int) < (P.lines.length : Int) + 1 := by omega
          have j2 : (0 : Int) ≤ (i : Int) := by omega
          have j3 : (i : Int) < (P.lines.length : Int) + 1 := by omega
          obtain ⟨q, hq⟩ : ∃ q, i + 1 + m = q := ⟨_, rfl⟩
          rw [hq] at HP hcq hC HVe hq0 hq1 hqn j0 j1
          rw [hq]
          have hq' := Lib.hid hq
          clear hq
          have hsum : IntKind.i64.wrap (P.pageC i q + V) = P.pageC i q + V := by rw [IntKind.wrap_i64]; omega
          have HSUM := Lib.hid hsum
          clear hsum
          by_cases e22 : P.pageE i q = 22
          · have f22 : (P.pageE i q == 22) = true := by simp [e22]
            have HQ := Lib.hid (relax_fill F (v := potA P (i + 1)) (i := i) (m := m) (n := P.lines.length - i) (by have := hq'.out; omega) (by rw [hq'.out]; exact e22))
            clear e22
            go_wp2_with (go_at_call 63; refine (HP.out _ HRr).mono ?_; rintro e w7 ⟨rfl, b7⟩; have kq := kc b7 hcq; have ki := kc b7 hci; have kf : w7.frozen? ⟨w.heap.size + 1, i, none⟩ = false := (b7.frozen (p := ⟨w.heap.size + 1, i, none⟩) HRW.out.lt).trans hfi)
            go_roundw
            case rel =>
              refine ⟨(i : Int) - 1, by first | rfl | go_num, by omega, by omega, HB.out.trans (b7.mono HB.out.size), ?_⟩
              have := rowBelow HRW.out b7
              rw [potM_full hi HQ.out] at this
              rw [show ((i : Int) - 1 + 1).toNat = i by omega]
              exact this
            case measure => simp [intOf]
          have f22 : (P.pageE i q == 22) = false := by simp [e22]
          by_cases e0 : P.pageE i q = 0
          · have f0 : (P.pageE i q == 0) = true := by simp [e0]
            have E0 := Lib.hid e0
            clear e0 e22
            by_cases hv : V < 0
            · have g1 : decide (0 ≤ V) = false := by simpa using hv
              go_wp2_with (go_at_call 63; refine (HP.out _ HRr).mono ?_; rintro e w7 ⟨rfl, b7⟩; have kq := kc b7 hcq; have ki := kc b7 hci; have kf : w7.frozen? ⟨w.heap.size + 1, i, none⟩ = false := (b7.frozen (p := ⟨w.heap.size + 1, i, none⟩) HRW.out.lt).trans hfi)
              go_quiet (fail)
              go_wp2
              go_roundw
              case rel => exact ⟨q + 1, m + 1, by go_num, by have := hq'.out; unfold Hid; omega, by omega, by omega, below_drewN (HB.out.trans (b7.mono HB.out.size)) _, by have := rowBelow HRW.out b7; rw [potM_skip (relax_skip (by rw [hq'.out, HVe.out]; omega))] at this; exact this⟩
              case measure => simp [intOf]; omega
            have g1 : decide (0 ≤ V) = true := by simpa using hv
            by_cases hr : R < 0
            · have g2 : decide (R < 0) = true := by simpa using hr
              go_wp2_with (go_at_call 63; refine (HP.out _ HRr).mono ?_; rintro e w7 ⟨rfl, b7⟩; have kq := kc b7 hcq; have ki := kc b7 hci; have kf : w7.frozen? ⟨w.heap.size + 1, i, none⟩ = false := (b7.frozen (p := ⟨w.heap.size + 1, i, none⟩) HRW.out.lt).trans hfi)
              go_quiet (fail)
              go_wp2
              go_roundw
              case rel =>
                refine ⟨q + 1, m + 1, by go_num, by have := hq'.out; unfold Hid; omega, by omega, by omega, (below_drewN (HB.out.trans (b7.mono HB.out.size)) _).setCell (p := ⟨w.heap.size + 1, i, none⟩) (by simp) _, ?_⟩
                have hrx := relax_take (P := P) (v := potA P (i + 1)) (i := i) (m := m) (by rw [hq'.out]; exact E0.out) (by rw [hq'.out, HVe.out]; omega) (by rw [hq'.out, HVe.out, HRe.out]; omega)
                rw [hq'.out, HVe.out] at hrx
                exact (World.rowIs.set (rowBelow HRW.out b7) i (.int .i64 (P.pageC i q + V))).congr (fun j _ => potM_take hrx j)
              case measure => simp [intOf]; omega
            have g2 : decide (R < 0) = false := by simpa using hr
            by_cases hs : P.pageC i q + V < R
            · have g3 : decide (P.pageC i q + V < R) = true := by simpa using hs
              have hsum := HSUM.out
              go_wp2_with (go_at_call 63; refine (HP.out _ HRr).mono ?_; rintro e w7 ⟨rfl, b7⟩; have kq := kc b7 hcq; have ki := kc b7 hci; have kf : w7.frozen? ⟨w.heap.size + 1, i, none⟩ = false := (b7.frozen (p := ⟨w.heap.size + 1, i, none⟩) HRW.out.lt).trans hfi)
              go_quiet (fail)
              clear hsum
              go_wp2
              go_roundw
              case rel =>
                refine ⟨q + 1, m + 1, by go_num, by have := hq'.out; unfold Hid; omega, by omega, by omega, (below_drewN (HB.out.trans (b7.mono HB.out.size)) _).setCell (p := ⟨w.heap.size + 1, i, none⟩) (by simp) _, ?_⟩
                have hrx := relax_take (P := P) (v := potA P (i + 1)) (i := i) (m := m) (by rw [hq'.out]; exact E0.out) (by rw [hq'.out, HVe.out]; omega) (by rw [hq'.out, HVe.out, HRe.out]; omega)
                rw [hq'.out, HVe.out] at hrx
                exact (World.rowIs.set (rowBelow HRW.out b7) i (.int .i64 (P.pageC i q + V))).congr (fun j _ => potM_take hrx j)
              case measure => simp [intOf]; omega
            · have g3 : decide (P.pageC i q + V < R) = false := by simpa using hs
              have hsum := HSUM.out
              go_wp2_with (go_at_call 63; refine (HP.out _ HRr).mono ?_; rintro e w7 ⟨rfl, b7⟩; have kq := kc b7 hcq; have ki := kc b7 hci; have kf : w7.frozen? ⟨w.heap.size + 1, i, none⟩ = false := (b7.frozen (p := ⟨w.heap.size + 1, i, none⟩) HRW.out.lt).trans hfi)
              go_quiet (fail)
              clear hsum
              go_wp2
              go_roundw
              case rel => exact ⟨q + 1, m + 1, by go_num, by have := hq'.out; unfold Hid; omega, by omega, by omega, below_drewN (HB.out.trans (b7.mono HB.out.size)) _, by have := rowBelow HRW.out b7; rw [potM_skip (relax_skip (by rw [hq'.out, HVe.out, HRe.out]; omega))] at this; exact this⟩
              case measure => simp [intOf]; omega
          · have f0 : (P.pageE i q == 0) = false := by simp [e0]
            go_wp2_with (go_at_call 63; refine (HP.out _ HRr).mono ?_; rintro e w7 ⟨rfl, b7⟩; have kq := kc b7 hcq; have ki := kc b7 hci; have kf : w7.frozen? ⟨w.heap.size + 1, i, none⟩ = false := (b7.frozen (p := ⟨w.heap.size + 1, i, none⟩) HRW.out.lt).trans hfi)
            go_quiet (fail)
            go_wp2
            go_roundw
            case rel => exact ⟨q + 1, m + 1, by go_num, by have := hq'.out; unfold Hid; omega, by omega, by omega, below_drewN (HB.out.trans (b7.mono HB.out.size)) _, by have := rowBelow HRW.out b7; rw [potM_skip (relax_skip (by rw [hq'.out]; omega))] at this; exact this⟩
            case measure => simp [intOf]; omega
        · have hm : m = P.lines.length - i := by have := hqm.out; omega
          go_wp2
          go_roundw
          case rel =>
            refine ⟨(i : Int) - 1, by first | rfl | go_num, by omega, by omega, hb, ?_⟩
            rw [show ((i : Int) - 1 + 1).toNat = i by omega]
            rw [hm, potM_full hi rfl] at hrow
            exact hrow
          case measure => simp [intOf]
    · obtain rfl : z = -1 := by omega
      go_wp2
      go_ret
      refine ⟨⟨w.heap.size + 1, rfl, by omega, hrow⟩, ?_⟩
      exact (B0.trans (hb.mono B0.size))
end Go.Proofs.Ytemlljgldkkkgaa
