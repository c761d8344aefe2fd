/- the sums of a page problem: heights and pages out of them -/
import Derived.Test.YtemlljgldkkkgaaChk
import Derived.Test.YtemlljgldkkkgaaRef4
namespace Go.Proofs.Ytemlljgldkkkgaa
open Go.RowKit Go.Shelf
/-- block g holds the sums of a page problem -/
structure SumR (w : World) (B g : Nat) (AL AN AP : Option Addr) (cL cN cP : Nat) (P : PP) : Prop where
  lt : g < B
  c0 : w.cell? ⟨g, 0, none⟩ = some (.slice AL P.lines.length cL)
  c1 : w.cell? ⟨g, 1, none⟩ = some (.slice AN P.notes.length cN)
  c2 : w.cell? ⟨g, 2, none⟩ = some (.slice AP P.pens.length cP)
  c3 : w.cell? ⟨g, 3, none⟩ = some (.int .i64 P.height)
  c4 : w.cell? ⟨g, 4, none⟩ = some (.int .i64 P.gap)
  c5 : ∃ b o c, w.cell? ⟨g, 5, none⟩ = some (.slice (some ⟨b, o, none⟩) (P.lines.length + 1) c) ∧ b < B ∧ ∀ j, j ≤ P.lines.length → w.cell? ⟨b, o + j, none⟩ = some (.int .i64 (P.sl j))
  c6 : ∃ A c, w.cell? ⟨g, 6, none⟩ = some (.slice A (nbk P) c) ∧ ∀ q, q < nbk P → ∃ b o b' o' c', A = some ⟨b, o, none⟩ ∧ b < B ∧ w.cell? ⟨b, o + q, none⟩ = some (.slice (some ⟨b', o', none⟩) (P.lines.length + 1) c') ∧ b' < B ∧ ∀ j, j ≤ P.lines.length → w.cell? ⟨b', o' + j, none⟩ = some (.int .i64 (P.sn q j))
  pr : PPR w B AL AN AP P
section
variable {w w' : World} {B B' g : Nat} {AL AN AP : Option Addr} {cL cN cP : Nat} {P : PP}
theorem SumR.below (h : SumR w B g AL AN AP cL cN cP P) (hb : Below B w w') : SumR w' B g AL AN AP cL cN cP P := by
  have k : ∀ (b o : Nat) (v : Value), b < B → w.cell? ⟨b, o, none⟩ = some v → w'.cell? ⟨b, o, none⟩ = some v := fun b o v hlt hc => (hb.cell (p := ⟨b, o, none⟩) hlt).trans hc
  refine ⟨h.lt, k _ _ _ h.lt h.c0, k _ _ _ h.lt h.c1, k _ _ _ h.lt h.c2, k _ _ _ h.lt h.c3, k _ _ _ h.lt h.c4, ?_, ?_, h.pr.below hb⟩
  · obtain ⟨b, o, c, h1, h2, h3⟩ := h.c5
    exact ⟨b, o, c, k _ _ _ h.lt h1, h2, fun j hj => k _ _ _ h2 (h3 j hj)⟩
  · obtain ⟨A, c, h1, h2⟩ := h.c6
    refine ⟨A, c, k _ _ _ h.lt h1, fun q hq => ?_⟩
    obtain ⟨b, o, b', o', c', e1, e2, e3, e4, e5⟩ := h2 q hq
    exact ⟨b, o, b', o', c', e1, e2, k _ _ _ e2 e3, e4, fun j hj => k _ _ _ e4 (e5 j hj)⟩
theorem SumR.more (h : SumR w B g AL AN AP cL cN cP P) (hB : B ≤ B') : SumR w B' g AL AN AP cL cN cP P := by
  refine ⟨Nat.lt_of_lt_of_le h.lt hB, h.c0, h.c1, h.c2, h.c3, h.c4, ?_, ?_, h.pr.more hB⟩
  · obtain ⟨b, o, c, h1, h2, h3⟩ := h.c5
    exact ⟨b, o, c, h1, by omega, h3⟩
  · obtain ⟨A, c, h1, h2⟩ := h.c6
    refine ⟨A, c, h1, fun q hq => ?_⟩
    obtain ⟨b, o, b', o', c', e1, e2, e3, e4, e5⟩ := h2 q hq
    exact ⟨b, o, b', o', c', e1, by omega, e3, by omega, e5⟩
theorem SumR.to (h : SumR w B g AL AN AP cL cN cP P) (hb : Below B w w') (hs : B ≤ B') : SumR w' B' g AL AN AP cL cN cP P := (h.below hb).more hs
end
set_option maxRecDepth 100000 in
set_option maxHeartbeats 1600000 in
theorem height_any (g : Nat) (AL AN AP : Option Addr) (cL cN cP : Nat) (P : PP) (a b : Nat) (w : World) (F : Fine P) (hR : SumR w w.heap.size g AL AN AP cL cN cP P) (hab : a ≤ b) (hb : b ≤ P.lines.length) :
    Calls Try.prog 67 #[.pointer (some ⟨g, 0, none⟩), .int .i64 (a : Int), .int .i64 (b : Int)] w fun e w' => e = .returned (.int .i64 (P.hgt a b)) ∧ Below w.heap.size w w' := by
  have hn := F.ln
  obtain ⟨b5, o5, k5, h5, _, h5c⟩ := hR.c5
  obtain ⟨A6, k6, h6, h6c⟩ := hR.c6
  have h4 := hR.c4
  have ha5 := h5c a (by omega)
  have hb5 := h5c b hb
  have hs1 := F.sl_mono hab
  have hs2 := F.sl_bd (i := b) (by omega)
  have hs3 := F.sl_bd (i := a) (by omega)
  have HW := Lib.hid (show IntKind.i64.wrap (P.sl b - P.sl a) = P.sl b - P.sl a by rw [IntKind.wrap_i64]; omega)
  have hx0 : 0 ≤ P.sl b - P.sl a := by omega
  have hx1 : P.sl b - P.sl a ≤ 74783970557952 := by omega
  have B16 := F.blocks
  clear hs1 hs2 hs3 h5c
  have i1 : (0 : Int) ≤ (a : Int) := by omega
  have i2 : (0 : Int) ≤ (b : Int) := by omega
  have i3 : (a : Int) < (P.lines.length : Int) + 1 := by omega
  have i4 : (b : Int) < (P.lines.length : Int) + 1 := by omega
  go_enter Try.func67, Try.ntmps67
  go_wp2_with fail
  go_quiet (fail)
  go_wp2_with fail
  go_loopw [7, 31] (fun s i wr => ∃ (q : Nat) (x : Int) (nq : Nat), wr = w.drewN nq ∧ i = .int .i64 q ∧ s = .int .i64 x ∧ q ≤ nbk P ∧ 0 ≤ x ∧ x ≤ 74783970557952 ∧ Hid (x = P.hgtK a b q)) (fun _ i _ => nbk P - (intOf i).toNat)
  case atStart => exact ⟨0, _, _, rfl, rfl, rfl, Nat.zero_le _, hx0, hx1, (hgtK_zero P a b).symm⟩
  case round =>
    obtain ⟨q, x, nq, rfl, rfl, rfl, hq, y0, y1, hy⟩ := hrel
    by_cases hqn : q < nbk P
    · obtain ⟨b6, o6, b7, o7, c7, rfl, _, hc6, _, h7c⟩ := h6c q hqn
      have ha7 := h7c a (by omega)
      have hb7 := h7c b hb
      have hs1 := F.sn_mono q hab
      have hs2 := F.sn_bd q (i := b) (by omega)
      have hs3 := F.sn_bd q (i := a) (by omega)
      have HW2 := Lib.hid (show IntKind.i64.wrap (P.sn q b - P.sn q a) = P.sn q b - P.sn q a by rw [IntKind.wrap_i64]; omega)
      have hg := F.hgtK_bd (a := a) (b := b) (k := q + 1) hab (by omega) (by omega)
      have hgs := hgtK_succ P a b q
      have hg0 := F.g0
      have hg1 := F.g1
      have hz0 : 0 ≤ P.sn q b - P.sn q a := by omega
      have hz1 : P.sn q b - P.sn q a ≤ 4398046511104 := by omega
      clear h6c h7c hs1 hs2 hs3
      go_wp2_with fail
      go_quiet (fail)
      obtain ⟨z, hz⟩ : ∃ z, P.sn q b - P.sn q a = z := ⟨_, rfl⟩
      rw [hz] at hgs hz0 hz1
      rw [hz]
      have HZ := Lib.hid hz
      clear hz
      by_cases hz2 : 0 < z
      · have HS : Hid (x + (z + P.gap) = P.hgtK a b (q + 1)) := by
          unfold Hid
          rw [hgs, ← hy.out, withGap, if_pos hz2]
        have hub : x + (z + P.gap) ≤ 74783970557952 := by have := HS.out; omega
        clear hg hgs
        go_wp2
        go_roundw
        case rel => exact ⟨q + 1, _, _, rfl, by go_num, rfl, by omega, by omega, hub, HS⟩
        case measure => simp [intOf]; omega
      · have HS : Hid (x = P.hgtK a b (q + 1)) := by
          unfold Hid
          rw [hgs, ← hy.out, withGap, if_neg hz2]; omega
        clear hg hgs
        go_wp2
        go_roundw
        case rel => exact ⟨q + 1, _, _, rfl, by go_num, rfl, by omega, by omega, y1, HS⟩
        case measure => simp [intOf]; omega
    · obtain rfl : q = nbk P := by omega
      go_wp2
      go_ret
      exact ⟨ret_int hy.out, below_drewN (Below.refl _ _) _⟩
theorem badness_at (x y : Int) (c t : Nat) (w : World) (hx : x = (c : Int)) (hy : y = (t : Int)) (hc : c ≤ 1073741824) (ht : t ≤ 1073741824) (h1 : 1 ≤ t) :
    Calls Try.prog 96 #[.int .i64 x, .int .i64 y] w fun e w' => e = .returned (.int .i64 (bad c t : Int)) ∧ Below w.heap.size w w' := by
  subst hx hy
  exact badness_any c t w hc ht h1
set_option maxRecDepth 100000 in
set_option maxHeartbeats 1600000 in
theorem page_any (g : Nat) (AL AN AP : Option Addr) (cL cN cP : Nat) (P : PP) (a b : Nat) (w : World) (F : Fine P) (hR : SumR w w.heap.size g AL AN AP cL cN cP P) (hab : a ≤ b) (hb : b ≤ P.lines.length) (hb1 : 1 ≤ b) :
    Calls Try.prog 65 #[.pointer (some ⟨g, 0, none⟩), .int .i64 (a : Int), .int .i64 (b : Int)] w fun e w' => e = .returned (.tuple #[.int .i64 (P.pageC a b), .int .i64 (P.pageE a b)]) ∧ Below w.heap.size w w' := by
  have hn := F.ln
  have hh := F.hgt_bd hab hb
  have hg1 := F.h1
  have hg2 := F.h2
  have f0 := hR.c0
  have f2 := hR.c2
  have f3 := hR.c3
  have HH := Lib.hid (height_any g AL AN AP cL cN cP P a b _ F hR hab hb)
  by_cases e1 : P.height < P.hgt a b
  · have HE := Lib.hid (pageE_22 e1)
    go_enter Try.func65, Try.ntmps65
    go_wp2_with (go_at_call 67; refine HH.out.mono ?_; rintro e w1 ⟨rfl, hb1⟩; have d0 := kc hb1 f0; have d2 := kc hb1 f2; have d3 := kc hb1 f3)
    go_ret2
    exact ⟨ret2 HE.out.1.symm HE.out.2.symm, hb1⟩
  by_cases e2 : b = P.lines.length
  · have HE := Lib.hid (pageE_last e1 e2)
    have e2' : ((b : Int) == (P.lines.length : Int)) = true := by simp [e2]
    clear e2
    go_enter Try.func65, Try.ntmps65
    go_wp2_with (go_at_call 67; refine HH.out.mono ?_; rintro e w1 ⟨rfl, hb1⟩; have d0 := kc hb1 f0; have d2 := kc hb1 f2; have d3 := kc hb1 f3)
    go_ret2
    exact ⟨ret2 HE.out.1.symm HE.out.2.symm, hb1⟩
  have e2' : ((b : Int) == (P.lines.length : Int)) = false := by simp; omega
  have hpl : P.lines.length ≤ P.pens.length := Nat.le_of_eq F.pl.symm
  obtain ⟨bp, op, rfl, hbp, hcp0⟩ := hR.pr.pen_at (k := b - 1) (by omega)
  have hwb : ((b : Int) - 1) = ((b - 1 : Nat) : Int) := by omega
  have hwb2 : IntKind.i64.wrap ((b - 1 : Nat) : Int) = ((b - 1 : Nat) : Int) := by rw [IntKind.wrap_i64]; omega
  by_cases e3 : 10000 ≤ P.pen (b - 1)
  · have HE := Lib.hid (pageE_23 e1 e2 e3)
    have HC := Lib.hid hcp0
    clear hcp0
    go_enter Try.func65, Try.ntmps65
    go_wp2_with (go_at_call 67; refine HH.out.mono ?_; rintro e w1 ⟨rfl, hb1⟩; have d0 := kc hb1 f0; have d2 := kc hb1 f2; have d3 := kc hb1 f3; have dp := kc hb1 HC.out)
    go_ret2
    exact ⟨ret2 HE.out.1.symm HE.out.2.symm, hb1⟩
  have HE := Lib.hid (pageE_0 e1 e2 e3)
  have HC := Lib.hid hcp0
  clear hcp0
  go_enter Try.func65, Try.ntmps65
  go_wp2_with (go_at_call 67; refine HH.out.mono ?_; rintro e w1 ⟨rfl, hb1⟩; have d0 := kc hb1 f0; have d2 := kc hb1 f2; have d3 := kc hb1 f3; have dp := kc hb1 HC.out)
  have HX := Lib.hid (show IntKind.i64.wrap (P.height - P.hgt a b) = ((P.height - P.hgt a b).toNat : Int) by rw [IntKind.wrap_i64]; omega)
  have HY := Lib.hid (show P.height = (P.height.toNat : Int) by omega)
  have hpb := F.pen_bd (b - 1)
  have hbl := bad_le (P.height - P.hgt a b).toNat P.height.toNat
  have i1 : (0 : Int) ≤ ((b - 1 : Nat) : Int) := by omega
  have i2 : ((b - 1 : Nat) : Int) < (P.pens.length : Int) := by omega
  have HW := Lib.hid (show IntKind.i64.wrap ((bad (P.height - P.hgt a b).toNat P.height.toNat : Int) + P.pen (b - 1)) = (bad (P.height - P.hgt a b).toNat P.height.toNat : Int) + P.pen (b - 1) by rw [IntKind.wrap_i64]; omega)
  go_region_held3 (fun w' => w'.cell? ⟨g, 3, none⟩ = some (.int .i64 P.height) ∧ w'.cell? ⟨g, 2, none⟩ = some (.slice (some ⟨bp, op, none⟩) P.pens.length cP) ∧ w'.cell? ⟨bp, op + (b - 1), none⟩ = some (.int .i64 (P.pen (b - 1)))) (first | go_keep | exact ⟨kc b7 d3, kc b7 d2, kc b7 dp⟩)
    (first | (go_at_call 96; refine (badness_at _ _ (P.height - P.hgt a b).toNat P.height.toNat _ HX.out HY.out (by omega) (by omega) (by omega)).mono ?_; rintro e w7 ⟨rfl, b7⟩))
  go_wp2
  go_ret2
  exact ⟨ret2 (HW.out.trans HE.out.1.symm) HE.out.2.symm, bthen hb1.drew b7⟩
end Go.Proofs.Ytemlljgldkkkgaa
