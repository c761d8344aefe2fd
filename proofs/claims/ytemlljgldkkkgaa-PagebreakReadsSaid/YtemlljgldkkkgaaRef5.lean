/- The reference's cost of page ends. -/
import Derived.Test.YtemlljgldkkkgaaRef4
import Derived.Test.YtemlljgldkkkgaaSpec2
namespace Go.Proofs.Ytemlljgldkkkgaa
open Go.RowKit
set_option maxRecDepth 100000 in
set_option maxHeartbeats 3200000 in
theorem costRef_any (AL AN AP : Option Addr) (cL cN cP : Nat) (P : PP) (AE : Option Addr) (cE : Nat) (ends : List Int) (w : World) (S : Sz P) (hR : PPR w w.heap.size AL AN AP P) (hE : IntsR w w.heap.size AE ends) (hn : ends.length ≤ 1000000) :
    Calls Try.prog 31 #[.agg #[.slice AL P.lines.length cL, .slice AN P.notes.length cN, .slice AP P.pens.length cP, .int .i64 P.height, .int .i64 P.gap], .slice AE ends.length cE] w fun e w' => e = .returned (.tuple #[.int .i64 (costC P ends), .int .i64 (costE P ends)]) ∧ Below w.heap.size w w' := by
  have HR := hR.alloc (.cells #[.slice AL P.lines.length cL, .slice AN P.notes.length cN, .slice AP P.pens.length cP, .int .i64 P.height, .int .i64 P.gap] 25)
  have B0 : Below w.heap.size w (w.alloc (.cells #[.slice AL P.lines.length cL, .slice AN P.notes.length cN, .slice AP P.pens.length cP, .int .i64 P.height, .int .i64 P.gap] 25)) := (Below.refl _ _).alloc (Nat.le_refl _) _
  have z1 := S.l
  have CK := Lib.hid (checkRef_any AL AN AP cL cN cP P _ S HR)
  by_cases h0 : chk P = 0
  rotate_left
  · have h0' : (chk P != 0) = true := by simp [h0]
    have HE := Lib.hid (cost_bad h0 ends)
    clear h0
    go_enter Try.func31, Try.ntmps31
    go_wp2_with (go_at_call 35; refine CK.out.mono ?_; rintro e w1 ⟨rfl, hb1⟩)
    go_ret2
    exact ⟨ret2 HE.out.1.symm HE.out.2.symm, bthen B0 hb1⟩
  have F := chk_fine h0
  have h0' : (chk P != 0) = false := by simp [h0]
  have H0 := Lib.hid h0
  have hln := F.ln
  clear h0
  go_enter Try.func31, Try.ntmps31
  go_wp2_with (go_at_call 35; refine CK.out.mono ?_; rintro e w1 ⟨rfl, hb1⟩)
  have HE1 := hE.to (bthen B0 hb1) (bthen B0 hb1).size
  have HR1 := HR.to hb1 hb1.size
  obtain ⟨d0, d1, d2, d3, d4⟩ := box_cells hb1
  have B1 := bthen B0 hb1
  clear hb1 B0 HR CK hR hE
  go_loopw [6, 7] (fun l i wr => ∃ (k : Nat) (y : Int), i = .int .i64 k ∧ l = .int .i64 y ∧ k ≤ ends.length ∧ 0 ≤ y ∧ y ≤ P.lines.length ∧ Hid (endsE P.lines.length ends 0 = endsE P.lines.length (ends.drop k) y) ∧ Below w1.heap.size w1 wr) (fun _ i _ => ends.length - (intOf i).toNat)
  case atStart => exact ⟨0, 0, rfl, rfl, Nat.zero_le _, Int.le_refl _, by omega, rfl, Below.refl _ _⟩
  case round =>
    obtain ⟨k, y, rfl, rfl, hk, hy0, hy1, he, hb⟩ := hrel
    have g0 := kc hb d0
    by_cases hlt : k < ends.length
    · obtain ⟨b, o, rfl, hbl, hc⟩ := (HE1.below hb).at_ hlt
      have i1 : (k : Int) < (ends.length : Int) := by omega
      have i0 : (0 : Int) ≤ (k : Int) := by omega
      obtain ⟨x, hx⟩ : ∃ x, ends[k] = x := ⟨_, rfl⟩
      rw [hx] at hc
      have HX := Lib.hid hx
      clear hx
      by_cases a1 : x < 1
      · have q1 : decide (x < 1) = true := by simpa using a1
        have HQ := Lib.hid (cost_ends H0.out (endsE_2 hlt (by rw [HX.out]; omega) he.out) (by omega))
        go_wp2_with fail
        go_quiet (fail)
        go_wp2_with fail
        go_ret2
        exact ⟨ret2 HQ.out.1.symm HQ.out.2.symm, below_drewN (bthen B1 hb) _⟩
      have q1 : decide (x < 1) = false := by simpa using a1
      by_cases a2 : (P.lines.length : Int) < x
      · have q2 : decide ((P.lines.length : Int) < x) = true := by simpa using a2
        have HQ := Lib.hid (cost_ends H0.out (endsE_2 hlt (by rw [HX.out]; omega) he.out) (by omega))
        go_wp2_with fail
        go_quiet (fail)
        go_wp2_with fail
        go_ret2
        exact ⟨ret2 HQ.out.1.symm HQ.out.2.symm, below_drewN (bthen B1 hb) _⟩
      have q2 : decide ((P.lines.length : Int) < x) = false := by simpa using a2
      by_cases a3 : x ≤ y
      · have HQ := Lib.hid (cost_ends H0.out (endsE_10 hlt (by rw [HX.out]; omega) (by rw [HX.out]; omega) (by rw [HX.out]; omega) he.out) (by omega))
        go_wp2_with fail
        go_quiet (fail)
        go_wp2_with fail
        go_ret2
        exact ⟨ret2 HQ.out.1.symm HQ.out.2.symm, below_drewN (bthen B1 hb) _⟩
      have HQ := Lib.hid (endsE_step hlt (by rw [HX.out]; omega) (by rw [HX.out]; omega) (by rw [HX.out]; omega) he.out)
      go_wp2_with fail
      go_quiet (fail)
      go_wp2_with fail
      go_roundw
      case rel => exact ⟨k + 1, x, by go_num, rfl, by omega, by omega, by omega, by have := HQ.out; rw [HX.out] at this; exact this, below_drewN hb _⟩
      case measure => simp [intOf]; omega
    · by_cases hyn : y = P.lines.length
      rotate_left
      · have hyb : (y != (P.lines.length : Int)) = true := by simp [hyn]
        have HQ := Lib.hid (cost_ends H0.out (endsE_9 (by omega) hyn he.out) (by omega))
        clear hyn
        go_wp2_with fail
        go_ret2
        exact ⟨ret2 HQ.out.1.symm HQ.out.2.symm, bthen B1 hb⟩
      have hyb : (y != (P.lines.length : Int)) = false := by simp [hyn]
      have HZ := endsE_0 (by omega) hyn he.out
      have HQ := Lib.hid (cost_in H0.out HZ)
      have HA := Lib.hid (endsE_asc _ _ HZ)
      have g1 := kc hb d1
      have g2 := kc hb d2
      have g3 := kc hb d3
      have g4 := kc hb d4
      have HE2 := HE1.to hb hb.size
      have HR2 := HR1.to hb hb.size
      have B2 := bthen B1 hb
      clear HZ hyn he d0 d1 d2 d3 d4 HE1 HR1 hb B1
      go_wp2_with fail
      obtain ⟨w2, rfl⟩ : ∃ w2 : World, w2 = wr := ⟨_, rfl⟩
      go_loopw [8, 9, 10] (fun sm fr i wr => ∃ (q a : Nat) (t : Int), i = .int .i64 q ∧ fr = .int .i64 a ∧ sm = .int .i64 t ∧ q ≤ ends.length ∧ Hid (AtC P ends q a t) ∧ Below w2.heap.size w2 wr) (fun _ _ i _ => ends.length - (intOf i).toNat)
      case atStart => exact ⟨0, 0, 0, rfl, rfl, rfl, Nat.zero_le _, AtC.start HA.out, Below.refl _ _⟩
      case round =>
        obtain ⟨q, a, t, rfl, rfl, rfl, hq, hat, hb2⟩ := hrel
        have e0 := kc hb2 g0
        have e1 := kc hb2 g1
        have e2 := kc hb2 g2
        have e3 := kc hb2 g3
        have e4 := kc hb2 g4
        by_cases hql : q < ends.length
        · obtain ⟨b, o, rfl, hbl, hc⟩ := (HE2.below hb2).at_ hql
          obtain ⟨x, hx, hax, hxn⟩ := hat.out.next hql
          rw [hx] at hc
          have HX := Lib.hid hx
          have i1 : (q : Int) < (ends.length : Int) := by omega
          have i0 : (0 : Int) ≤ (q : Int) := by omega
          have t0 := hat.out.s0
          have t1 := hat.out.s1
          have hpb := F.pageC_bd a x
          have HP := Lib.hid (fun w hR => pageRef_any AL AN AP cL cN cP P a x w F hR (by omega) hxn (by omega))
          clear hx
          have hR2 := HR2.to hb2 hb2.size
          by_cases hpe : P.pageE a x = 0
          · have hpe' : (P.pageE a x != 0) = false := by simp [hpe]
            have HS := Lib.hid (hat.out.step F hql HX.out hpe)
            have hw : wrap64 (t + P.pageC a x) = t + P.pageC a x := IntWalk.wrap64_in _ ⟨by omega, by omega⟩
            have HW := Lib.hid hw
            clear hpe t0 t1 hw
            go_wp2_with fail
            go_region_held3 (fun w' => w'.cell? ⟨w.heap.size, 0, none⟩ = some (.slice AL P.lines.length cL) ∧ w'.cell? ⟨w.heap.size, 1, none⟩ = some (.slice AN P.notes.length cN) ∧ w'.cell? ⟨w.heap.size, 2, none⟩ = some (.slice AP P.pens.length cP) ∧ w'.cell? ⟨w.heap.size, 3, none⟩ = some (.int .i64 P.height) ∧ w'.cell? ⟨w.heap.size, 4, none⟩ = some (.int .i64 P.gap) ∧ w'.cell? ⟨b, o + q, none⟩ = some (.int .i64 (x : Int))) (first | go_keep | exact ⟨kc b7 e0, kc b7 e1, kc b7 e2, kc b7 e3, kc b7 e4, kc b7 hc⟩)
              (first | (go_at_call 63; refine (HP.out _ (hR2.to (Below.refl _ _).drew (Nat.le_refl _))).mono ?_; rintro e w7 ⟨rfl, b7⟩))
            have hc7 := kc b7 hc
            go_wp2_with fail
            go_quiet (fail)
            go_wp2_with fail
            go_roundw
            case rel => exact ⟨q + 1, x, t + P.pageC a x, by go_num, rfl, by first | rfl | (rw [HW.out]), by omega, HS.out, below_drewN (bthen hb2.drew b7) _⟩
            case measure => simp [intOf]; omega
          · have hpe' : (P.pageE a x != 0) = true := by simp [hpe]
            have HS := Lib.hid (hat.out.bad hql HX.out hpe)
            clear hpe
            go_wp2_with fail
            go_region_held3 (fun w' => w'.cell? ⟨w.heap.size, 0, none⟩ = some (.slice AL P.lines.length cL) ∧ w'.cell? ⟨w.heap.size, 1, none⟩ = some (.slice AN P.notes.length cN) ∧ w'.cell? ⟨w.heap.size, 2, none⟩ = some (.slice AP P.pens.length cP) ∧ w'.cell? ⟨w.heap.size, 3, none⟩ = some (.int .i64 P.height) ∧ w'.cell? ⟨w.heap.size, 4, none⟩ = some (.int .i64 P.gap) ∧ w'.cell? ⟨b, o + q, none⟩ = some (.int .i64 (x : Int))) (first | go_keep | exact ⟨kc b7 e0, kc b7 e1, kc b7 e2, kc b7 e3, kc b7 e4, kc b7 hc⟩)
              (first | (go_at_call 63; refine (HP.out _ (hR2.to (Below.refl _ _).drew (Nat.le_refl _))).mono ?_; rintro e w7 ⟨rfl, b7⟩))
            go_wp2_with fail
            go_ret2
            exact ⟨ret2 (HQ.out.1.trans HS.out.1).symm (HQ.out.2.trans HS.out.2).symm, bthen (bthen B2 hb2.drew) b7⟩
        · have HD := Lib.hid (hat.out.done (by omega))
          go_wp2_with fail
          go_ret2
          exact ⟨ret2 (HQ.out.1.trans HD.out.1).symm (HQ.out.2.trans HD.out.2).symm, bthen B2 hb2⟩
end Go.Proofs.Ytemlljgldkkkgaa
