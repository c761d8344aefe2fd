/- Height, Potentials, Cost of the program -/
import Derived.Test.YtemlljgldkkkgaaPots
import Derived.Test.YtemlljgldkkkgaaRef7
import Derived.Test.YtemlljgldkkkgaaRef5
import Derived.Test.YtemlljgldkkkgaaRef3
namespace Go.Proofs.Ytemlljgldkkkgaa
open Go.RowKit Go.Shelf
set_option maxRecDepth 100000 in
set_option maxHeartbeats 1600000 in
theorem Height_any (AL AN AP : Option Addr) (cL cN cP : Nat) (P : PP) (x y : Int) (w : World) (S : Sz P) (hR : PPR w w.heap.size AL AN AP P) :
    Calls Try.prog 29 #[.agg #[.slice AL P.lines.length cL, .slice AN P.notes.length cN, .slice AP P.pens.length cP, .int .i64 P.height, .int .i64 P.gap], .int .i64 x, .int .i64 y] w fun e w' => e = .returned (.tuple #[.int .i64 (heightC P x y), .int .i64 (heightE P x y)]) ∧ Below w.heap.size w w' := by
  have HR := hR.alloc (.cells #[.slice AL P.lines.length cL, .slice AN P.notes.length cN, .slice AP P.pens.length cP, .int .i64 P.height, .int .i64 P.gap] 25)
  have B0 : Below w.heap.size w (w.alloc (.cells #[.slice AL P.lines.length cL, .slice AN P.notes.length cN, .slice AP P.pens.length cP, .int .i64 P.height, .int .i64 P.gap] 25)) := (Below.refl _ _).alloc (Nat.le_refl _) _
  have z1 := S.l
  have CK := Lib.hid (check_any AL AN AP cL cN cP P (w.alloc (.cells #[.slice AL P.lines.length cL, .slice AN P.notes.length cN, .slice AP P.pens.length cP, .int .i64 P.height, .int .i64 P.gap] 25)) S HR)
  by_cases h0 : chk P = 0
  · have F := chk_fine h0
    have h0' : (chk P != 0) = false := by simp [h0]
    by_cases hx : x < 0
    · have HE := Lib.hid (height_out h0 (x := x) (y := y) (.inl hx))
      clear h0
      go_enter Try.func29, Try.ntmps29
      go_wp2_with (go_at_call 34; refine CK.out.mono ?_; rintro e w1 ⟨rfl, hb1⟩; obtain ⟨d0, d1, d2, d3, d4⟩ := box_cells hb1)
      go_ret2
      exact ⟨ret2 HE.out.1.symm HE.out.2.symm, B0.trans (hb1.mono (by simp))⟩
    by_cases hxy : y < x
    · have HE := Lib.hid (height_out h0 (x := x) (y := y) (.inr (.inl hxy)))
      clear h0
      go_enter Try.func29, Try.ntmps29
      go_wp2_with (go_at_call 34; refine CK.out.mono ?_; rintro e w1 ⟨rfl, hb1⟩; obtain ⟨d0, d1, d2, d3, d4⟩ := box_cells hb1)
      go_ret2
      exact ⟨ret2 HE.out.1.symm HE.out.2.symm, B0.trans (hb1.mono (by simp))⟩
    by_cases hy : (P.lines.length : Int) < y
    · have HE := Lib.hid (height_out h0 (x := x) (y := y) (.inr (.inr hy)))
      clear h0
      go_enter Try.func29, Try.ntmps29
      go_wp2_with (go_at_call 34; refine CK.out.mono ?_; rintro e w1 ⟨rfl, hb1⟩; obtain ⟨d0, d1, d2, d3, d4⟩ := box_cells hb1)
      go_ret2
      exact ⟨ret2 HE.out.1.symm HE.out.2.symm, B0.trans (hb1.mono (by simp))⟩
    obtain ⟨a, rfl⟩ := Int.eq_ofNat_of_zero_le (show 0 ≤ x by omega)
    obtain ⟨b, rfl⟩ := Int.eq_ofNat_of_zero_le (show 0 ≤ y by omega)
    have HE := Lib.hid (height_in h0 (a := a) (b := b) (by omega) (by omega))
    have HH := Lib.hid (fun g w hR => height_any g AL AN AP cL cN cP P a b w F hR (by omega) (by omega))
    have HN := Lib.hid (fun w hR => newSums_any AL AN AP cL cN cP P w F hR)
    clear h0
    go_enter Try.func29, Try.ntmps29
    go_wp2_with (go_at_call 34; refine CK.out.mono ?_; rintro e w1 ⟨rfl, hb1⟩; obtain ⟨d0, d1, d2, d3, d4⟩ := box_cells hb1)
    refine (HN.out _ (HR.to hb1 hb1.size)).mono ?_
    rintro e w2 ⟨⟨g, rfl, hs2⟩, hb2⟩
    go_wp2_with (go_at_call 67; refine (HH.out g _ hs2).mono ?_; rintro e w3 ⟨rfl, hb3⟩)
    go_ret2
    exact ⟨ret2 HE.out.1.symm HE.out.2.symm, bthen (bthen (bthen B0 hb1) hb2) hb3⟩
  · have h0' : (chk P != 0) = true := by simp [h0]
    have HE := Lib.hid (height_bad h0 x y)
    clear h0
    go_enter Try.func29, Try.ntmps29
    go_wp2_with (go_at_call 34; refine CK.out.mono ?_; rintro e w1 ⟨rfl, hb1⟩)
    go_ret2
    exact ⟨ret2 HE.out.1.symm HE.out.2.symm, bthen B0 hb1⟩
set_option maxRecDepth 100000 in
set_option maxHeartbeats 3200000 in
theorem Potentials_any (AL AN AP : Option Addr) (cL cN cP : Nat) (P : PP) (w : World) (S : Sz P) (hR : PPR w w.heap.size AL AN AP P) :
    Calls Try.prog 19 #[.agg #[.slice AL P.lines.length cL, .slice AN P.notes.length cN, .slice AP P.pens.length cP, .int .i64 P.height, .int .i64 P.gap]] w fun e w' => ∃ A c, e = .returned (.tuple #[.slice A (potsL P).length c, .int .i64 (potsE P)]) ∧ IntsR w' w'.heap.size A (potsL P) ∧ Below w.heap.size w w' := by
  have HR := hR.alloc (.cells #[.slice AL P.lines.length cL, .slice AN P.notes.length cN, .slice AP P.pens.length cP, .int .i64 P.height, .int .i64 P.gap] 25)
  have B0 : Below w.heap.size w (w.alloc (.cells #[.slice AL P.lines.length cL, .slice AN P.notes.length cN, .slice AP P.pens.length cP, .int .i64 P.height, .int .i64 P.gap] 25)) := (Below.refl _ _).alloc (Nat.le_refl _) _
  have CK := Lib.hid (check_any AL AN AP cL cN cP P _ S HR)
  by_cases h0 : chk P = 0
  · have h0' : (chk P != 0) = false := by simp [h0]
    have F := chk_fine h0
    have H0 := Lib.hid h0
    have HN := Lib.hid (fun w hR => newSums_any AL AN AP cL cN cP P w F hR)
    have HP := Lib.hid (fun g w hR => potentials_any g AL AN AP cL cN cP P w F hR)
    clear h0
    go_enter Try.func19, Try.ntmps19
    go_wp2_with (go_at_call 34; refine CK.out.mono ?_; rintro e w1 ⟨rfl, hb1⟩; obtain ⟨d0, d1, d2, d3, d4⟩ := box_cells hb1)
    refine (HN.out _ (HR.to hb1 hb1.size)).mono ?_
    rintro e w2 ⟨⟨g, rfl, hs2⟩, hb2⟩
    go_wp2_with (go_at_call 60; refine (HP.out g _ hs2).mono ?_; rintro e w3 ⟨⟨rfl, hrow⟩, hb3⟩)
    go_ret2
    have e1 : potsL P = potL P := by unfold potsL; rw [if_neg (by simp [H0.out])]
    have e2 : potsE P = 0 := by unfold potsE; rw [if_neg (by simp [H0.out])]
    rw [e1, e2, potL_len]
    exact ⟨_, _, rfl, rowIs_ints hrow, bthen (bthen (bthen B0 hb1) hb2) hb3⟩
  · have h0' : (chk P != 0) = true := by simp [h0]
    have H0 := Lib.hid h0
    clear h0
    go_enter Try.func19, Try.ntmps19
    go_wp2_with (go_at_call 34; refine CK.out.mono ?_; rintro e w1 ⟨rfl, hb1⟩)
    go_ret2
    have e1 : potsL P = [] := by unfold potsL; rw [if_pos H0.out]
    have e2 : potsE P = 1 := by unfold potsE; rw [if_pos H0.out]
    rw [e1, e2]
    exact ⟨none, 0, rfl, IntsR.nil, bthen B0 hb1⟩
set_option maxRecDepth 100000 in
set_option maxHeartbeats 3200000 in
theorem cost_any (AL AN AP : Option Addr) (cL cN cP : Nat) (P : PP) (AE : Option Addr) (cE : Nat) (ends : List Int) (w : World) (S : Sz P) (hR : PPR w w.heap.size AL AN AP P) (hE : IntsR w w.heap.size AE ends) (hn : ends.length ≤ 1000000) :
    Calls Try.prog 26 #[.agg #[.slice AL P.lines.length cL, .slice AN P.notes.length cN, .slice AP P.pens.length cP, .int .i64 P.height, .int .i64 P.gap], .slice AE ends.length cE] w fun e w' => e = .returned (.tuple #[.int .i64 (costC P ends), .int .i64 (costE P ends)]) ∧ Below w.heap.size w w' := by
  have HR := hR.alloc (.cells #[.slice AL P.lines.length cL, .slice AN P.notes.length cN, .slice AP P.pens.length cP, .int .i64 P.height, .int .i64 P.gap] 25)
  have B0 : Below w.heap.size w (w.alloc (.cells #[.slice AL P.lines.length cL, .slice AN P.notes.length cN, .slice AP P.pens.length cP, .int .i64 P.height, .int .i64 P.gap] 25)) := (Below.refl _ _).alloc (Nat.le_refl _) _
  have z1 := S.l
  have CK := Lib.hid (check_any AL AN AP cL cN cP P _ S HR)
  by_cases h0 : chk P = 0
  rotate_left
  · have h0' : (chk P != 0) = true := by simp [h0]
    have HE := Lib.hid (cost_bad h0 ends)
    clear h0
    go_enter Try.func26, Try.ntmps26
    go_wp2_with (go_at_call 34; refine CK.out.mono ?_; rintro e w1 ⟨rfl, hb1⟩)
    go_ret2
    exact ⟨ret2 HE.out.1.symm HE.out.2.symm, bthen B0 hb1⟩
  have F := chk_fine h0
  have h0' : (chk P != 0) = false := by simp [h0]
  have H0 := Lib.hid h0
  have hln := F.ln
  have HN := Lib.hid (fun w hR => newSums_any AL AN AP cL cN cP P w F hR)
  clear h0
  go_enter Try.func26, Try.ntmps26
  go_wp2_with (go_at_call 34; refine CK.out.mono ?_; rintro e w1 ⟨rfl, hb1⟩)
  have HE1 := hE.to (bthen B0 hb1) (bthen B0 hb1).size
  have HR1 := HR.to hb1 hb1.size
  obtain ⟨d0, d1, d2, d3, d4⟩ := box_cells hb1
  have B1 := bthen B0 hb1
  clear hb1 B0 HR CK hR hE
  go_loopw [6, 21] (fun l i wr => ∃ (k : Nat) (y : Int), i = .int .i64 k ∧ l = .int .i64 y ∧ k ≤ ends.length ∧ 0 ≤ y ∧ y ≤ P.lines.length ∧ Hid (endsE P.lines.length ends 0 = endsE P.lines.length (ends.drop k) y) ∧ (k = 0 → y = 0) ∧ wr = w1) (fun _ i _ => ends.length - (intOf i).toNat)
  case atStart => exact ⟨0, 0, rfl, rfl, Nat.zero_le _, Int.le_refl _, by omega, rfl, fun _ => rfl, rfl⟩
  case round =>
    obtain ⟨k, y, rfl, rfl, hk, hy0, hy1, he, hk0, rfl⟩ := hrel
    by_cases hlt : k < ends.length
    · obtain ⟨b, o, rfl, hbl, hc⟩ := HE1.at_ hlt
      obtain ⟨x, hx⟩ : ∃ x, ends[k] = x := ⟨_, rfl⟩
      rw [hx] at hc
      have HX := Lib.hid hx
      have K0 := Lib.hid hk0
      clear hx hk0
      by_cases a1 : x < 1
      · have q1 : decide (x < 1) = true := by simpa using a1
        have HQ := Lib.hid (cost_ends H0.out (endsE_2 hlt (by rw [HX.out]; omega) he.out) (by omega))
        go_wp2_with fail
        go_ret2
        exact ⟨ret2 HQ.out.1.symm HQ.out.2.symm, B1⟩
      have q1 : decide (x < 1) = false := by simpa using a1
      by_cases a2 : (P.lines.length : Int) < x
      · have q2 : decide ((P.lines.length : Int) < x) = true := by simpa using a2
        have HQ := Lib.hid (cost_ends H0.out (endsE_2 hlt (by rw [HX.out]; omega) he.out) (by omega))
        go_wp2_with fail
        go_ret2
        exact ⟨ret2 HQ.out.1.symm HQ.out.2.symm, B1⟩
      have q2 : decide ((P.lines.length : Int) < x) = false := by simpa using a2
      by_cases a3 : x ≤ y
      · have q3 : decide (x ≤ y) = true := by simpa using a3
        have hkp : 0 < k := by
          rcases Nat.eq_zero_or_pos k with h | h
          · have := K0.out h; omega
          · exact h
        have q4 : decide (0 < (k : Int)) = true := by simp; omega
        have HQ := Lib.hid (cost_ends H0.out (endsE_10 hlt (by rw [HX.out]; omega) (by rw [HX.out]; omega) (by rw [HX.out]; omega) he.out) (by omega))
        go_wp2_with fail
        go_ret2
        exact ⟨ret2 HQ.out.1.symm HQ.out.2.symm, B1⟩
      have q3 : decide (x ≤ y) = false := by simpa using a3
      have HQ := Lib.hid (endsE_step hlt (by rw [HX.out]; omega) (by rw [HX.out]; omega) (by rw [HX.out]; omega) he.out)
      by_cases hkp : 0 < k
      · have q4 : decide (0 < (k : Int)) = true := by simp; omega
        go_wp2_with fail
        go_roundw
        case rel => exact ⟨k + 1, x, by go_num, rfl, by omega, by omega, by omega, by have := HQ.out; rw [HX.out] at this; exact this, by simp⟩
        case measure => simp [intOf]; omega
      · have q4 : decide (0 < (k : Int)) = false := by simp; omega
        go_wp2_with fail
        go_roundw
        case rel => exact ⟨k + 1, x, by go_num, rfl, by omega, by omega, by omega, by have := HQ.out; rw [HX.out] at this; exact this, by simp⟩
        case measure => simp [intOf]; omega
    · by_cases hyn : y = P.lines.length
      rotate_left
      · have hyb : (y != (P.lines.length : Int)) = true := by simp [hyn]
        have HQ := Lib.hid (cost_ends H0.out (endsE_9 (by omega) hyn he.out) (by omega))
        clear hyn
        go_wp2_with fail
        go_ret2
        exact ⟨ret2 HQ.out.1.symm HQ.out.2.symm, B1⟩
      have hyb : (y != (P.lines.length : Int)) = false := by simp [hyn]
      have HZ := endsE_0 (by omega) hyn he.out
      have HQ := Lib.hid (cost_in H0.out HZ)
      have HA := Lib.hid (endsE_asc _ _ HZ)
      clear HZ hyn he hk0
      go_wp2_with (go_at_call 59; refine (HN.out _ HR1).mono ?_; rintro e w2 ⟨⟨g, rfl, hs2⟩, hb2⟩)
      have HE2 := HE1.to hb2 hb2.size
      have B2 := bthen B1 hb2
      clear HE1 HR1 B1 HN d0 d1 d2 d3 d4
      go_loopw [10, 11, 53] (fun sm fr i wr => ∃ (q a : Nat) (t : Int), i = .int .i64 q ∧ fr = .int .i64 a ∧ sm = .int .i64 t ∧ q ≤ ends.length ∧ Hid (AtC P ends q a t) ∧ Below w2.heap.size w2 wr) (fun _ _ i _ => ends.length - (intOf i).toNat)
      case atStart => exact ⟨0, 0, 0, rfl, rfl, rfl, Nat.zero_le _, AtC.start HA.out, Below.refl _ _⟩
      case round =>
        obtain ⟨q, a, t, rfl, rfl, rfl, hq, hat, hb⟩ := hrel
        by_cases hql : q < ends.length
        · obtain ⟨b, o, rfl, hbl, hc⟩ := (HE2.below hb).at_ hql
          obtain ⟨x, hx, hax, hxn⟩ := hat.out.next hql
          rw [hx] at hc
          have HX := Lib.hid hx
          have i1 : (q : Int) < (ends.length : Int) := by omega
          have i0 : (0 : Int) ≤ (q : Int) := by omega
          have t0 := hat.out.s0
          have t1 := hat.out.s1
          have hpb := F.pageC_bd a x
          have HP := Lib.hid (page_any g AL AN AP cL cN cP P a x wr F (hs2.to hb hb.size) (by omega) hxn (by omega))
          clear hx
          by_cases hpe : P.pageE a x = 0
          · have hpe' : (P.pageE a x != 0) = false := by simp [hpe]
            have HS := Lib.hid (hat.out.step F hql HX.out hpe)
            have hw : wrap64 (t + P.pageC a x) = t + P.pageC a x := IntWalk.wrap64_in _ ⟨by omega, by omega⟩
            have HW := Lib.hid hw
            clear hpe t0 t1 hw
            go_wp2_with (go_at_call 65; refine HP.out.mono ?_; rintro e w7 ⟨rfl, b7⟩)
            go_roundw
            case rel => exact ⟨q + 1, x, t + P.pageC a x, by go_num, rfl, by first | rfl | (rw [HW.out]), by omega, HS.out, bthen hb b7⟩
            case measure => simp [intOf]; omega
          · have hpe' : (P.pageE a x != 0) = true := by simp [hpe]
            have HS := Lib.hid (hat.out.bad hql HX.out hpe)
            clear hpe
            go_wp2_with (go_at_call 65; refine HP.out.mono ?_; rintro e w7 ⟨rfl, b7⟩)
            go_ret2
            exact ⟨ret2 (HQ.out.1.trans HS.out.1).symm (HQ.out.2.trans HS.out.2).symm, bthen (bthen B2 hb) b7⟩
        · have HD := Lib.hid (hat.out.done (by omega))
          go_wp2_with fail
          go_ret2
          exact ⟨ret2 (HQ.out.1.trans HD.out.1).symm (HQ.out.2.trans HD.out.2).symm, bthen B2 hb⟩
end Go.Proofs.Ytemlljgldkkkgaa
