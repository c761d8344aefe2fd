/- PagebreakProved returns true: the walk. Conditions: the arguments' sizes as their types say. -/
import Derived.Test.YtemlljgldkkkgaaWrong
namespace Go.Proofs.Ytemlljgldkkkgaa
open Go.RowKit Go.Shelf
theorem potsL_eq {P : PP} (h : chk P = 0) : potsL P = potL P ∧ potsE P = 0 := by
  unfold potsL potsE
  rw [if_neg (by simp [h]), if_neg (by simp [h])]
  exact ⟨rfl, rfl⟩
theorem tmod_nat (a b : Nat) : Int.tmod (a : Int) (b : Int) = ((a % b : Nat) : Int) := rfl
set_option maxRecDepth 100000 in
set_option maxHeartbeats 6400000 in
theorem PagebreakProved_any (AL AN AP : Option Addr) (cL cN cP : Nat) (P : PP) (b : Int) (at_ by_ : Nat) (w : World) (S : Sz P) (hR : PPR w w.heap.size AL AN AP P) (hb0 : 0 ≤ b) (hb1 : b ≤ 65535) (ha : at_ ≤ 255) (hy : by_ ≤ 255) :
    Calls Try.prog 5 #[.agg #[.slice AL P.lines.length cL, .slice AN P.notes.length cN, .slice AP P.pens.length cP, .int .i64 P.height, .int .i64 P.gap], .int .u16 b, .int .u8 at_, .int .u8 by_] w fun e w' => e = .returned (.bool true) ∧ Below w.heap.size w w' := by
  have HR := hR.alloc (.cells #[.slice AL P.lines.length cL, .slice AN P.notes.length cN, .slice AP P.pens.length cP, .int .i64 P.height, .int .i64 P.gap] 25)
  have B0 : Below w.heap.size w (w.alloc (.cells #[.slice AL P.lines.length cL, .slice AN P.notes.length cN, .slice AP P.pens.length cP, .int .i64 P.height, .int .i64 P.gap] 25)) := (Below.refl _ _).alloc (Nat.le_refl _) _
  have CF := Lib.hid (fine_any AL AN AP cL cN cP P _ S HR)
  by_cases hf : fineB P = true
  rotate_left
  · have hf' : fineB P = false := by simpa using hf
    have G := Lib.hid hf'
    clear hf hf'
    go_enter Try.func5, Try.ntmps5
    go_wp2_with fail
    refine CF.out.mono ?_
    rw [G.out]
    rintro e w1 ⟨rfl, hb1⟩
    go_wp2_with (go_at_call 16; refine (awake_any _).mono ?_; rintro e w2 ⟨rfl, hb2⟩)
    go_ret
    exact ⟨rfl, bthen (bthen B0 hb1) hb2⟩
  have G := Lib.hid hf
  obtain ⟨hlen, hchk⟩ := fineB_spec hf
  have HC := Lib.hid hchk
  have F := chk_fine hchk
  have PE := potsL_eq hchk
  have PEH := Lib.hid PE
  clear hf PE hchk
  go_enter Try.func5, Try.ntmps5
  go_wp2_with fail
  refine CF.out.mono ?_
  rw [G.out]
  rintro e w1 ⟨rfl, hb1'⟩
  obtain ⟨f0, f1, f2, f3, f4⟩ := box_cells hb1'
  have HR1 := HR.to hb1' hb1'.size
  have B1 := bthen B0 hb1'
  clear HR hR hb1' B0 CF
  go_wp2_with fail
  have CP := Potentials_any AL AN AP cL cN cP P w1 S HR1
  rw [PEH.out.1, PEH.out.2, potL_len] at CP
  refine CP.mono ?_
  rintro e w2 ⟨A3, c3, rfl, hI3, hb2⟩
  clear CP
  obtain ⟨bp, op, rfl, hbp, hc0⟩ := hI3.at_ (k := 0) (by rw [potL_len]; omega)
  obtain ⟨bp', op', h', hbp', hcn⟩ := hI3.at_ (k := P.lines.length) (by rw [potL_len]; omega)
  injection h' with h'
  injection h' with h1 h2
  subst h1 h2
  rw [potL_at] at hc0 hcn
  rw [pot_last] at hcn
  rw [Nat.add_zero] at hc0
  clear hbp'
  have K2 := Lib.hid hb2
  have g0 := kc hb2 f0
  have g1 := kc hb2 f1
  have g2 := kc hb2 f2
  have g3 := kc hb2 f3
  have g4 := kc hb2 f4
  have HI3 := Lib.hid hI3
  clear f0 f1 f2 f3 f4 hb2 hI3
  go_wp2_with fail
  refine (break_any AL AN AP cL cN cP P w2 S (HR1.to K2.out K2.out.size)).mono ?_
  rintro e w3 ⟨A1, c1, rfl, hI1, hb3⟩
  have K3 := Lib.hid hb3
  have f0 := kc hb3 g0
  have f1 := kc hb3 g1
  have f2 := kc hb3 g2
  have f3 := kc hb3 g3
  have f4 := kc hb3 g4
  have d0 := kc hb3 hc0
  have dn := kc hb3 hcn
  have HR3 := HR1.to (bthen K2.out K3.out) (bthen K2.out K3.out).size
  have HI3' := Lib.hid (HI3.out.to hb3 hb3.size)
  have B3 := bthen B1 (bthen K2.out K3.out)
  have HB3 := Lib.hid B3
  have HI1 := Lib.hid hI1
  clear g0 g1 g2 g3 g4 hb3 hc0 hcn hI1 HR1 B1 HI3 B3
  by_cases hp : pot P 0 < 0
  · have BK := break_none HC.out hp
    have hm1 : pot P 0 = -1 := by have := pot_bd F 0; omega
    rw [BK.2.2, BK.2.1]
    rw [hm1] at d0
    clear hp BK hm1
    go_wp2_with (go_at_call 16; refine (awake_any _).mono ?_; rintro e w5 ⟨rfl, hb5⟩)
    go_ret
    exact ⟨rfl, bthen HB3.out hb5⟩
  have hp0 : 0 ≤ pot P 0 := by omega
  have BK := break_ok HC.out hp
  rw [BK.1] at HI1
  rw [BK.1, BK.2.1, BK.2.2]
  have hd0 : decide (0 ≤ pot P 0) = true := by simpa using hp0
  have hd1 : (pot P 0 != pot P 0) = false := by simp
  clear BK hp
  go_wp2_with fail
  have hbl : (brkL P).length ≤ 10 := by have := brkGo_len P P.lines.length 0; unfold brkL; omega
  have hl64 : ∀ x ∈ potL P, I64 x := fun x hx => by have := potL_mem F x hx; unfold I64; omega
  have HL64 := Lib.hid hl64
  have hpl := potL_len P
  obtain ⟨bc1, bc2⟩ := brk_cost HC.out hp0
  have V1 := verify_any AL AN AP cL cN cP P A1 c1 (brkL P) (some ⟨bp, op, none⟩) c3 (potL P) w3 S HR3 HI1.out (by omega) HI3'.out (by omega) hl64
  rw [potL_len, (potL_cert F bc1).2 bc2] at V1
  have HP0 := Lib.hid hp0
  have HPL := Lib.hid hpl
  clear hl64 hpl hp0 bc1 bc2
  refine V1.mono ?_
  rintro e w4 ⟨rfl, hb4⟩
  clear V1
  have g0 := kc hb4 f0
  have g1 := kc hb4 f1
  have g2 := kc hb4 f2
  have g3 := kc hb4 f3
  have g4 := kc hb4 f4
  have c0 := kc hb4 d0
  have cn := kc hb4 dn
  have HR4 := HR3.to hb4 hb4.size
  have HI4 := Lib.hid (HI3'.out.to hb4 hb4.size)
  have HE4 := Lib.hid (HI1.out.to hb4 hb4.size)
  have HB4 := Lib.hid (bthen HB3.out hb4)
  clear f0 f1 f2 f3 f4 d0 dn HR3 HI3' HI1 HB3 hb4
  go_wp2_with fail
  refine (choose_any P.lines.length b w4 hlen hb0 hb1).mono ?_
  rintro e w5 ⟨AX, cX, xs, rfl, hX, hasc, hxl, hb5⟩
  have HX := Lib.hid hX
  have hxn : xs.length ≤ 10 := Nat.le_trans hxl hlen
  have HA := Lib.hid hasc
  have f0 := kc hb5 g0
  have f1 := kc hb5 g1
  have f2 := kc hb5 g2
  have f3 := kc hb5 g3
  have f4 := kc hb5 g4
  have d0 := kc hb5 c0
  have dn := kc hb5 cn
  have HR5 := HR4.to hb5 hb5.size
  have HI5 := Lib.hid (HI4.out.to hb5 hb5.size)
  have HE5 := Lib.hid (HE4.out.to hb5 hb5.size)
  have HB5 := Lib.hid (bthen HB4.out hb5)
  clear g0 g1 g2 g3 g4 c0 cn HR4 HI4 HE4 HB4 hb5 hX hasc hxl
  go_wp2_with fail
  refine (cost_any AL AN AP cL cN cP P AX cX xs w5 S HR5 HX.out (by omega)).mono ?_
  rintro e w6 ⟨rfl, hb6⟩
  have g0 := kc hb6 f0
  have g1 := kc hb6 f1
  have g2 := kc hb6 f2
  have g3 := kc hb6 f3
  have g4 := kc hb6 f4
  have c0 := kc hb6 d0
  have cn := kc hb6 dn
  have HR6 := HR5.to hb6 hb6.size
  have HI6 := Lib.hid (HI5.out.to hb6 hb6.size)
  have HE6 := Lib.hid (HE5.out.to hb6 hb6.size)
  have HX6 := Lib.hid (HX.out.to hb6 hb6.size)
  have HB6 := Lib.hid (bthen HB5.out hb6)
  clear f0 f1 f2 f3 f4 d0 dn HR5 HI5 HE5 HB5 hb6 HX
  by_cases hce : costE P xs = 0
  case' neg =>
    have e1 : (costE P xs == 0) = false := by simp [hce]
    clear hce
    go_wp2_with fail
  case' pos =>
    have e1 : (costE P xs == 0) = true := by simp [hce]
    go_wp2_with fail
    have V2 := verify_any AL AN AP cL cN cP P AX cX xs (some ⟨bp, op, none⟩) c3 (potL P) w6 S HR6 HX6.out (by omega) HI6.out (by rw [potL_len]; omega) HL64.out
    rw [potL_len] at V2
    refine V2.mono ?_
    rintro e w7 ⟨rfl, hb7⟩
    have VC := potL_cert F hce
    have e2 : (!((verP P xs (potL P) == 0) == (costC P xs == pot P 0))) = false := by
      by_cases h : costC P xs = pot P 0
      · simp [h, VC.2 h]
      · have h2 : verP P xs (potL P) ≠ 0 := fun h3 => h (VC.1 h3)
        have q1 : (verP P xs (potL P) == 0) = false := by simpa using h2
        have q2 : (costC P xs == pot P 0) = false := by simpa using h
        rw [q1, q2]; rfl
    clear VC hce V2
    have g0 := kc hb7 g0
    have g1 := kc hb7 g1
    have g2 := kc hb7 g2
    have g3 := kc hb7 g3
    have g4 := kc hb7 g4
    have c0 := kc hb7 c0
    have cn := kc hb7 cn
    have HR6 := HR6.to hb7 hb7.size
    have HI6 := Lib.hid (HI6.out.to hb7 hb7.size)
    have HE6 := Lib.hid (HE6.out.to hb7 hb7.size)
    have HB6 := Lib.hid (bthen HB6.out hb7)
    clear hb7
    go_wp2_with fail
  all_goals (
    clear e1
    have CL := clone_any (some ⟨bp, op, none⟩) c3 (potL P) _ (by rw [potL_len]; omega) HI6.out
    rw [potL_len] at CL
    refine CL.mono ?_
    clear CL
    rintro e w8 ⟨A8, c8, rfl, hO, hb8⟩
    obtain ⟨b8, rfl, hb8l, hb8h⟩ : ∃ b8, A8 = some ⟨b8, 0, none⟩ ∧ _ ≤ b8 ∧ b8 < w8.heap.size := by
      rcases hO.form with ⟨_, h, _⟩ | ⟨g, h1, h2, h3, _⟩
      · exact absurd h (by omega)
      · exact ⟨g, h1, h2, h3⟩
    have hi : at_ % (P.lines.length + 1) ≤ P.lines.length := by have := Nat.mod_lt at_ (show 0 < P.lines.length + 1 by omega); omega
    have hcast : (at_ : Int) % ((P.lines.length : Int) + 1) = ((at_ % (P.lines.length + 1) : Nat) : Int) := rfl
    have hidx : 0 ≤ (at_ : Int) % ((P.lines.length : Int) + 1) ∧ (at_ : Int) % ((P.lines.length : Int) + 1) < (P.lines.length : Int) + 1 := by rw [hcast]; omega
    have HCA := Lib.hid hcast
    clear hcast
    have e8 : w8.cell? ⟨b8, at_ % (P.lines.length + 1), none⟩ = some (.int .i64 (pot P (at_ % (P.lines.length + 1)))) := by
      have := hO.own.cells (g := b8) rfl (at_ % (P.lines.length + 1)) (.int .i64 (pot P (at_ % (P.lines.length + 1)))) (by
        rw [List.getElem?_map, List.getElem?_eq_getElem (by rw [potL_len]; omega), potL_at]
        rfl)
      rwa [Addr.add_lit, Nat.zero_add] at this
    have p8 : w8.cell? ⟨bp, op + at_ % (P.lines.length + 1), none⟩ = some (.int .i64 (pot P (at_ % (P.lines.length + 1)))) := by
      obtain ⟨x, y, h1, h2, h3⟩ := (HI6.out.to hb8 hb8.size).at_ (k := at_ % (P.lines.length + 1)) (by rw [potL_len]; omega)
      injection h1 with h1
      injection h1 with h1 h4
      subst h1 h4
      rw [potL_at] at h3
      exact h3
    have hpb := pot_bd F (at_ % (P.lines.length + 1))
    have hby : 0 ≤ (by_ : Int) % 9 ∧ (by_ : Int) % 9 ≤ 8 := by omega
    have hne : b8 ≠ bp := by
      have := World.block_lt_of_cell? _ _ c0
      simp only at this
      omega
    have hwl := HB6.out.size
    have hne2 : b8 ≠ w.heap.size := by
      have := World.block_lt_of_cell? _ _ g0
      simp only at this
      omega
    have hfz : w8.frozen? ⟨b8, at_ % (P.lines.length + 1), none⟩ = false := World.ownsRow.frozenAt hO.own _
    have k0 := kc hb8 g0
    have k1 := kc hb8 g1
    have k2 := kc hb8 g2
    have k3 := kc hb8 g3
    have k4 := kc hb8 g4
    have HB9 := Lib.hid ((bthen HB6.out hb8).setCell (p := ⟨b8, at_ % (P.lines.length + 1), none⟩) (by show w.heap.size ≤ b8; omega) (.int .i64 (pot P (at_ % (P.lines.length + 1)) + (1 + (by_ : Int) % 9))))
    have HWI := Lib.hid (wrongL_ints (P := P) (i := at_ % (P.lines.length + 1)) (d := 1 + (by_ : Int) % 9) hi hO.own)
    clear g0 g1 g2 g3 g4 c0 cn hO
    by_cases hq1 : pot P (at_ % (P.lines.length + 1)) < 0
    · have hq2 : decide (pot P (at_ % (P.lines.length + 1)) < 0) = true := by simpa using hq1
      go_wp2_with (go_at_call 16; refine (awake_any _).mono ?_; rintro e w10 ⟨rfl, hb10⟩)
      go_ret
      exact ⟨rfl, bthen HB9.out hb10⟩
    have hq2 : decide (pot P (at_ % (P.lines.length + 1)) < 0) = false := by simpa using hq1
    by_cases hq3 : at_ % (P.lines.length + 1) = 0
    · have hq4 : ((at_ : Int) % ((P.lines.length : Int) + 1) == 0) = true := by rw [HCA.out, hq3]; rfl
      clear hq3
      go_wp2_with (go_at_call 16; refine (awake_any _).mono ?_; rintro e w10 ⟨rfl, hb10⟩)
      go_ret
      exact ⟨rfl, bthen HB9.out hb10⟩
    have hq4 : ((at_ : Int) % ((P.lines.length : Int) + 1) == 0) = false := by rw [HCA.out]; exact beq_eq_false_iff_ne.2 (fun h => hq3 (Int.ofNat_eq_zero.1 h))
    have HW64 := Lib.hid (wrongL_mem F (i := at_ % (P.lines.length + 1)) (d := 1 + (by_ : Int) % 9) (by omega) (by omega))
    have HRF := Lib.hid (wrong_refused HC.out HP0.out hi (by omega) (d := 1 + (by_ : Int) % 9) (by omega) (wl := wrongL P (at_ % (P.lines.length + 1)) (1 + (by_ : Int) % 9)) (fun j hj => wrongL_at hj))
    clear hq3
    go_wp2_with fail
    have V3 := verify_any AL AN AP cL cN cP P A1 c1 (brkL P) (some ⟨b8, 0, none⟩) c8 (wrongL P (at_ % (P.lines.length + 1)) (1 + (by_ : Int) % 9)) _ S (HR6.to (hb8.setCell (p := ⟨b8, at_ % (P.lines.length + 1), none⟩) (by assumption) (.int .i64 (pot P (at_ % (P.lines.length + 1)) + (1 + (by_ : Int) % 9)))) (by simpa using hb8.size)) (HE6.out.to (hb8.setCell (p := ⟨b8, at_ % (P.lines.length + 1), none⟩) (by assumption) (.int .i64 (pot P (at_ % (P.lines.length + 1)) + (1 + (by_ : Int) % 9)))) (by simpa using hb8.size)) (by omega) HWI.out (by rw [wrongL_len]; omega) HW64.out
    rw [wrongL_len, HRF.out] at V3
    refine V3.mono ?_
    clear V3
    rintro e w9 ⟨rfl, hb9⟩
    go_wp2_with (go_at_call 16; refine (awake_any _).mono ?_; rintro e w10 ⟨rfl, hb10⟩)
    go_ret
    exact ⟨rfl, bthen (bthen HB9.out hb9) hb10⟩)
end Go.Proofs.Ytemlljgldkkkgaa
