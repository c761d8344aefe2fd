/- The reference's Potentials and Break. -/
import Derived.Test.YtemlljgldkkkgaaRef6
import Derived.Test.YtemlljgldkkkgaaSpec4
namespace Go.Proofs.Ytemlljgldkkkgaa
open Go.RowKit
theorem ret3 {v : Value} {a b c d : Int} {A : Option Addr} {n m k : Nat} (hn : n = m) (h1 : a = c) (h2 : b = d) (hv : v = .slice A n k) : Ending.returned (.tuple #[v, .int .i64 a, .int .i64 b]) = .returned (.tuple #[.slice A m k, .int .i64 c, .int .i64 d]) := by rw [hv, h1, h2, hn]
theorem rowIs_ints {w : World} {g N : Nat} {f : Nat → Int} (h : w.rowIs g 3 N (fun j => .int .i64 (f j))) : IntsR w w.heap.size (some ⟨g, 0, none⟩) ((List.range N).map f) :=
  IntsR.of (fun k hk => ⟨g, 0, rfl, h.lt, by
    have hk' : k < N := by simpa using hk
    rw [Nat.zero_add, h.cell hk']
    simp⟩)
set_option maxRecDepth 100000 in
set_option maxHeartbeats 3200000 in
theorem PotentialsRef_any (AL AN AP : Option Addr) (cL cN cP : Nat) (P : PP) (w : World) (S : Sz P) (hR : PPR w w.heap.size AL AN AP P) :
    Calls Try.prog 20 #[.agg #[.slice AL P.lines.length cL, .slice AN P.notes.length cN, .slice AP P.pens.length cP, .int .i64 P.height, .int .i64 P.gap]] w fun e w' => ∃ A c, e = .returned (.tuple #[.slice A (potsL P).length c, .int .i64 (potsE P)]) ∧ IntsR w' w'.heap.size A (potsL P) ∧ Below w.heap.size w w' := by
  have HR := hR.alloc (.cells #[.slice AL P.lines.length cL, .slice AN P.notes.length cN, .slice AP P.pens.length cP, .int .i64 P.height, .int .i64 P.gap] 25)
  have B0 : Below w.heap.size w (w.alloc (.cells #[.slice AL P.lines.length cL, .slice AN P.notes.length cN, .slice AP P.pens.length cP, .int .i64 P.height, .int .i64 P.gap] 25)) := (Below.refl _ _).alloc (Nat.le_refl _) _
  have CK := Lib.hid (checkRef_any AL AN AP cL cN cP P _ S HR)
  by_cases h0 : chk P = 0
  · have h0' : (chk P != 0) = false := by simp [h0]
    have F := chk_fine h0
    have H0 := Lib.hid h0
    clear h0
    go_enter Try.func20, Try.ntmps20
    go_wp2_with (go_at_call 35; refine CK.out.mono ?_; rintro e w1 ⟨rfl, hb1⟩; obtain ⟨d0, d1, d2, d3, d4⟩ := box_cells hb1)
    refine (potentialsRef_any AL AN AP cL cN cP P _ F (HR.to hb1 hb1.size)).mono ?_
    rintro e w2 ⟨⟨g, rfl, hg, hrow⟩, hb2⟩
    go_wp2
    go_ret2
    have e1 : potsL P = potL P := by unfold potsL; rw [if_neg (by simp [H0.out])]
    have e2 : potsE P = 0 := by unfold potsE; rw [if_neg (by simp [H0.out])]
    rw [e1, e2, potL_len]
    exact ⟨_, _, rfl, rowIs_ints hrow, bthen (bthen B0 hb1) hb2⟩
  · have h0' : (chk P != 0) = true := by simp [h0]
    have H0 := Lib.hid h0
    clear h0
    go_enter Try.func20, Try.ntmps20
    go_wp2_with (go_at_call 35; refine CK.out.mono ?_; rintro e w1 ⟨rfl, hb1⟩)
    go_ret2
    have e1 : potsL P = [] := by unfold potsL; rw [if_pos H0.out]
    have e2 : potsE P = 1 := by unfold potsE; rw [if_pos H0.out]
    rw [e1, e2]
    exact ⟨none, 0, rfl, IntsR.nil, bthen B0 hb1⟩
set_option maxRecDepth 100000 in
set_option maxHeartbeats 3200000 in
theorem breakRef_any (AL AN AP : Option Addr) (cL cN cP : Nat) (P : PP) (w : World) (S : Sz P) (hR : PPR w w.heap.size AL AN AP P) :
    Calls Try.prog 18 #[.agg #[.slice AL P.lines.length cL, .slice AN P.notes.length cN, .slice AP P.pens.length cP, .int .i64 P.height, .int .i64 P.gap]] w fun e w' => ∃ A c, e = .returned (.tuple #[.slice A (breakL P).length c, .int .i64 (breakC P), .int .i64 (breakE P)]) ∧ IntsR w' w'.heap.size A (breakL P) ∧ Below w.heap.size w w' := by
  have HR := hR.alloc (.cells #[.slice AL P.lines.length cL, .slice AN P.notes.length cN, .slice AP P.pens.length cP, .int .i64 P.height, .int .i64 P.gap] 25)
  have B0 : Below w.heap.size w (w.alloc (.cells #[.slice AL P.lines.length cL, .slice AN P.notes.length cN, .slice AP P.pens.length cP, .int .i64 P.height, .int .i64 P.gap] 25)) := (Below.refl _ _).alloc (Nat.le_refl _) _
  have CK := Lib.hid (checkRef_any AL AN AP cL cN cP P _ S HR)
  obtain ⟨i0, hi, hz0, hz1, hz2⟩ := info_parts int_info
  by_cases h0 : chk P = 0
  rotate_left
  · have h0' : (chk P != 0) = true := by simp [h0]
    have HQ := Lib.hid (break_bad h0)
    clear h0
    go_enter Try.func18, Try.ntmps18
    go_wp2_with (go_at_call 35; refine CK.out.mono ?_; rintro e w1 ⟨rfl, hb1⟩)
    go_ret3
    obtain ⟨q1, q2, q3⟩ := HQ.out
    rw [q1, q2, q3]
    exact ⟨none, 0, rfl, IntsR.nil, bthen B0 hb1⟩
  have h0' : (chk P != 0) = false := by simp [h0]
  have F := chk_fine h0
  have H0 := Lib.hid h0
  have hln := F.ln
  clear h0
  go_enter Try.func18, Try.ntmps18
  go_wp2_with (go_at_call 35; refine CK.out.mono ?_; rintro e w1 ⟨rfl, hb1⟩; obtain ⟨d0, d1, d2, d3, d4⟩ := box_cells hb1)
  refine (potentialsRef_any AL AN AP cL cN cP P _ F (HR.to hb1 hb1.size)).mono ?_
  rintro e w2 ⟨⟨g, rfl, hg, hrow⟩, hb2⟩
  have hcg := hrow.cell (i := 0) (by omega)
  by_cases hp : pot P 0 < 0
  · have HQ := Lib.hid (break_none H0.out hp)
    go_wp2
    go_ret3
    obtain ⟨q1, q2, q3⟩ := HQ.out
    rw [q1, q2, q3]
    exact ⟨none, 0, rfl, IntsR.nil, bthen (bthen B0 hb1) hb2⟩
  have HQ := Lib.hid (break_ok H0.out hp)
  have hp0 : 0 ≤ pot P 0 := by omega
  have BB := bthen hb1 hb2
  have HR2 := HR.to BB BB.size
  have B2 := bthen B0 BB
  obtain ⟨d0, d1, d2, d3, d4⟩ := box_cells BB
  have HROW := Lib.hid hrow
  clear BB hb1 hb2 HR B0 hrow CK hR
  go_wp2_with fail
  go_loopw [6, 7] (fun o i wr => ∃ (A' : Option Addr) (c' : Nat) (ds : List Int) (k : Nat), o = .slice A' ds.length c' ∧ i = .int .i64 k ∧ Hid (AtB P ds k) ∧ ds.length ≤ k ∧ k ≤ P.lines.length ∧ OwnS wr w2.heap.size 3 1 A' ds.length c' (ds.map fun x => .int .i64 x) ∧ Below w2.heap.size w2 wr) (fun _ i _ => P.lines.length - (intOf i).toNat)
  case atStart => exact ⟨none, 0, [], 0, rfl, rfl, AtB.start hp0, Nat.le_refl _, Nat.zero_le _, OwnS.nil _ _ _ _, Below.refl _ _⟩
  case round =>
    obtain ⟨A', c', ds, k, rfl, rfl, hat, hdk, hkn, hown, hb⟩ := hrel
    have f0 := kc hb d0
    by_cases hk : k < P.lines.length
    · have HOWN := Lib.hid hown
      have HBB := Lib.hid hb
      clear hown hb
      go_wp2_with fail
      go_loopw [6, 7, 8] (fun o i j wr => ∃ q : Nat, j = .int .i64 q ∧ o = .slice A' ds.length c' ∧ i = .int .i64 k ∧ k + 1 ≤ q ∧ q ≤ P.lines.length + 1 ∧ Hid (NoneTo P k q) ∧ OwnS wr w2.heap.size 3 1 A' ds.length c' (ds.map fun x => .int .i64 x) ∧ Below w2.heap.size w2 wr) (fun _ _ j _ => P.lines.length + 1 - (intOf j).toNat)
      case atStart => exact ⟨k + 1, by first | rfl | go_num, rfl, rfl, by omega, by omega, fun x h1 h2 => by omega, HOWN.out, HBB.out⟩
      case round =>
        obtain ⟨q, rfl, rfl, rfl, hq0, hq1, HN, hown, hb⟩ := hrel
        by_cases hqn : q ≤ P.lines.length
        · have HP := Lib.hid (fun w hR => pageRef_any AL AN AP cL cN cP P k q w F hR (by omega) hqn (by omega))
          have g0 := kc hb d0
          have g1 := kc hb d1
          have g2 := kc hb d2
          have g3 := kc hb d3
          have g4 := kc hb d4
          have HRr := HR2.to hb hb.size
          have HB := Lib.hid hb
          have HOW := Lib.hid hown
          have hrow := rowBelow HROW.out hb
          have hcq := hrow.cell (i := q) (by omega)
          have hci := hrow.cell (i := k) (by omega)
          have hC := F.pageC_bd k q
          have hV := pot_bd F q
          have hR := pot_bd F k
          obtain ⟨V, hVe⟩ : ∃ V, pot P q = V := ⟨_, rfl⟩
          obtain ⟨R, hRe⟩ : ∃ R, pot P k = R := ⟨_, rfl⟩
          rw [hVe] at hcq hV
          rw [hRe] at hci hR
          have HVe := Lib.hid hVe
          have HRe := Lib.hid hRe
          clear hown hrow hVe hRe hb
          have j0 : (0 : Int) ≤ (q : Int) := by omega
          have j1 : (q : Int) < (P.lines.length : Int) + 1 := by omega
          have j2 : (0 : Int) ≤ (k : Int) := by omega
          have j3 : (k : Int) < (P.lines.length : Int) + 1 := by omega
          have HSUM := Lib.hid (show IntKind.i64.wrap (P.pageC k q + V) = P.pageC k q + V by rw [IntKind.wrap_i64]; omega)
          by_cases e0 : P.pageE k q = 0
          · have b0 : (P.pageE k q == 0) = true := by simp [e0]
            by_cases hv : V < 0
            · have b1 : decide (0 ≤ V) = false := by simpa using hv
              have okf := Lib.hid (show okJ P k q = false by unfold okJ; rw [HVe.out, b1]; simp)
              clear e0
              go_wp2_with (go_at_call 63; refine (HP.out _ HRr).mono ?_; rintro e w7 ⟨rfl, b7⟩; have kq := kc b7 hcq; have ki := kc b7 hci)
              go_quiet (fail)
              go_wp2
              go_roundw
              case rel => exact ⟨q + 1, by first | rfl | go_num, rfl, rfl, by omega, by omega, HN.out.step (by rw [okf.out]), (HOW.out.below b7).drewN _, below_drewN (bthen HB.out b7) _⟩
              case measure => simp [intOf]; omega
            have b1 : decide (0 ≤ V) = true := by simpa using hv
            by_cases he : P.pageC k q + V = R
            · have b2 : (P.pageC k q + V == R) = true := by simp [he]
              have okt := Lib.hid (show okJ P k q = true from okJ_iff.2 ⟨e0, by rw [HVe.out]; omega, by rw [HVe.out, HRe.out]; exact he⟩)
              have HNX := Lib.hid (hat.out.step hk (nextJ_some (by omega) hqn okt.out HN.out))
              clear e0 he
              have hsum := HSUM.out
              go_wp2_with (go_at_call 63; refine (HP.out _ HRr).mono ?_; rintro e w7 ⟨rfl, b7⟩; have kq := kc b7 hcq; have ki := kc b7 hci)
              go_quiet (fail)
              clear hsum
              have hown7 := (HOW.out.below b7).drewN nq
              have hb7 := below_drewN (bthen HB.out b7) nq
              have hsz : w2.heap.size ≤ w7.heap.size := (bthen HB.out b7).size
              go_wp2_with (at_builtin; refine wpList_app _ rfl (.tmp 63) (.tmp 65) 22 rfl w2.heap.size 3 i0 (.int .i64 0) 1 8 Try.underlying22 hi hz0 hz1 hz2 rfl (by decide) A' ds.length c' (ds.map fun x => .int .i64 x) rfl (hown7.alloc _) (w7.heap.size + 1) _ 1 1 [_] rfl (by simp) (Row.one _ _ _ _ (by simp)) (by simp [Value.oneCell']) (by simp only [maxLen]; omega) (by omega) (by simp; omega) ?_; intro A1 c1 w8 hown8 hgr hA8)
              go_roundw
              case rel =>
                refine ⟨A1, c1, ds ++ [(q : Int)], q, by simp, rfl, HNX.out, by simp; omega, hqn, by simpa using hown8, ?_⟩
                exact (hown7.alloc _).belowGrown (hb7.alloc (by simp; omega) _) (Nat.le_refl _) (by simp; omega) hgr
              case measure => simp [intOf]; omega
            · have b2 : (P.pageC k q + V == R) = false := by simp [he]
              have okf := Lib.hid (show okJ P k q = false by unfold okJ; rw [HVe.out, HRe.out]; simp [he])
              clear e0 he
              have hsum := HSUM.out
              go_wp2_with (go_at_call 63; refine (HP.out _ HRr).mono ?_; rintro e w7 ⟨rfl, b7⟩; have kq := kc b7 hcq; have ki := kc b7 hci)
              go_quiet (fail)
              clear hsum
              go_wp2
              go_roundw
              case rel => exact ⟨q + 1, by first | rfl | go_num, rfl, rfl, by omega, by omega, HN.out.step (by rw [okf.out]), (HOW.out.below b7).drewN _, below_drewN (bthen HB.out b7) _⟩
              case measure => simp [intOf]; omega
          · have b0 : (P.pageE k q == 0) = false := by simp [e0]
            have okf := Lib.hid (show okJ P k q = false by unfold okJ; simp [e0])
            clear e0
            go_wp2_with (go_at_call 63; refine (HP.out _ HRr).mono ?_; rintro e w7 ⟨rfl, b7⟩; have kq := kc b7 hcq; have ki := kc b7 hci)
            go_quiet (fail)
            go_wp2
            go_roundw
            case rel => exact ⟨q + 1, by first | rfl | go_num, rfl, rfl, by omega, by omega, HN.out.step (by rw [okf.out]), (HOW.out.below b7).drewN _, below_drewN (bthen HB.out b7) _⟩
            case measure => simp [intOf]; omega
        · exact (HN.out.never (by omega) hk hat.out.p).elim
    · have HD := Lib.hid (hat.out.done (by omega))
      have hrow := rowBelow HROW.out hb
      have hcg := hrow.cell (i := 0) (by omega)
      have j0 : (0 : Int) < (P.lines.length : Int) + 1 := by omega
      go_wp2_with fail
      go_quiet (fail)
      go_wp2_with fail
      go_ret3
      obtain ⟨q1, q2, q3⟩ := HQ.out
      rw [q1, q2, q3, ← HD.out]
      exact ⟨A', c', rfl, (hown.drewN _).row, below_drewN (bthen B2 hb) _⟩
end Go.Proofs.Ytemlljgldkkkgaa
