/- The reference's Verify. -/
import Derived.Test.YtemlljgldkkkgaaRef7
import Derived.Test.YtemlljgldkkkgaaRef5
namespace Go.Proofs.Ytemlljgldkkkgaa
open Go.RowKit
theorem wrapEq (x : Int) : IntKind.i64.wrap x = wrap64 x := by rw [IntKind.wrap_i64]; unfold wrap64; rfl
/-- the pages from i to before q bear the numbers L -/
def VOkTo (P : PP) (L : Nat → Int) (i q : Nat) : Prop := ∀ j, i < j → j < q → P.pageE i j = 0 → L j ≠ -1 → 0 ≤ L i ∧ L i ≤ wrap64 (P.pageC i j + L j)
def RefOk (P : PP) (L : Nat → Int) (k : Nat) : Prop := ∀ i, i < k → -1 ≤ L i ∧ VOkTo P L i (P.lines.length + 1)
def lAt (l : List Int) (j : Nat) : Int := l.getD j 0
/-- what Verify asks of the numbers -/
def CertR (P : PP) (ends l : List Int) : Prop := l.length = P.lines.length + 1 ∧ lAt l P.lines.length = 0 ∧ lAt l 0 = costC P ends ∧ RefOk P (lAt l) P.lines.length
open Classical in
noncomputable def verR (P : PP) (ends l : List Int) : Int := if costE P ends ≠ 0 then costE P ends else if CertR P ends l then 0 else 18
theorem verR_e {P : PP} {ends l : List Int} (h : costE P ends ≠ 0) : verR P ends l = costE P ends := by unfold verR; rw [if_pos h]
theorem verR_18 {P : PP} {ends l : List Int} (h : costE P ends = 0) (h2 : ¬ CertR P ends l) : verR P ends l = 18 := by unfold verR; rw [if_neg (by simp [h]), if_neg h2]
theorem verR_0 {P : PP} {ends l : List Int} (h : costE P ends = 0) (h2 : CertR P ends l) : verR P ends l = 0 := by unfold verR; rw [if_neg (by simp [h]), if_pos h2]
theorem VOkTo.step {P : PP} {L : Nat → Int} {i q : Nat} (h : VOkTo P L i q) (hq : P.pageE i q = 0 → L q ≠ -1 → 0 ≤ L i ∧ L i ≤ wrap64 (P.pageC i q + L q)) : VOkTo P L i (q + 1) := fun j h1 h2 => by
  by_cases e : j = q
  · subst e; exact hq
  · exact h j h1 (by omega)
theorem VOkTo.fill {P : PP} (F : Fine P) {L : Nat → Int} {i q : Nat} (h : VOkTo P L i q) (hq : i < q) (h22 : P.pageE i q = 22) : VOkTo P L i (P.lines.length + 1) := fun j h1 h2 he => by
  by_cases e : j < q
  · exact h j h1 e he
  · have := F.high (by omega) (show q ≤ j by omega) h22
    rw [this] at he; cases he
theorem RefOk.step {P : PP} {L : Nat → Int} {k : Nat} (h : RefOk P L k) (h1 : -1 ≤ L k) (h2 : VOkTo P L k (P.lines.length + 1)) : RefOk P L (k + 1) := fun i hi => by
  by_cases e : i = k
  · subst e; exact ⟨h1, h2⟩
  · exact h i (by omega)
theorem IntsR.lAt_at {w : World} {B : Nat} {A : Option Addr} {l : List Int} (h : IntsR w B A l) {k : Nat} (hk : k < l.length) : ∃ b o, A = some ⟨b, o, none⟩ ∧ b < B ∧ w.cell? ⟨b, o + k, none⟩ = some (.int .i64 (lAt l k)) := by
  unfold lAt; rw [getD_lt' hk]; exact h.at_ hk
/-- a number that the machine's int holds -/
def I64 (x : Int) : Prop := -9223372036854775808 ≤ x ∧ x ≤ 9223372036854775807
set_option maxRecDepth 100000 in
set_option maxHeartbeats 3200000 in
theorem verifyRef_any (AL AN AP : Option Addr) (cL cN cP : Nat) (P : PP) (AE : Option Addr) (cE : Nat) (ends : List Int) (AL2 : Option Addr) (cL2 : Nat) (l : List Int) (w : World) (S : Sz P) (hR : PPR w w.heap.size AL AN AP P) (hE : IntsR w w.heap.size AE ends) (hn : ends.length ≤ 1000000) (hL : IntsR w w.heap.size AL2 l) (_hn2 : l.length ≤ 1000000) :
    Calls Try.prog 23 #[.agg #[.slice AL P.lines.length cL, .slice AN P.notes.length cN, .slice AP P.pens.length cP, .int .i64 P.height, .int .i64 P.gap], .slice AE ends.length cE, .slice AL2 l.length cL2] w fun e w' => e = .returned (.int .i64 (verR P ends l)) ∧ Below w.heap.size w w' := by
  have HR := hR.alloc (.cells #[.slice AL P.lines.length cL, .slice AN P.notes.length cN, .slice AP P.pens.length cP, .int .i64 P.height, .int .i64 P.gap] 25)
  have B0 : Below w.heap.size w (w.alloc (.cells #[.slice AL P.lines.length cL, .slice AN P.notes.length cN, .slice AP P.pens.length cP, .int .i64 P.height, .int .i64 P.gap] 25)) := (Below.refl _ _).alloc (Nat.le_refl _) _
  have CK := Lib.hid (costRef_any AL AN AP cL cN cP P AE cE ends _ S HR (hE.to B0 B0.size) hn)
  by_cases h0 : costE P ends = 0
  rotate_left
  · have h0' : (costE P ends != 0) = true := by simp [h0]
    have HQ := Lib.hid (verR_e (l := l) h0)
    clear h0
    go_enter Try.func23, Try.ntmps23
    go_wp2_with (go_at_call 31; refine CK.out.mono ?_; rintro e w1 ⟨rfl, hb1⟩)
    go_ret
    exact ⟨ret_int HQ.out.symm, bthen B0 hb1⟩
  have h0' : (costE P ends != 0) = false := by simp [h0]
  have H0 := Lib.hid h0
  have FF : chk P = 0 := by
    by_cases hc : chk P = 0
    · exact hc
    · rw [(cost_bad hc ends).2] at h0; cases h0
  have F := chk_fine FF
  have hln := F.ln
  clear h0 FF
  by_cases a1 : l.length = P.lines.length + 1
  rotate_left
  · have b1 : ((l.length : Int) != (P.lines.length : Int) + 1) = true := by simp; omega
    have HQ := Lib.hid (verR_18 H0.out (fun c => a1 c.1))
    clear a1
    go_enter Try.func23, Try.ntmps23
    go_wp2_with (go_at_call 31; refine CK.out.mono ?_; rintro e w1 ⟨rfl, hb1⟩; obtain ⟨d0, d1, d2, d3, d4⟩ := box_cells hb1)
    go_ret
    exact ⟨ret_int HQ.out.symm, bthen B0 hb1⟩
  have b1 : ((l.length : Int) != (P.lines.length : Int) + 1) = false := by simp; omega
  have A1 := Lib.hid a1
  have l1 : P.lines.length < l.length := by omega
  have l2 : l.length ≤ P.lines.length + 1 := by omega
  obtain ⟨bl, ol, rfl, hbl, hcn⟩ := hL.lAt_at (k := P.lines.length) (by omega)
  obtain ⟨bl', ol', hA', hbl', hc0⟩ := hL.lAt_at (k := 0) (by omega)
  injection hA' with hA'
  injection hA' with e1 e2
  subst e1 e2
  simp only [Nat.add_zero] at hc0
  have HCN := Lib.hid (kc B0 hcn)
  have HC0 := Lib.hid (kc B0 hc0)
  clear a1 hcn hc0
  by_cases a2 : lAt l P.lines.length = 0
  rotate_left
  · have b2 : (lAt l P.lines.length != 0) = true := by simp [a2]
    have HQ := Lib.hid (verR_18 H0.out (fun c => a2 c.2.1))
    clear a2
    go_enter Try.func23, Try.ntmps23
    go_wp2_with (go_at_call 31; refine CK.out.mono ?_; rintro e w1 ⟨rfl, hb1⟩; obtain ⟨d0, d1, d2, d3, d4⟩ := box_cells hb1; have kn := kc hb1 HCN.out; have k0 := kc hb1 HC0.out)
    go_ret
    exact ⟨ret_int HQ.out.symm, bthen B0 hb1⟩
  have b2 : (lAt l P.lines.length != 0) = false := by simp [a2]
  have A2 := Lib.hid a2
  clear a2
  by_cases a3 : lAt l 0 = costC P ends
  rotate_left
  · have b3 : (lAt l 0 != costC P ends) = true := by simp [a3]
    have HQ := Lib.hid (verR_18 H0.out (fun c => a3 c.2.2.1))
    clear a3
    go_enter Try.func23, Try.ntmps23
    go_wp2_with (go_at_call 31; refine CK.out.mono ?_; rintro e w1 ⟨rfl, hb1⟩; obtain ⟨d0, d1, d2, d3, d4⟩ := box_cells hb1; have kn := kc hb1 HCN.out; have k0 := kc hb1 HC0.out)
    go_ret
    exact ⟨ret_int HQ.out.symm, bthen B0 hb1⟩
  have b3 : (lAt l 0 != costC P ends) = false := by simp [a3]
  have A3 := Lib.hid a3
  clear a3
  go_enter Try.func23, Try.ntmps23
  go_wp2_with (go_at_call 31; refine CK.out.mono ?_; rintro e w1 ⟨rfl, hb1⟩; obtain ⟨d0, d1, d2, d3, d4⟩ := box_cells hb1; have kn := kc hb1 HCN.out; have k0 := kc hb1 HC0.out)
  have HR1 := HR.to hb1 hb1.size
  have HL1 := hL.to (bthen B0 hb1) (bthen B0 hb1).size
  have B1 := bthen B0 hb1
  clear CK hR hE hL HR hb1 B0 kn k0
  go_loopw [10] (fun i wr => ∃ k : Nat, i = .int .i64 k ∧ k ≤ P.lines.length ∧ Hid (RefOk P (lAt l) k) ∧ Below w1.heap.size w1 wr) (fun i _ => P.lines.length - (intOf i).toNat)
  case atStart => exact ⟨0, rfl, Nat.zero_le _, fun i hi => by omega, Below.refl _ _⟩
  case round =>
    obtain ⟨k, rfl, hk, hok, hb⟩ := hrel
    by_cases hkn : k < P.lines.length
    · obtain ⟨b5, o5, hA5, hb5, hck⟩ := (HL1.below hb).lAt_at (k := k) (by omega)
      injection hA5 with hA5
      injection hA5 with e1 e2
      subst e1 e2
      by_cases c1 : lAt l k < -1
      · have HQ := Lib.hid (verR_18 (l := l) (ends := ends) H0.out (fun c => by have := (c.2.2.2 k hkn).1; omega))
        go_wp2
        go_ret
        exact ⟨ret_int HQ.out.symm, bthen B1 hb⟩
      have HBB := Lib.hid hb
      go_wp2_with fail
      clear hck hb
      go_loopw [11] (fun j wr => ∃ q : Nat, j = .int .i64 q ∧ k + 1 ≤ q ∧ q ≤ P.lines.length + 1 ∧ Hid (VOkTo P (lAt l) k q) ∧ Below w1.heap.size w1 wr) (fun j _ => P.lines.length + 1 - (intOf j).toNat)
      case atStart => exact ⟨k + 1, by first | rfl | go_num, by omega, by omega, fun j h1 h2 => by omega, HBB.out⟩
      case round =>
        obtain ⟨q, rfl, hq0, hq1, hv, hb⟩ := hrel
        by_cases hqn : q ≤ P.lines.length
        · have HP := Lib.hid (fun w hR => pageRef_any AL AN AP cL cN cP P k q w F hR (by omega) hqn (by omega))
          have g0 := kc hb d0
          have g1 := kc hb d1
          have g2 := kc hb d2
          have g3 := kc hb d3
          have g4 := kc hb d4
          have HRr := HR1.to hb hb.size
          have HB := Lib.hid hb
          obtain ⟨b6, o6, hA6, hb6, hci⟩ := (HL1.below hb).lAt_at (k := k) (by omega)
          injection hA6 with hA6
          injection hA6 with e1 e2
          subst e1 e2
          obtain ⟨b7', o7', hA7, hb7', hcq⟩ := (HL1.below hb).lAt_at (k := q) (by omega)
          injection hA7 with hA7
          injection hA7 with e1 e2
          subst e1 e2
          clear hb
          have hC := F.pageC_bd k q
          obtain ⟨V, hVe⟩ : ∃ V, lAt l q = V := ⟨_, rfl⟩
          obtain ⟨R, hRe⟩ : ∃ R, lAt l k = R := ⟨_, rfl⟩
          rw [hVe] at hcq
          rw [hRe] at hci
          have HVe := Lib.hid hVe
          have HRe := Lib.hid hRe
          clear hVe hRe
          have j0 : (0 : Int) ≤ (q : Int) := by omega
          have j1 : (q : Int) < (l.length : Int) := by omega
          have j2 : (0 : Int) ≤ (k : Int) := by omega
          have j3 : (k : Int) < (l.length : Int) := by omega
          by_cases e22 : P.pageE k q = 22
          · have f22 : (P.pageE k q == 22) = true := by simp [e22]
            have HS := Lib.hid (hok.out.step (by rw [HRe.out]; have := HRe.out; omega) (hv.out.fill F (by omega) e22))
            clear e22
            go_wp2_with (go_at_call 63; refine (HP.out _ HRr).mono ?_; rintro e w7 ⟨rfl, b7⟩; have kq := kc b7 hcq; have ki := kc b7 hci)
            go_roundw
            case rel => exact ⟨k + 1, by go_num, by omega, HS.out, bthen HB.out b7⟩
            case measure => simp [intOf]; omega
          have f22 : (P.pageE k q == 22) = false := by simp [e22]
          by_cases e0 : P.pageE k q = 0
          · have f0 : (P.pageE k q == 0) = true := by simp [e0]
            by_cases hv1 : V = -1
            · have g5 : (V != -1) = false := by simp [hv1]
              have HS := Lib.hid (hv.out.step (fun _ h => absurd (HVe.out.trans hv1) h))
              clear hv1 e0 e22
              go_wp2_with (go_at_call 63; refine (HP.out _ HRr).mono ?_; rintro e w7 ⟨rfl, b7⟩; have kq := kc b7 hcq; have ki := kc b7 hci)
              go_quiet (fail)
              go_wp2
              go_roundw
              case rel => exact ⟨q + 1, by first | rfl | go_num, by omega, by omega, HS.out, below_drewN (bthen HB.out b7) _⟩
              case measure => simp [intOf]; omega
            have g5 : (V != -1) = true := by simp [hv1]
            by_cases hr : R < 0
            · have g6 : decide (R < 0) = true := by simpa using hr
              have HQ := Lib.hid (verR_18 (l := l) (ends := ends) H0.out (fun c => by have := ((c.2.2.2 k hkn).2 q (by omega) (by omega) e0 (by rw [HVe.out]; exact hv1)).1; rw [HRe.out] at this; omega))
              clear hv1 e0 e22
              go_wp2_with (go_at_call 63; refine (HP.out _ HRr).mono ?_; rintro e w7 ⟨rfl, b7⟩; have kq := kc b7 hcq; have ki := kc b7 hci)
              go_quiet (fail)
              go_wp2
              go_ret
              exact ⟨ret_int HQ.out.symm, bthen B1 (below_drewN (bthen HB.out b7) _)⟩
            have g6 : decide (R < 0) = false := by simpa using hr
            by_cases hs : wrap64 (P.pageC k q + V) < R
            · have g7 : decide (wrap64 (P.pageC k q + V) < R) = true := by simpa using hs
              have HQ := Lib.hid (verR_18 (l := l) (ends := ends) H0.out (fun c => by have := ((c.2.2.2 k hkn).2 q (by omega) (by omega) e0 (by rw [HVe.out]; exact hv1)).2; rw [HRe.out, HVe.out] at this; omega))
              clear hv1 e0 e22
              go_wp2_with (go_at_call 63; refine (HP.out _ HRr).mono ?_; rintro e w7 ⟨rfl, b7⟩; have kq := kc b7 hcq; have ki := kc b7 hci)
              go_quiet (fail)
              go_wp2
              go_ret
              exact ⟨ret_int HQ.out.symm, bthen B1 (below_drewN (bthen HB.out b7) _)⟩
            · have g7 : decide (wrap64 (P.pageC k q + V) < R) = false := by simpa using hs
              have HS := Lib.hid (hv.out.step (fun _ _ => by rw [HRe.out, HVe.out]; omega))
              clear hv1 e0 e22
              go_wp2_with (go_at_call 63; refine (HP.out _ HRr).mono ?_; rintro e w7 ⟨rfl, b7⟩; have kq := kc b7 hcq; have ki := kc b7 hci)
              go_quiet (fail)
              go_wp2
              go_roundw
              case rel => exact ⟨q + 1, by first | rfl | go_num, by omega, by omega, HS.out, below_drewN (bthen HB.out b7) _⟩
              case measure => simp [intOf]; omega
          · have f0 : (P.pageE k q == 0) = false := by simp [e0]
            have HS := Lib.hid (hv.out.step (fun h => absurd h e0))
            clear e0 e22
            go_wp2_with (go_at_call 63; refine (HP.out _ HRr).mono ?_; rintro e w7 ⟨rfl, b7⟩; have kq := kc b7 hcq; have ki := kc b7 hci)
            go_quiet (fail)
            go_wp2
            go_roundw
            case rel => exact ⟨q + 1, by first | rfl | go_num, by omega, by omega, HS.out, below_drewN (bthen HB.out b7) _⟩
            case measure => simp [intOf]; omega
        · have HV := Lib.hid (hok.out.step (by omega) (by obtain rfl : q = P.lines.length + 1 := by omega
                                                          exact hv.out))
          have HBL := Lib.hid hb
          clear hb
          go_wp2
          go_roundw
          case rel => exact ⟨k + 1, by go_num, by omega, HV.out, HBL.out⟩
          case measure => simp [intOf]; omega
    · obtain rfl : k = P.lines.length := by omega
      have HQ := Lib.hid (verR_0 (l := l) (ends := ends) H0.out ⟨A1.out, A2.out, A3.out, hok.out⟩)
      go_wp2
      go_ret
      exact ⟨ret_int HQ.out.symm, bthen B1 hb⟩
end Go.Proofs.Ytemlljgldkkkgaa
