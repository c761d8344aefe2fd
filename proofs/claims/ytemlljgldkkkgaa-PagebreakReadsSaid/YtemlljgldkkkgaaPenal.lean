/- The program's penalties. Condition: up to 1000000 numbers. -/
import Derived.Test.YtemlljgldkkkgaaRefPen
import Derived.Test.YtemlljgldkkkgaaPen2
import Derived.Test.YtemlljgldkkkgaaNewSums
namespace Go.Proofs.Ytemlljgldkkkgaa
open Go.RowKit
def penF (N : Nat) (xs : List Int) (k : Nat) : Int := if k = 0 then 0 else (penYs N xs).getD (k - 1) 0
theorem penF_succ {N : Nat} {xs : List Int} {k : Nat} (h : k < (penYs N xs).length) : penF N xs (k + 1) = (penYs N xs)[k] := by
  unfold penF; rw [if_neg (by omega), Nat.add_sub_cancel, getD_lt' h]
theorem penF_eq {N : Nat} {xs : List Int} {k : Nat} (h : k ≤ xs.length) : penF N xs k = penFrom xs k := by
  unfold penF penFrom
  by_cases e : k = 0
  · rw [if_pos e, if_pos e]
  · have hl := penYs_len N xs
    rw [if_neg e, if_neg e, getD_lt' (by omega), getD_lt' (by omega), penYs_lt (by omega)]
theorem small_any (x : Int) (w : World) : Calls Try.prog 69 #[.int .i64 x] w fun e w' => e = .returned (.bool (decide (0 ≤ x ∧ x ≤ 10000))) ∧ Below w.heap.size w w' := by
  by_cases h0 : 0 ≤ x
  · have d0 : decide (0 ≤ x) = true := by simpa using h0
    by_cases h1 : x ≤ 10000
    · have d1 : decide (x ≤ 10000) = true := by simpa using h1
      have D : decide (0 ≤ x ∧ x ≤ 10000) = true := by simp; omega
      rw [D]
      clear h0 h1 D
      go_enter Try.func69, Try.ntmps69
      go_wp2
      go_ret
      exact ⟨rfl, Below.refl _ _⟩
    · have d1 : decide (x ≤ 10000) = false := by simpa using h1
      have D : decide (0 ≤ x ∧ x ≤ 10000) = false := by simp; omega
      rw [D]
      clear h0 h1 D
      go_enter Try.func69, Try.ntmps69
      go_wp2
      go_ret
      exact ⟨rfl, Below.refl _ _⟩
  · have d0 : decide (0 ≤ x) = false := by simpa using h0
    have D : decide (0 ≤ x ∧ x ≤ 10000) = false := by simp; omega
    rw [D]
    clear h0 D
    go_enter Try.func69, Try.ntmps69
    go_wp2
    go_ret
    exact ⟨rfl, Below.refl _ _⟩
set_option maxRecDepth 100000 in
set_option maxHeartbeats 6400000 in
theorem Penalties_any (A : Option Addr) (c : Nat) (xs : List Int) (n wi o : Int) (w : World) (hR : IntsR w w.heap.size A xs) (hx : xs.length ≤ 1000000) :
    Calls Try.prog 32 #[.int .i64 n, .slice A xs.length c, .int .i64 wi, .int .i64 o] w fun e w' => ∃ A' c', e = .returned (.tuple #[.slice A' (penL n xs wi o).length c', .int .i64 (penE n xs wi o)]) ∧ IntsR w' w'.heap.size A' (penL n xs wi o) ∧ Below w.heap.size w w' := by
  by_cases hbad : penBad n wi o
  · obtain ⟨e1, e2⟩ := pen_bad (xs := xs) hbad
    rw [e1, e2]
    clear e1 e2
    have HB := Lib.hid hbad
    clear hbad
    by_cases h1 : n < 0
    · have d1 : decide (n < 0) = true := by simpa using h1
      clear h1
      go_enter Try.func32, Try.ntmps32
      go_wp2
      go_ret2
      exact ⟨none, 0, rfl, IntsR.nil, Below.refl _ _⟩
    have d1 : decide (n < 0) = false := by simpa using h1
    by_cases h2 : 4096 < n
    · have d2 : decide (4096 < n) = true := by simpa using h2
      clear h1 h2
      go_enter Try.func32, Try.ntmps32
      go_wp2
      go_ret2
      exact ⟨none, 0, rfl, IntsR.nil, Below.refl _ _⟩
    have d2 : decide (4096 < n) = false := by simpa using h2
    have C1 := Lib.hid (fun w => small_any wi w)
    have C2 := Lib.hid (fun w => small_any o w)
    by_cases h3 : 0 ≤ wi ∧ wi ≤ 10000
    rotate_left
    · have E := Lib.hid (show decide (0 ≤ wi ∧ wi ≤ 10000) = false by simpa using h3)
      clear h1 h2 h3
      go_enter Try.func32, Try.ntmps32
      go_wp2_with fail
      refine (C1.out _).mono ?_
      rw [E.out]
      rintro e w1 ⟨rfl, hb1⟩
      go_wp2
      go_ret2
      exact ⟨none, 0, rfl, IntsR.nil, hb1⟩
    have h4 : ¬ (0 ≤ o ∧ o ≤ 10000) := fun h => absurd HB.out (by unfold penBad; omega)
    have E := Lib.hid (show decide (0 ≤ wi ∧ wi ≤ 10000) = true by simpa using h3)
    have E2 := Lib.hid (show decide (0 ≤ o ∧ o ≤ 10000) = false by simpa using h4)
    clear h1 h2 h3 h4
    go_enter Try.func32, Try.ntmps32
    go_wp2_with fail
    refine (C1.out _).mono ?_
    rw [E.out]
    rintro e w1 ⟨rfl, hb1⟩
    go_wp2_with fail
    refine (C2.out _).mono ?_
    rw [E2.out]
    rintro e w2 ⟨rfl, hb2⟩
    go_wp2
    go_ret2
    exact ⟨none, 0, rfl, IntsR.nil, bthen hb1 hb2⟩
  have HN := Lib.hid hbad
  obtain ⟨N, rfl, hN⟩ : ∃ N : Nat, n = (N : Int) ∧ N ≤ 4096 := ⟨n.toNat, by unfold penBad at hbad; omega, by unfold penBad at hbad; omega⟩
  have hw0 : 0 ≤ wi := by unfold penBad at hbad; omega
  have hw1 : wi ≤ 10000 := by unfold penBad at hbad; omega
  have ho0 : 0 ≤ o := by unfold penBad at hbad; omega
  have ho1 : o ≤ 10000 := by unfold penBad at hbad; omega
  have d1 : decide ((N : Int) < 0) = false := by simp
  have d2 : decide (4096 < (N : Int)) = false := by simp; omega
  have C1 := small_any wi w
  have C2 := Lib.hid (fun w => small_any o w)
  rw [show decide (0 ≤ wi ∧ wi ≤ 10000) = true by simp; omega] at C1
  have E2 := Lib.hid (show decide (0 ≤ o ∧ o ≤ 10000) = true by simp; omega)
  have C1 := Lib.hid C1
  clear hbad
  go_enter Try.func32, Try.ntmps32
  go_wp2_with fail
  refine C1.out.mono ?_
  rintro e w1 ⟨rfl, hb1⟩
  go_wp2_with fail
  refine (C2.out _).mono ?_
  rw [E2.out]
  rintro e w2 ⟨rfl, hb2⟩
  have hR2 := hR.to (bthen hb1 hb2) (bthen hb1 hb2).size
  have B2 := bthen hb1 hb2
  clear d1 d2 C1 C2 E2 hb1 hb2
  go_wp2_with fail
  go_loopw [38] (fun i wr => ∃ k : Nat, i = .int .i64 k ∧ Hid (ScanAt N xs k) ∧ k ≤ xs.length ∧ Below w2.heap.size w2 wr) (fun i _ => xs.length - (intOf i).toNat)
  case atStart => exact ⟨0, rfl, ScanAt.zero, Nat.zero_le _, Below.refl _ _⟩
  case round =>
    obtain ⟨k, rfl, hs, hk, hb⟩ := hrel
    have HB2 := Lib.hid B2
    by_cases hlt : k < xs.length
    · obtain ⟨b, o', rfl, hbl, hc⟩ := (hR2.below hb).at_ hlt
      by_cases h0 : xs[k] < 0
      · have HE := Lib.hid (pen_scan HN.out (by rw [hs.out.range hlt (.inl h0)]; decide))
        have HS := Lib.hid (hs.out.range hlt (.inl h0))
        have d1 : decide (xs[k] < 0) = true := by simpa using h0
        clear h0
        go_wp2
        go_ret2
        rw [HE.out.1, HE.out.2, HS.out]
        exact ⟨none, 0, rfl, IntsR.nil, bthen HB2.out hb⟩
      have d1 : decide (xs[k] < 0) = false := by simpa using h0
      by_cases h1 : (N : Int) ≤ xs[k]
      · have HE := Lib.hid (pen_scan HN.out (by rw [hs.out.range hlt (.inr h1)]; decide))
        have HS := Lib.hid (hs.out.range hlt (.inr h1))
        have d2 : decide ((N : Int) ≤ xs[k]) = true := by simpa using h1
        clear h0 h1
        go_wp2
        go_ret2
        rw [HE.out.1, HE.out.2, HS.out]
        exact ⟨none, 0, rfl, IntsR.nil, bthen HB2.out hb⟩
      have d2 : decide ((N : Int) ≤ xs[k]) = false := by simpa using h1
      have i0 : 0 ≤ xs[k] := by omega
      have HB := Lib.hid hb
      by_cases hk0 : k = 0
      · have hp1 : prevA xs k = -1 := by rw [hk0]; rfl
        have HSC := Lib.hid (hs.out.step hlt i0 (by omega) (by omega))
        clear hp1
        have d3 : decide (0 < (k : Int)) = false := by simp; omega
        have d3' : decide (0 < k) = false := by simp; omega
        clear h0 h1 hs hb
        obtain ⟨x, hx⟩ : ∃ x, xs[k] = x := ⟨_, rfl⟩
        rw [hx] at hc d1 d2 i0
        clear hx hk0
        go_wp2
        go_roundw
        case rel => exact ⟨k + 1, by go_num, HSC.out, by omega, HB.out⟩
        case measure => simp [intOf]; omega
      have d3 : decide (0 < (k : Int)) = true := by simp; omega
      obtain ⟨m, rfl⟩ : ∃ m, k = m + 1 := ⟨k - 1, by omega⟩
      obtain ⟨b2, o2, h', hbl2, hc2⟩ := (hR2.below HB.out).at_ (show m < xs.length by omega)
      injection h' with h'
      injection h' with h2 h3
      subst h2 h3
      by_cases h4 : xs[m + 1] ≤ xs[m]
      · have HE := Lib.hid (pen_scan HN.out (by rw [hs.out.order hlt i0 (by omega) (by rw [prevA_succ (by omega)]; exact h4)]; decide))
        have HSE := Lib.hid (hs.out.order hlt i0 (by omega) (by rw [prevA_succ (by omega)]; exact h4))
        have d4 : decide (xs[m + 1] ≤ xs[m]) = true := by simpa using h4
        clear h0 h1 hs hb h4
        go_wp2
        go_ret2
        rw [HE.out.1, HE.out.2, HSE.out]
        exact ⟨none, ⟨0, rfl⟩, IntsR.nil, bthen HB2.out HB.out⟩
      have d4 : decide (xs[m + 1] ≤ xs[m]) = false := by simpa using h4
      have HSC := Lib.hid (hs.out.step hlt i0 (by omega) (by rw [prevA_succ (by omega)]; exact h4))
      clear h0 h1 hs hb h4
      go_wp2
      go_roundw
      case rel => exact ⟨m + 1 + 1, by go_num, HSC.out, by omega, HB.out⟩
      case measure => simp [intOf]; omega
    · obtain rfl : k = xs.length := by omega
      have HSZ := Lib.hid (hs.out.done)
      have hmk := run_make_row' (P := Try.prog) 22 3 (.int .i64 0) 8 Try.underlying22 int_info rfl .i64 .i64 N (by omega) (by omega)
      have hlt' : decide ((xs.length : Int) < (xs.length : Int)) = false := by simp
      go_upto_region 13 with (fail)
      clear hmk hlt' hlt hk
      have hrow0 := World.rowIs_made wr (.int .i64 0) N 3
      have hb0 := (bthen B2 hb).alloc (bthen B2 hb).size (.cells (madeCells #[.int .i64 0] N) 3)
      have hR0 := (hR2.to hb hb.size).to ((Below.refl wr.heap.size wr).alloc (Nat.le_refl _) (.cells (madeCells #[.int .i64 0] N) 3)) (show wr.heap.size ≤ (wr.alloc (.cells (madeCells #[.int .i64 0] N) 3)).heap.size by simp)
      have hgl := (bthen B2 hb).size
      obtain ⟨g2, hg2⟩ : ∃ g2, wr.heap.size = g2 := ⟨_, rfl⟩
      rw [hg2] at hrow0 hgl ⊢
      obtain ⟨W1, hW1⟩ : ∃ W1, wr.alloc (.cells (madeCells #[.int .i64 0] N) 3) = W1 := ⟨_, rfl⟩
      rw [hW1] at hrow0 hb0 hR0 ⊢
      clear hW1 hb B2 hg2 hR2 hs
      obtain ⟨i0, hi, hz0, hz1, hz2⟩ := info_parts int_info
      go_wp2_with fail
      refine (clone_any A c xs W1 hx hR0).mono ?_
      rintro e w3 ⟨A3, c3, rfl, hO3, hb3⟩
      have hlen3 := hO3.own.1
      have hr3 := rowBelow hrow0 hb3
      have hb3' := bthen hb0 hb3
      have hgw := hrow0.lt
      have hw13 := hb3.size
      clear hb3 hR0 hrow0 hb0
      go_wp2_with (at_builtin; refine wpList_app _ rfl (.tmp 65) (.tmp 67) 22 rfl W1.heap.size 3 i0 (.int .i64 0) 1 8 Try.underlying22 hi hz0 hz1 hz2 rfl (by decide) A3 xs.length c3 (xs.map fun x => .int .i64 x) rfl (hO3.alloc _) (w3.heap.size + 1) _ 1 1 [_] rfl (by simp) (Row.one _ _ _ _ (by simp)) (by simp [Value.oneCell']) (by simp only [maxLen]; omega) (by omega) (by simp; omega) ?_; intro A4 c4 w4 hown4 hgr hA4)
      obtain ⟨gY, rfl, hgY, hgY2⟩ : ∃ gY, A4 = some ⟨gY, 0, none⟩ ∧ W1.heap.size ≤ gY ∧ gY < w4.heap.size := by
        rcases hown4.form with ⟨_, h, _⟩ | ⟨g, h1, h2, h3, _⟩
        · exact absurd h (by omega)
        · exact ⟨g, h1, h2, h3⟩
      have hys : ∀ i (h : i < (penYs N xs).length), w4.cell? ⟨gY, i, none⟩ = some (.int .i64 (penYs N xs)[i]) := fun i h => by
        have := hown4.own.cells (g := gY) rfl i (.int .i64 (penYs N xs)[i]) (by
          rw [show (List.map (fun x => Value.int IntKind.i64 x) xs ++ [Value.int IntKind.i64 (N : Int)]) = (penYs N xs).map (fun x => Value.int IntKind.i64 x) by simp [penYs]]
          rw [List.getElem?_map, List.getElem?_eq_getElem h]; rfl)
        rwa [Addr.add_lit, Nat.zero_add] at this
      have hr4 := rowIs_grown (hr3.alloc (.cells #[.int .i64 (N : Int)] 3)) hgr (fun e => by
        rcases hO3.form with ⟨rfl, _⟩ | ⟨g, rfl, h, _⟩
        · cases e
        · simp [Value.ownBlock] at e; omega)
      have hb4 := (hO3.alloc (.cells #[.int .i64 (N : Int)] 3)).belowGrown (hb3'.alloc hb3'.size _) (by omega) (by have := hb3'.size; simp; omega) hgr
      have hgne : gY ≠ g2 := by omega
      have hyl := penYs_len N xs
      clear hown4 hgr hA4 hO3 hr3 hb3' hi hz0 hz1 hz2 hlen3
      go_loopw [14, 70] (fun f i wr => ∃ k : Nat, i = .int .i64 k ∧ f = .int .i64 (penF N xs k) ∧ k ≤ xs.length + 1 ∧ Below w.heap.size w wr ∧ (∀ i (h : i < (penYs N xs).length), wr.cell? ⟨gY, i, none⟩ = some (.int .i64 (penYs N xs)[i])) ∧ wr.rowIs g2 3 N (fun j => .int .i64 (if j < (penF N xs k).toNat then penRaw N xs wi o j else 0))) (fun _ i _ => xs.length + 1 - (intOf i).toNat)
      case atStart => exact ⟨0, rfl, rfl, Nat.zero_le _, hb4, hys, hr4.congr (fun j _ => by rw [if_neg (by show ¬ j < 0; omega)])⟩
      case round =>
        obtain ⟨k, rfl, rfl, hk, hb, hy, hrow⟩ := hrel
        clear hys hr4 hb4
        by_cases hlt : k < xs.length + 1
        · obtain ⟨a, b, ha, hbb, SG⟩ := seg_of (N := N) HSZ.out (k := k) (by omega) (by omega)
          rw [penF_eq (by omega), ha, show ((a : Nat) : Int).toNat = a by simp] at hrow
          have hcy := hy k (by omega)
          rw [hbb] at hcy
          have hnx := Lib.hid ((penF_succ (N := N) (xs := xs) (k := k) (by omega)).trans hbb)
          rw [penF_eq (by omega), ha]
          have HY := Lib.hid hy
          have HB := Lib.hid hb
          have hab := SG.ab
          have hbN := SG.bN
          clear hy hb ha hbb
          by_cases h2 : a + 2 ≤ b
          · have hc0 := hrow.cell (i := a) (by omega)
            have hf0 := hrow.frozen a
            rw [if_neg (by omega)] at hc0
            obtain ⟨d, rfl⟩ : ∃ d, b = d + 2 := ⟨b - 2, by omega⟩
            have hfd := hrow.frozen d
            have d1 : decide (2 ≤ ((d + 2 : Nat) : Int) - (a : Int)) = true := by simp; omega
            have d1' : decide (2 ≤ (d : Int) + 2 - (a : Int)) = true := by simp; omega
            have HROW := Lib.hid (fun j => seg_long SG (w := wi) (o := o) h2 j)
            have j0 : (0 : Int) ≤ (d : Int) := by omega
            have j1 : (d : Int) < (N : Int) := by omega
            have j2 : (0 : Int) ≤ (a : Int) := by omega
            have j3 : (a : Int) < (N : Int) := by omega
            by_cases hda : d = a
            · subst hda
              have HR2 := Lib.hid ((hrow.set d (.int .i64 o)).set d (.int .i64 (o + wi)))
              clear hrow hfd h2 SG
              go_wp2
              go_roundw
              case rel =>
                refine ⟨k + 1, by go_num, by rw [hnx.out]; rfl, by omega, (HB.out.setCell (p := ⟨g2, d, none⟩) hgl _).setCell (p := ⟨g2, d, none⟩) hgl _, fun i hi => ?_, ?_⟩
                · rw [World.cell?_setCell_other _ _ _ _ (by intro h; injection h with h _; exact hgne h.symm), World.cell?_setCell_other _ _ _ _ (by intro h; injection h with h _; exact hgne h.symm)]
                  exact HY.out i hi
                · refine HR2.out.congr (fun j _ => ?_)
                  have := HROW.out j
                  rw [hnx.out, show ((d + 2 : Nat) : Int).toNat = d + 2 by omega, ← this]
                  by_cases e : j = d
                  · rw [if_pos e, if_pos (by omega), if_pos (by omega)]
                  · rw [if_neg e, if_neg e, if_neg (show ¬ j = d + 2 - 2 by omega), if_neg e]
              case measure => simp [intOf]; omega
            · have hcd := hrow.cell (i := d) (by omega)
              rw [if_neg (by omega)] at hcd
              have HR2 := Lib.hid ((hrow.set a (.int .i64 o)).set d (.int .i64 wi))
              clear hrow h2 SG
              go_wp2
              go_roundw
              case rel =>
                refine ⟨k + 1, by go_num, by rw [hnx.out]; rfl, by omega, (HB.out.setCell (p := ⟨g2, a, none⟩) hgl _).setCell (p := ⟨g2, d, none⟩) hgl _, fun i hi => ?_, ?_⟩
                · rw [World.cell?_setCell_other _ _ _ _ (by intro h; injection h with h _; exact hgne h.symm), World.cell?_setCell_other _ _ _ _ (by intro h; injection h with h _; exact hgne h.symm)]
                  exact HY.out i hi
                · refine HR2.out.congr (fun j _ => ?_)
                  have := HROW.out j
                  rw [hnx.out, show ((d + 2 : Nat) : Int).toNat = d + 2 by omega, ← this]
                  by_cases e : j = d
                  · rw [if_pos e, if_pos (by omega), if_neg (by omega), Int.zero_add]
                  · rw [if_neg e, if_neg (show ¬ j = d + 2 - 2 by omega)]
                    split <;> rfl
              case measure => simp [intOf]; omega
          · have d1 : decide (2 ≤ (b : Int) - (a : Int)) = false := by simp; omega
            have HROW := Lib.hid (fun j => seg_short SG (w := wi) (o := o) h2 j)
            clear h2 SG
            go_wp2
            go_roundw
            case rel =>
              refine ⟨k + 1, by go_num, by rw [hnx.out], by omega, HB.out, HY.out, hrow.congr (fun j _ => ?_)⟩
              rw [hnx.out, HROW.out j]; rfl
            case measure => simp [intOf]; omega
        · obtain rfl : k = xs.length + 1 := by omega
          have hF : penF N xs (xs.length + 1) = N := by
            rw [penF_succ (by omega), penYs_last]
          rw [hF] at hrow ⊢
          clear hy hlt hk
          have HNU := Lib.hid hF
          clear hF
          go_wp2_with fail
          have hbd := Lib.hid (fun j => penRaw_bd N xs hw0 hw1 ho0 ho1 j)
          go_loopw [97] (fun i wr => ∃ m : Nat, i = .int .i64 m ∧ m ≤ N ∧ Below w.heap.size w wr ∧ wr.rowIs g2 3 N (fun j => .int .i64 (if j < m then penAt N xs wi o j else penRaw N xs wi o j))) (fun i _ => N - (intOf i).toNat)
          case atStart => exact ⟨0, rfl, Nat.zero_le _, hb, hrow.congr (fun j hj => by
            rw [if_pos (show j < ((N : Nat) : Int).toNat by omega), if_neg (by omega)])⟩
          case round =>
            clear hb hrow
            obtain ⟨m, rfl, hm, hb, hrow⟩ := hrel
            by_cases hlt : m < N
            · have hcm := hrow.cell (i := m) hlt
              have hfm := hrow.frozen m
              rw [if_neg (by omega)] at hcm
              have hbm := hbd.out m
              have HR2 := Lib.hid (hrow.set m (.int .i64 (penAt N xs wi o m)))
              have HPA := Lib.hid (show penAt N xs wi o m = min (penRaw N xs wi o m) 10000 from rfl)
              clear hrow
              obtain ⟨x, hx⟩ : ∃ x, penRaw N xs wi o m = x := ⟨_, rfl⟩
              rw [hx] at hcm hbm HPA
              clear hx
              go_wp2
              go_roundw
              case rel =>
                refine ⟨m + 1, by go_num, by omega, hb.setCell (p := ⟨g2, m, none⟩) hgl _, ?_⟩
                have := HR2.out
                have hmin : min x 10000 = if 10000 < x then 10000 else x := by split <;> omega
                rw [HPA.out, hmin] at this
                refine this.congr (fun j _ => ?_)
                by_cases e : j = m
                · rw [if_pos e, if_pos (show j < m + 1 by omega), e, HPA.out, hmin]
                · rw [if_neg e]
                  by_cases e2 : j < m
                  · rw [if_pos e2, if_pos (by omega)]
                  · rw [if_neg e2, if_neg (by omega)]
              case measure => simp [intOf]; omega
            · obtain rfl : m = N := by omega
              go_wp2
              go_ret2
              obtain ⟨E1, E2⟩ := pen_ok HN.out HSZ.out
              rw [E1, E2]
              refine ⟨some ⟨g2, 0, none⟩, m, by simp, ?_, hb⟩
              refine IntsR.of (fun j hj => ⟨g2, 0, rfl, hrow.lt, ?_⟩)
              have hj2 : j < m := by simpa using hj
              have := hrow.cell (i := j) hj2
              rw [if_pos hj2] at this
              rw [Nat.zero_add, this]
              simp
end Go.Proofs.Ytemlljgldkkkgaa
