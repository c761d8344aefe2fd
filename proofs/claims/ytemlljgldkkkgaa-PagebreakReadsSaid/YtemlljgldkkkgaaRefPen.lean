/- The reference's penalties. Condition: up to 1000000 numbers. -/
import Derived.Test.YtemlljgldkkkgaaPen
import Derived.Test.YtemlljgldkkkgaaRef6
import Derived.Deep.OwnRows
namespace Go.Proofs.Ytemlljgldkkkgaa
open Go.RowKit
theorem bool_info : (Try.prog.info? 4).map (fun i => (i.zero, i.size, i.bytes)) = some (some (.bool false), 1, 1) := by kernel_rfl
/-- the result's row while line k is worked on -/
def PenW (B : Nat) (w wr : World) (g N : Nat) (xs : List Int) (wi o : Int) (k : Nat) (x : Int) : Prop :=
  Below B w wr ∧ wr.rowIs B 4 (N + 1) (fun j => .bool (begB N xs j)) ∧ wr.rowIs g 3 N (fun j => .int .i64 (if j = k then x else if j < k then penAt N xs wi o j else 0))
theorem PenW.set {B : Nat} {w wr : World} {g N : Nat} {xs : List Int} {wi o : Int} {k : Nat} {x : Int} (h : PenW B w wr g N xs wi o k x) (hg : B < g) (v : Int) : PenW B w (wr.setCell ⟨g, k, none⟩ (.int .i64 v)) g N xs wi o k v := by
  obtain ⟨h1, h2, h3⟩ := h
  refine ⟨h1.setCell (p := ⟨g, k, none⟩) (Nat.le_of_lt hg) _, h2.setOther (a := ⟨g, k, none⟩) (by show B ≠ g; omega) _, (h3.set k (.int .i64 v)).congr (fun j _ => ?_)⟩
  by_cases e : j = k
  · rw [if_pos e, if_pos e]
  · rw [if_neg e, if_neg e, if_neg e]
theorem PenW.fin {B : Nat} {w wr : World} {g N : Nat} {xs : List Int} {wi o : Int} {k : Nat} {x : Int} (h : PenW B w wr g N xs wi o k x) (hx : penAt N xs wi o k = x) (hk : k < N) :
    (∃ k' : Nat, Value.int .i64 ((k : Int) + 1) = .int .i64 k' ∧ k' ≤ N ∧ Below B w wr ∧ wr.rowIs B 4 (N + 1) (fun j => .bool (begB N xs j)) ∧ wr.rowIs g 3 N (fun j => .int .i64 (if j < k' then penAt N xs wi o j else 0))) ∧
    N - (intOf (.int .i64 ((k : Int) + 1))).toNat < N - (intOf (.int .i64 (k : Int))).toNat := by
  obtain ⟨h1, h2, h3⟩ := h
  refine ⟨⟨k + 1, by go_num, hk, h1, h2, h3.congr (fun j _ => ?_)⟩, by simp [intOf]; omega⟩
  by_cases e : j = k
  · rw [if_pos e, if_pos (by omega), e, hx]
  · rw [if_neg e]
    by_cases e2 : j < k
    · rw [if_pos e2, if_pos (by omega)]
    · rw [if_neg e2, if_neg (by omega)]
set_option maxRecDepth 100000 in
set_option maxHeartbeats 6400000 in
theorem PenaltiesRef_any (A : Option Addr) (c : Nat) (xs : List Int) (n wi o : Int) (w : World) (hR : IntsR w w.heap.size A xs) (hx : xs.length ≤ 1000000) :
    Calls Try.prog 33 #[.int .i64 n, .slice A xs.length c, .int .i64 wi, .int .i64 o] w fun e w' => ∃ A' c', e = .returned (.tuple #[.slice A' (penL n xs wi o).length c', .int .i64 (penE n xs wi o)]) ∧ IntsR w' w'.heap.size A' (penL n xs wi o) ∧ Below w.heap.size w w' := by
  by_cases hbad : penBad n wi o
  · obtain ⟨e1, e2⟩ := pen_bad (xs := xs) hbad
    rw [e1, e2]
    have hret : ∃ A' c', Ending.returned (.tuple #[.slice none 0 0, .int .i64 2]) = Ending.returned (.tuple #[.slice A' ([] : List Int).length c', .int .i64 2]) ∧ IntsR w w.heap.size A' [] ∧ Below w.heap.size w w := ⟨none, 0, rfl, IntsR.nil, Below.refl _ _⟩
    clear e1 e2
    have HB := Lib.hid hbad
    clear hbad
    by_cases h1 : n < 0
    · have d1 : decide (n < 0) = true := by simpa using h1
      clear h1
      go_enter Try.func33, Try.ntmps33
      go_wp2
      go_ret2
      exact hret
    have d1 : decide (n < 0) = false := by simpa using h1
    by_cases h2 : 4096 < n
    · have d2 : decide (4096 < n) = true := by simpa using h2
      clear h1 h2
      go_enter Try.func33, Try.ntmps33
      go_wp2
      go_ret2
      exact hret
    have d2 : decide (4096 < n) = false := by simpa using h2
    by_cases h3 : wi < 0
    · have d3 : decide (wi < 0) = true := by simpa using h3
      clear h1 h2 h3
      go_enter Try.func33, Try.ntmps33
      go_wp2
      go_ret2
      exact hret
    have d3 : decide (wi < 0) = false := by simpa using h3
    by_cases h4 : 10000 < wi
    · have d4 : decide (10000 < wi) = true := by simpa using h4
      clear h1 h2 h3 h4
      go_enter Try.func33, Try.ntmps33
      go_wp2
      go_ret2
      exact hret
    have d4 : decide (10000 < wi) = false := by simpa using h4
    by_cases h5 : o < 0
    · have d5 : decide (o < 0) = true := by simpa using h5
      clear h1 h2 h3 h4 h5
      go_enter Try.func33, Try.ntmps33
      go_wp2
      go_ret2
      exact hret
    have d5 : decide (o < 0) = false := by simpa using h5
    by_cases h6 : 10000 < o
    · have d6 : decide (10000 < o) = true := by simpa using h6
      clear h1 h2 h3 h4 h5 h6
      go_enter Try.func33, Try.ntmps33
      go_wp2
      go_ret2
      exact hret
    exact absurd HB.out (by unfold penBad; omega)
  have HN := Lib.hid hbad
  obtain ⟨N, rfl, hN⟩ : ∃ N : Nat, n = (N : Int) ∧ N ≤ 4096 := ⟨n.toNat, by unfold penBad at hbad; omega, by unfold penBad at hbad; omega⟩
  have hw0 : 0 ≤ wi := by unfold penBad at hbad; omega
  have hw1 : wi ≤ 10000 := by unfold penBad at hbad; omega
  have ho0 : 0 ≤ o := by unfold penBad at hbad; omega
  have ho1 : o ≤ 10000 := by unfold penBad at hbad; omega
  have d1 : decide ((N : Int) < 0) = false := by simp
  have d2 : decide (4096 < (N : Int)) = false := by simp; omega
  have d3 : decide (wi < 0) = false := by simp; omega
  have d4 : decide (10000 < wi) = false := by simp; omega
  have d5 : decide (o < 0) = false := by simp; omega
  have d6 : decide (10000 < o) = false := by simp; omega
  clear hbad
  have hmk := run_make_row' (P := Try.prog) 83 4 (.bool false) 1 Try.underlying83 bool_info rfl .i64 .i64 (N + 1) (by omega) (by omega)
  have ec : ((N + 1 : Nat) : Int) = (N : Int) + 1 := by omega
  rw [ec] at hmk
  have hr0 := World.rowIs_made w (.bool false) (N + 1) 4
  have B0 := (Below.refl w.heap.size w).alloc (Nat.le_refl _) (.cells (madeCells #[.bool false] (N + 1)) 4)
  clear ec
  go_enter Try.func33, Try.ntmps33
  go_upto_region 4 with (fail)
  clear hmk d1 d2 d3 d4 d5 d6
  obtain ⟨W0, hW0⟩ : ∃ W0, w.alloc (.cells (madeCells #[.bool false] (N + 1)) 4) = W0 := ⟨_, rfl⟩
  rw [hW0] at hr0 B0 ⊢
  clear hW0
  have hf0 := hr0.frozen 0
  have hc0 := hr0.cell (i := 0) (by omega)
  have hr1 := hr0.set 0 (.bool true)
  have hfn := hr1.frozen N
  have hcn := hr1.cell (i := N) (by omega)
  have HR2 := Lib.hid (show ((W0.setCell ⟨w.heap.size, 0, none⟩ (.bool true)).setCell ⟨w.heap.size, N, none⟩ (.bool true)).rowIs w.heap.size 4 (N + 1) (fun j => .bool (begB N (xs.take 0) j)) from (hr1.set N (.bool true)).congr (fun j _ => by
    unfold begB
    by_cases e1 : j = N
    · simp [e1]
    · by_cases e2 : j = 0
      · simp [e2]
      · simp [e1, e2]))
  have B2 := Lib.hid ((B0.setCell (p := ⟨w.heap.size, 0, none⟩) (Nat.le_refl _) (.bool true)).setCell (p := ⟨w.heap.size, N, none⟩) (Nat.le_refl _) (.bool true))
  clear hr0 hr1 B0
  go_wp2_with fail
  clear hf0 hc0 hfn hcn
  go_loopw [11] (fun i wr => ∃ k : Nat, i = .int .i64 k ∧ Hid (ScanAt N xs k) ∧ k ≤ xs.length ∧ Below w.heap.size w wr ∧ wr.rowIs w.heap.size 4 (N + 1) (fun j => .bool (begB N (xs.take k) j))) (fun i _ => xs.length - (intOf i).toNat)
  case atStart => exact ⟨0, rfl, ScanAt.zero, Nat.zero_le _, B2.out, HR2.out⟩
  case round =>
    obtain ⟨k, rfl, hs, hk, hb, hrow⟩ := hrel
    clear HR2 B2
    by_cases hlt : k < xs.length
    · obtain ⟨b, o', rfl, hbl, hc⟩ := (hR.below hb).at_ hlt
      by_cases h0 : xs[k] < 0
      · have HE := Lib.hid (pen_scan HN.out (by rw [hs.out.range hlt (.inl h0)]; decide))
        have HS := Lib.hid (hs.out.range hlt (.inl h0))
        have d1 : decide (xs[k] < 0) = true := by simpa using h0
        clear h0
        go_wp2
        go_ret2
        rw [HE.out.1, HE.out.2, HS.out]
        exact ⟨none, 0, rfl, IntsR.nil, hb⟩
      have d1 : decide (xs[k] < 0) = false := by simpa using h0
      by_cases h1 : (N : Int) ≤ xs[k]
      · have HE := Lib.hid (pen_scan HN.out (by rw [hs.out.range hlt (.inr h1)]; decide))
        have HS := Lib.hid (hs.out.range hlt (.inr h1))
        have d2 : decide ((N : Int) ≤ xs[k]) = true := by simpa using h1
        clear h0 h1
        go_wp2
        go_ret2
        rw [HE.out.1, HE.out.2, HS.out]
        exact ⟨none, 0, rfl, IntsR.nil, hb⟩
      have d2 : decide ((N : Int) ≤ xs[k]) = false := by simpa using h1
      have i0 : 0 ≤ xs[k] := by omega
      have i1 : xs[k] < (N : Int) + 1 := by omega
      have hf := hrow.frozen xs[k].toNat
      have hcx := hrow.cell (i := xs[k].toNat) (by omega)
      have HS := Lib.hid (hrow.set xs[k].toNat (.bool true))
      have HST := Lib.hid (begB_step (N := N) hlt i0)
      have hrel2 : Hid ((wr.setCell ⟨w.heap.size, xs[k].toNat, none⟩ (.bool true)).rowIs w.heap.size 4 (N + 1) (fun j => .bool (begB N (xs.take (k + 1)) j))) := Lib.hid (HS.out.congr (fun j _ => by
        rw [HST.out j]
        split <;> rfl))
      clear HS HST
      have HB := Lib.hid hb
      by_cases hk0 : k = 0
      · have hp1 : prevA xs k = -1 := by rw [hk0]; rfl
        have HSC := Lib.hid (hs.out.step hlt i0 (by omega) (by omega))
        clear hp1
        have d3 : decide (0 < (k : Int)) = false := by simp; omega
        have d3' : decide (0 < k) = false := by simp; omega
        clear hrow h0 h1 hs hb
        obtain ⟨x, hx⟩ : ∃ x, xs[k] = x := ⟨_, rfl⟩
        rw [hx] at hc d1 d2 i0 i1 hf hcx hrel2
        clear hx
        clear hk0
        go_wp2_with fail
        go_quiet (fail)
        go_wp2
        go_roundw
        case rel => exact ⟨k + 1, by go_num, HSC.out, by omega, (below_drewN HB.out _).setCell (p := ⟨w.heap.size, x.toNat, none⟩) (Nat.le_refl _) (.bool true), hrel2.out⟩
        case measure => simp [intOf]; omega
      have d3 : decide (0 < (k : Int)) = true := by simp; omega
      obtain ⟨m, rfl⟩ : ∃ m, k = m + 1 := ⟨k - 1, by omega⟩
      obtain ⟨b2, o2, h', hbl2, hc2⟩ := (hR.below HB.out).at_ (show m < xs.length by omega)
      injection h' with h'
      injection h' with h2 h3
      subst h2 h3
      by_cases h4 : xs[m + 1] ≤ xs[m]
      · have HE := Lib.hid (pen_scan HN.out (by rw [hs.out.order hlt i0 (by omega) (by rw [prevA_succ (by omega)]; exact h4)]; decide))
        have HSE := Lib.hid (hs.out.order hlt i0 (by omega) (by rw [prevA_succ (by omega)]; exact h4))
        have d4 : decide (xs[m + 1] ≤ xs[m]) = true := by simpa using h4
        clear hrow h0 h1 hs hb h4
        go_wp2_with fail
        go_quiet (fail)
        go_wp2
        go_ret2
        rw [HE.out.1, HE.out.2, HSE.out]
        exact ⟨none, 0, rfl, IntsR.nil, below_drewN HB.out _⟩
      have d4 : decide (xs[m + 1] ≤ xs[m]) = false := by simpa using h4
      have HSC := Lib.hid (hs.out.step hlt i0 (by omega) (by rw [prevA_succ (by omega)]; exact h4))
      clear hrow h0 h1 hs hb h4
      go_wp2_with fail
      go_quiet (fail)
      go_wp2
      go_roundw
      case rel => exact ⟨m + 1 + 1, by go_num, HSC.out, by omega, (below_drewN HB.out _).setCell (p := ⟨w.heap.size, xs[m + 1].toNat, none⟩) (Nat.le_refl _) (.bool true), hrel2.out⟩
      case measure => simp [intOf]; omega
    · obtain rfl : k = xs.length := by omega
      have HSZ := Lib.hid (hs.out.done)
      rw [List.take_length] at hrow
      have hmk := run_make_row' (P := Try.prog) 22 3 (.int .i64 0) 8 Try.underlying22 int_info rfl .i64 .i64 N (by omega) (by omega)
      have hlt' : decide ((xs.length : Int) < (xs.length : Int)) = false := by simp
      go_upto_region 14 with (fail)
      clear hmk hlt'
      have hrow0 := World.rowIs_made wr (.int .i64 0) N 3
      have hb0 := hb.alloc hb.size (.cells (madeCells #[.int .i64 0] N) 3)
      have hrb := hrow.alloc (.cells (madeCells #[.int .i64 0] N) 3)
      have hgl := hrow.lt
      obtain ⟨g2, hg2⟩ : ∃ g2, wr.heap.size = g2 := ⟨_, rfl⟩
      rw [hg2] at hrow0 hgl ⊢
      obtain ⟨W1, hW1⟩ : ∃ W1, wr.alloc (.cells (madeCells #[.int .i64 0] N) 3) = W1 := ⟨_, rfl⟩
      rw [hW1] at hrow0 hb0 hrb ⊢
      clear hW1 hrow hb
      go_wp2_with fail
      go_loopw [13] (fun i wr => ∃ k : Nat, i = .int .i64 k ∧ k ≤ N ∧ Below w.heap.size w wr ∧ wr.rowIs w.heap.size 4 (N + 1) (fun j => .bool (begB N xs j)) ∧ wr.rowIs g2 3 N (fun j => .int .i64 (if j < k then penAt N xs wi o j else 0))) (fun i _ => N - (intOf i).toNat)
      case atStart => exact ⟨0, rfl, Nat.zero_le _, hb0, hrb, hrow0.congr (fun j _ => by rw [if_neg (by omega)])⟩
      case round =>
        clear hb0 hrb hrow0
        obtain ⟨k, rfl, hk, hb, hrb, hrow⟩ := hrel
        by_cases hkN : k < N
        · have c0 := hrb.cell (i := k) (by omega)
          have c1 := hrb.cell (i := k + 1) (by omega)
          have e0 := hrow.cell (i := k) (by omega)
          have f0 := hrow.frozen k
          rw [if_neg (by omega)] at e0
          have hraw : penAt N xs wi o k = min ((if begB N xs k = true ∧ begB N xs (k + 1) = false then o else 0) + (if k + 1 < N ∧ begB N xs (k + 1) = false ∧ begB N xs (k + 2) = true then wi else 0)) 10000 := rfl
          have HPW := Lib.hid (show PenW w.heap.size w wr g2 N xs wi o k 0 from ⟨hb, hrb, hrow.congr (fun j _ => by
            by_cases e : j = k
            · rw [if_pos e, if_neg (by omega)]
            · rw [if_neg e])⟩)
          obtain ⟨b0, hb0⟩ : ∃ b, begB N xs k = b := ⟨_, rfl⟩
          obtain ⟨b1, hb1⟩ : ∃ b, begB N xs (k + 1) = b := ⟨_, rfl⟩
          rw [hb0] at c0 hraw
          rw [hb1] at c1 hraw
          by_cases hk1 : k + 1 < N
          · have d1 : decide ((k : Int) + 1 < (N : Int)) = true := by simp; omega
            have c2 := hrb.cell (i := k + 2) (by omega)
            obtain ⟨b2, hb2⟩ : ∃ b, begB N xs (k + 2) = b := ⟨_, rfl⟩
            rw [hb2] at c2 hraw
            have HRAW := Lib.hid hraw
            have hk1' := Lib.hid hk1
            have j0 : (0 : Int) ≤ (k : Int) + 2 := by omega
            have j1 : (k : Int) + 2 < (N : Int) + 1 := by omega
            clear hraw hb2 hrow hrb hb hb0 hb1 hk1
            cases b0 <;> cases b1 <;> cases b2 <;> (go_wp2_with fail) <;> (
              first
                | exact ((HPW.out.set hgl _).fin (by rw [HRAW.out]; first | done | (simp [hk1'.out]; done) | (simp [hk1'.out]; omega)) hkN)
                | exact (((HPW.out.set hgl _).set hgl _).fin (by rw [HRAW.out]; first | done | (simp [hk1'.out]; done) | (simp [hk1'.out]; omega)) hkN)
                | exact ((((HPW.out.set hgl _).set hgl _).set hgl _).fin (by rw [HRAW.out]; first | done | (simp [hk1'.out]; done) | (simp [hk1'.out]; omega)) hkN))
          · have d1 : decide ((k : Int) + 1 < (N : Int)) = false := by simp; omega
            have HRAW := Lib.hid hraw
            have hk1' := Lib.hid hk1
            clear hraw hrow hrb hb hb0 hb1 hk1
            cases b0 <;> cases b1 <;> (go_wp2_with fail) <;> (
              first
                | exact ((HPW.out.set hgl _).fin (by rw [HRAW.out]; first | done | (simp [hk1'.out]; done) | (simp [hk1'.out]; omega)) hkN)
                | exact (((HPW.out.set hgl _).set hgl _).fin (by rw [HRAW.out]; first | done | (simp [hk1'.out]; done) | (simp [hk1'.out]; omega)) hkN))
        · obtain rfl : k = N := by omega
          go_wp2_with fail
          go_ret2
          obtain ⟨E1, E2⟩ := pen_ok HN.out HSZ.out
          rw [E1, E2]
          refine ⟨some ⟨g2, 0, none⟩, k, by simp, ?_, hb⟩
          refine IntsR.of (fun j hj => ⟨g2, 0, rfl, hrow.lt, ?_⟩)
          have hj2 : j < k := by simpa using hj
          have := hrow.cell (i := j) hj2
          rw [if_pos hj2] at this
          rw [Nat.zero_add, this]
          simp
end Go.Proofs.Ytemlljgldkkkgaa
