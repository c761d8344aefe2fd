/- apographref02.Badness returns what fixedpoint.Badness returns. Conditions: both numbers up to 2^30, the total at least 1. -/
import Derived.Test.YtemlljgldkkkgaaDigits
import Derived.Deep.DeepCutAuto
namespace Go.Proofs.Ytemlljgldkkkgaa
open Go.RowKit
theorem most_dec (c t m : Nat) : decide (val (timesGo (m : Int) (cubeD t) 0) ≤ val (timesGo 100 (cubeD c) 0)) = !decide (c * c * c * 100 < t * t * t * m) := by
  rw [val_timesGo, val_timesGo, cubeD_val, cubeD_val]
  have e1 : (m : Int) * ((t : Int) * t * t) + 0 = ((t * t * t * m : Nat) : Int) := by
    rw [Int.natCast_mul, Int.natCast_mul, Int.natCast_mul, Int.mul_comm]; simp
  have e2 : (100 : Int) * ((c : Int) * c * c) + 0 = ((c * c * c * 100 : Nat) : Int) := by
    rw [Int.natCast_mul, Int.natCast_mul, Int.natCast_mul, Int.mul_comm]; simp
  rw [e1, e2]
  generalize t * t * t * m = X
  generalize c * c * c * 100 = Y
  rw [Bool.eq_iff_iff]
  simp
set_option maxRecDepth 100000 in
set_option maxHeartbeats 1600000 in
theorem badnessRef_any (c t : Nat) (w : World) (hc : c ≤ 1073741824) (ht : t ≤ 1073741824) (h1 : 1 ≤ t) :
    Calls Try.prog 95 #[.int .i64 (c : Int), .int .i64 (t : Int)] w fun e w' => e = .returned (.int .i64 (bad c t : Int)) ∧ Below w.heap.size w w' := by
  by_cases h0 : c = 0
  · subst h0
    go_enter Try.func95, Try.ntmps95
    go_wp2
    go_ret
    refine ⟨ret_int (by simp [bad]), Below.refl _ _⟩
  · have hc0 : ((c : Int) == 0) = false := by simp; omega
    go_enter Try.func95, Try.ntmps95
    go_upto_region 5 with (fail)
    go_cut [0] (fun s0 wx => s0 = .int .i64 (c : Int) ∧ wx = w)
    case first =>
      by_cases hlt : c < 1073741824
      · go_wp2_with fail
        go_meet
        exact ⟨rfl, rfl⟩
      · obtain rfl : c = 1073741824 := by omega
        go_wp2_with fail
        go_meet
        exact ⟨rfl, rfl⟩
    case rest =>
      obtain ⟨rfl, rfl⟩ := hcut
      have LC := Lib.hid (show LD [(c : Int)] from ⟨by omega, by omega⟩)
      have LT := Lib.hid (show LD [(t : Int)] from ⟨by omega, by omega⟩)
      have c0 : (0 : Int) ≤ (c : Int) := by omega
      have c1 : (c : Int) ≤ 1073741824 := by omega
      have t0 : (0 : Int) ≤ (t : Int) := by omega
      have t1 : (t : Int) ≤ 1073741824 := by omega
      have LC1 := Lib.hid (LD_times c c0 c1 [(c : Int)] 0 (by simp) LC.out (by omega) (by omega))
      have LC2 := Lib.hid (cubeD_LD c0 c1)
      have LT1 := Lib.hid (LD_times t t0 t1 [(t : Int)] 0 (by simp) LT.out (by omega) (by omega))
      have LT2 := Lib.hid (cubeD_LD t0 t1)
      have DC := Lib.hid (Dig_times 100 (by omega) (by omega) (cubeD c) 0 (timesN_ne _ _ _) LC2.out (by omega) (by omega))
      go_wp2_with fail
      refine (timesR_at _ _ 1 [(c : Int)] c _ rfl (by omega) LC.out c0 c1 (Row.one _ _ _ _ (by simp))).mono ?_
      rintro e w1 ⟨A1, k1, rfl, r1, b1⟩
      go_wp2_with fail
      refine (timesR_at _ _ 2 _ c _ (timesGo_len _ _ _) (by omega) LC1.out c0 c1 r1).mono ?_
      rintro e w2 ⟨A2, k2, rfl, r2, b2⟩
      go_wp2_with fail
      refine (timesR_at _ _ 3 (cubeD c) 100 _ ((timesGo_len _ _ _).trans (congrArg (· + 1) (timesGo_len _ _ _))) (by omega) LC2.out (by omega) (by omega) r2).mono ?_
      rintro e w3 ⟨A3, k3, rfl, r3, b3⟩
      go_wp2_with fail
      refine (timesR_at _ _ 1 [(t : Int)] t _ rfl (by omega) LT.out t0 t1 (Row.one _ _ _ _ (by simp))).mono ?_
      rintro e w4 ⟨A4, k4, rfl, r4, b4⟩
      go_wp2_with fail
      refine (timesR_at _ _ 2 _ t _ (timesGo_len _ _ _) (by omega) LT1.out t0 t1 r4).mono ?_
      rintro e w5 ⟨A5, k5, rfl, r5, b5⟩
      go_wp2_with fail
      have s1 := b1.size
      have s2 := b2.size
      have s3 := b3.size
      have s4 := b4.size
      have s5 := b5.size
      simp only [World.size_alloc] at s1 s4
      have q3 : IntsR w5 w5.heap.size A3 (timesGo 100 (cubeD c) 0) := r3.to ((((Below.refl _ _).alloc (Nat.le_refl _) _).trans (b4.mono (by simp))).trans (b5.mono (by omega))) (by omega)
      have B5 : Below wc.heap.size wc w5 := (((((((Below.refl _ _).alloc (Nat.le_refl _) _).trans (b1.mono (by simp))).trans (b2.mono (by omega))).trans (b3.mono (by omega))).alloc (by omega) _).trans (b4.mono (by simp; omega))).trans (b5.mono (by omega))
      clear r1 r2 r3 r4 b1 b2 b3 b4 b5
      have r6 : IntsR w5 w5.heap.size A5 (cubeD t) := r5
      clear r5
      go_loopw [9, 10] (fun lo hi wr => ∃ a b : Nat, lo = .int .i64 a ∧ hi = .int .i64 b ∧ a ≤ bad c t ∧ bad c t ≤ b ∧ b ≤ 10000 ∧ Below w5.heap.size w5 wr) (fun lo hi _ => (intOf hi).toNat - (intOf lo).toNat)
      case atStart => exact ⟨0, 10000, rfl, rfl, Nat.zero_le _, by unfold bad; omega, Nat.le_refl _, Below.refl _ _⟩
      case round =>
        obtain ⟨a, b, rfl, rfl, ha, hb, hb2, hB⟩ := hrel
        by_cases hlt : a < b
        · obtain ⟨m, hm⟩ : ∃ m : Nat, (a + b + 1) / 2 = m := ⟨_, rfl⟩
          have m1 : 1 ≤ m := by omega
          have m2 : m ≤ b := by omega
          have m3 : a < m := by omega
          have hmi : ((a : Int) + (b : Int) + 1) / 2 = (m : Int) := by omega
          have DM := Lib.hid (Dig_times (m : Int) (by omega) (by omega) (cubeD t) 0 (timesN_ne _ _ _) LT2.out (by omega) (by omega))
          clear hm
          have lm : (timesGo (m : Int) (cubeD t) 0).length = 4 := (timesGo_len _ _ _).trans (congrArg (· + 1) ((timesGo_len _ _ _).trans (congrArg (· + 1) (timesGo_len _ _ _))))
          have lc : (timesGo 100 (cubeD c) 0).length = 4 := (timesGo_len _ _ _).trans (congrArg (· + 1) ((timesGo_len _ _ _).trans (congrArg (· + 1) (timesGo_len _ _ _))))
          have lt : (cubeD t).length = 3 := (timesGo_len _ _ _).trans (congrArg (· + 1) (timesGo_len _ _ _))
          have LM := Lib.hid lm
          have LCC := Lib.hid lc
          have LTT := Lib.hid lt
          clear lm lc lt
          by_cases hd : c * c * c * 100 < t * t * t * m
          · have HB := Lib.hid (bad_lt h1 hd)
            have hv : decide (val (timesGo (m : Int) (cubeD t) 0) ≤ val (timesGo 100 (cubeD c) 0)) = false := by rw [most_dec, decide_eq_true hd]; rfl
            clear hd
            go_wp2_with fail
            refine (timesR_at _ _ 3 (cubeD t) m _ LTT.out (by omega) LT2.out (by omega) (by omega) (r6.to hB hB.size)).mono ?_
            rintro e w7 ⟨A7, k7, rfl, r7, b7⟩
            go_wp2_with fail
            refine (most_at _ _ _ _ 4 4 (timesGo (m : Int) (cubeD t) 0) (timesGo 100 (cubeD c) 0) _ LM.out LCC.out (by omega) (by omega) DM.out DC.out r7 (q3.to (hB.trans (b7.mono hB.size)) (Nat.le_trans hB.size b7.size))).mono ?_
            rw [hv]
            rintro e w8 ⟨rfl, rfl⟩
            go_wp2
            go_roundw
            case rel => exact ⟨a, m - 1, rfl, by go_num, ha, by have := HB.out; omega, by omega, hB.trans (b7.mono hB.size)⟩
            case measure => simp [intOf]; omega
          · have HB := Lib.hid (bad_ge h1 (show m ≤ 10000 by omega) hd)
            have hv : decide (val (timesGo (m : Int) (cubeD t) 0) ≤ val (timesGo 100 (cubeD c) 0)) = true := by rw [most_dec, decide_eq_false hd]; rfl
            clear hd
            go_wp2_with fail
            refine (timesR_at _ _ 3 (cubeD t) m _ LTT.out (by omega) LT2.out (by omega) (by omega) (r6.to hB hB.size)).mono ?_
            rintro e w7 ⟨A7, k7, rfl, r7, b7⟩
            go_wp2_with fail
            refine (most_at _ _ _ _ 4 4 (timesGo (m : Int) (cubeD t) 0) (timesGo 100 (cubeD c) 0) _ LM.out LCC.out (by omega) (by omega) DM.out DC.out r7 (q3.to (hB.trans (b7.mono hB.size)) (Nat.le_trans hB.size b7.size))).mono ?_
            rw [hv]
            rintro e w8 ⟨rfl, rfl⟩
            go_wp2
            go_roundw
            case rel => exact ⟨m, b, rfl, rfl, HB.out, hb, hb2, hB.trans (b7.mono hB.size)⟩
            case measure => simp [intOf]; omega
        · go_wp2
          go_ret
          exact ⟨ret_int (by omega), B5.trans (hB.mono B5.size)⟩
end Go.Proofs.Ytemlljgldkkkgaa
