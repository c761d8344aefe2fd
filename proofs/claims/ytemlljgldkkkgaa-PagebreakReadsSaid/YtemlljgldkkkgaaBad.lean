/- fixedpoint.Badness: what it returns for a change up to a total, both up to 2^30. -/
import Derived.Test.YtemlljgldkkkgaaProg
import Derived.Test.YtemlljgldkkkgaaMem
import Derived.Test.YtemlljgldkkkgaaSearch
import Derived.Test.YtemlljgldkkkgaaSpec
import Derived.Test.YtemlljgldkkkgaaMul
import Derived.Deep.RegionHeld3
namespace Go.Proofs.Ytemlljgldkkkgaa
open Go.RowKit
def wideV (h l : Nat) : Value := .agg #[.int .u64 (h : Int), .int .u64 (l : Int)]
theorem wide_wrap (h n q : Nat) (hw : h * n + q < 18446744073709551616) :
    IntKind.u64.wrap ((q : Int) + IntKind.u64.wrap ((h : Int) * (n : Int))) = ((h * n + q : Nat) : Int) := by
  have e : (h : Int) * (n : Int) = ((h * n : Nat) : Int) := (Int.natCast_mul h n).symm
  rw [e]
  generalize h * n = m at *
  rw [IntKind.wrap_u64, IntKind.wrap_u64]
  omega
theorem wide_eq (h l n : Nat) (hw : h * n + l * n / 18446744073709551616 < 18446744073709551616) :
    Value.agg #[.int .u64 (IntKind.u64.wrap ((l : Int) * (n : Int) / 18446744073709551616 + IntKind.u64.wrap ((h : Int) * (n : Int)))), .int .u64 ((l : Int) * (n : Int) % 18446744073709551616)] = wideV (h * n + l * n / 18446744073709551616) (l * n % 18446744073709551616) := by
  have e1 : (l : Int) * (n : Int) = ((l * n : Nat) : Int) := (Int.natCast_mul l n).symm
  rw [e1]
  generalize l * n = m at *
  have e2 : (m : Int) / 18446744073709551616 = ((m / 18446744073709551616 : Nat) : Int) := by omega
  have e3 : (m : Int) % 18446744073709551616 = ((m % 18446744073709551616 : Nat) : Int) := by omega
  rw [e2, e3, wide_wrap h n _ hw]
  rfl
set_option maxHeartbeats 400000 in
theorem timesW_any (h l n : Nat) (w : World) (hl : l < 18446744073709551616) (hn : n < 18446744073709551616) (hw : h * n + l * n / 18446744073709551616 < 18446744073709551616) :
    Calls Try.prog 107 #[.agg #[.int .u64 (h : Int), .int .u64 (l : Int)], .int .u64 (n : Int)] w fun e w' => e = .returned (wideV (h * n + l * n / 18446744073709551616) (l * n % 18446744073709551616)) ∧ Below w.heap.size w w' := by
  have HM := Lib.hid (fun W => Try.bits_Mul64 l n hl hn W)
  have HW := Lib.hid (wide_eq h l n hw)
  clear hl hn hw
  go_enter Try.func107, Try.ntmps107
  go_wp2_with (go_at_call 110; refine (HM.out _).mono ?_; rintro e w1 ⟨rfl, rfl⟩)
  exact bodyPost_ret (v := .agg #[.int .u64 (IntKind.u64.wrap (↑l * ↑n / 18446744073709551616 + IntKind.u64.wrap (↑h * ↑n))), .int .u64 (↑l * ↑n % 18446744073709551616)]) (by simp [results, Try.results107, go_sem]) rfl ⟨congrArg Ending.returned HW.out, ((Below.refl _ _).alloc (Nat.le_refl _) _).alloc (by simp) _⟩
/-- h, l against h', l' as numbers of two words -/
def aboveB (h l h' l' : Nat) : Bool := decide (h' < h) || (decide (h = h') && decide (l' < l))
set_option maxHeartbeats 400000 in
theorem above_any (h l h' l' : Nat) (w : World) :
    Calls Try.prog 108 #[.agg #[.int .u64 (h : Int), .int .u64 (l : Int)], .agg #[.int .u64 (h' : Int), .int .u64 (l' : Int)]] w fun e w' => e = .returned (.bool (aboveB h l h' l')) ∧ Below w.heap.size w w' := by
  by_cases h1 : h = h'
  · subst h1
    by_cases h2 : l = l'
    · subst h2
      go_enter Try.func108, Try.ntmps108
      go_wp2
      go_ret
      refine ⟨ret_bool ?_, ((Below.refl _ _).alloc (Nat.le_refl _) _).alloc (by simp) _⟩
      simp [aboveB]
    · have e1 : ((l : Int) == (l' : Int)) = false := by simp; omega
      have e2 : ((l : Int) != (l' : Int)) = true := by simp; omega
      go_enter Try.func108, Try.ntmps108
      go_wp2
      go_ret
      refine ⟨ret_bool ?_, ((Below.refl _ _).alloc (Nat.le_refl _) _).alloc (by simp) _⟩
      simp [aboveB]
  · have e1 : ((h : Int) != (h' : Int)) = true := by simp; omega
    go_enter Try.func108, Try.ntmps108
    go_wp2
    go_ret
    refine ⟨ret_bool ?_, ((Below.refl _ _).alloc (Nat.le_refl _) _).alloc (by simp) _⟩
    simp [aboveB, h1]
/-- H, L are the two words of X -/
def isW (H L : Int) (X : Nat) : Prop := H = ((X / 18446744073709551616 : Nat) : Int) ∧ L = ((X % 18446744073709551616 : Nat) : Int)
theorem isW_small {X : Nat} (h : X < 18446744073709551616) : isW 0 (X : Int) X := by
  unfold isW; rw [Nat.div_eq_of_lt h, Nat.mod_eq_of_lt h]; exact ⟨rfl, rfl⟩
theorem divmul (X K m : Nat) (hK : 0 < K) : X / K * m + X % K * m / K = X * m / K ∧ X % K * m % K = X * m % K := by
  have h := Nat.div_add_mod X K
  have e : X * m = K * (X / K * m) + X % K * m := by
    calc X * m = (K * (X / K) + X % K) * m := by rw [h]
      _ = K * (X / K * m) + X % K * m := by rw [Nat.add_mul, Nat.mul_assoc]
  rw [e]
  exact ⟨by rw [Nat.mul_add_div hK], by rw [Nat.mul_add_mod]⟩
theorem timesN_any (h l n : Int) (X N : Nat) (w : World) (hW : isW h l X) (hn : n = (N : Int)) (hN : N < 18446744073709551616) (hX : X * N < 340282366920938463463374607431768211456) :
    Calls Try.prog 107 #[.agg #[.int .u64 h, .int .u64 l], .int .u64 n] w fun e w' => ∃ H L : Int, e = .returned (.agg #[.int .u64 H, .int .u64 L]) ∧ isW H L (X * N) ∧ Below w.heap.size w w' := by
  obtain ⟨rfl, rfl⟩ := hW
  subst hn
  have hd := divmul X 18446744073709551616 N (by omega)
  have hlt : X * N / 18446744073709551616 < 18446744073709551616 := Nat.div_lt_of_lt_mul hX
  refine (timesW_any _ _ _ w (Nat.mod_lt _ (by omega)) hN (by rw [hd.1]; exact hlt)).mono ?_
  rintro e w' ⟨rfl, hb⟩
  rw [hd.1, hd.2]
  exact ⟨_, _, rfl, ⟨rfl, rfl⟩, hb⟩
theorem aboveN_any (h l h' l' : Int) (X Y : Nat) (w : World) (hX : isW h l X) (hY : isW h' l' Y) :
    Calls Try.prog 108 #[.agg #[.int .u64 h, .int .u64 l], .agg #[.int .u64 h', .int .u64 l']] w fun e w' => e = .returned (.bool (decide (Y < X))) ∧ Below w.heap.size w w' := by
  obtain ⟨rfl, rfl⟩ := hX
  obtain ⟨rfl, rfl⟩ := hY
  refine (above_any _ _ _ _ w).mono ?_
  rintro e w' ⟨rfl, hb⟩
  refine ⟨ret_bool ?_, hb⟩
  unfold aboveB
  have h1 := Nat.div_add_mod X 18446744073709551616
  have h2 := Nat.div_add_mod Y 18446744073709551616
  have h3 := Nat.mod_lt X (show 0 < 18446744073709551616 by omega)
  have h4 := Nat.mod_lt Y (show 0 < 18446744073709551616 by omega)
  generalize X / 18446744073709551616 = a at *
  generalize X % 18446744073709551616 = b at *
  generalize Y / 18446744073709551616 = c at *
  generalize Y % 18446744073709551616 = d at *
  rw [Bool.eq_iff_iff]
  simp only [Bool.or_eq_true, Bool.and_eq_true, decide_eq_true_eq]
  omega

theorem bad_lt {c t m : Nat} (ht : 1 ≤ t) (h : c * c * c * 100 < t * t * t * m) : bad c t < m := by
  unfold bad
  have hT : 0 < t * t * t := Nat.mul_pos (Nat.mul_pos ht ht) ht
  have : 100 * (c * c * c) / (t * t * t) < m := (Nat.div_lt_iff_lt_mul hT).2 (by rw [Nat.mul_comm 100, Nat.mul_comm m]; exact h)
  omega
theorem bad_ge {c t m : Nat} (ht : 1 ≤ t) (hm : m ≤ 10000) (h : ¬ c * c * c * 100 < t * t * t * m) : m ≤ bad c t := by
  unfold bad
  have hT : 0 < t * t * t := Nat.mul_pos (Nat.mul_pos ht ht) ht
  have : m ≤ 100 * (c * c * c) / (t * t * t) := (Nat.le_div_iff_mul_le hT).2 (by rw [Nat.mul_comm 100, Nat.mul_comm m]; omega)
  omega
set_option maxHeartbeats 1000000 in
theorem badness_any (c t : Nat) (w : World) (hc : c ≤ 1073741824) (ht : t ≤ 1073741824) (h1 : 1 ≤ t) :
    Calls Try.prog 96 #[.int .i64 (c : Int), .int .i64 (t : Int)] w fun e w' => e = .returned (.int .i64 (bad c t : Int)) ∧ Below w.heap.size w w' := by
  by_cases h0 : c = 0
  · subst h0
    go_enter Try.func96, Try.ntmps96
    go_wp2
    go_ret
    refine ⟨ret_int (by simp [bad]), Below.refl _ _⟩
  · have hc0 : ((c : Int) == 0) = false := by simp; omega
    have q0 : isW 0 (t : Int) t := isW_small (by omega)
    have p0 : isW 0 (c : Int) c := isW_small (by omega)
    have HT := Lib.hid (show t * t * t < 340282366920938463463374607431768211456 from Nat.lt_of_le_of_lt (Nat.mul_le_mul (Nat.mul_le_mul ht ht) ht) (by decide))
    have HT2 := Lib.hid (show t * t < 340282366920938463463374607431768211456 from Nat.lt_of_le_of_lt (Nat.mul_le_mul ht ht) (by decide))
    have HC := Lib.hid (show c * c * c < 340282366920938463463374607431768211456 from Nat.lt_of_le_of_lt (Nat.mul_le_mul (Nat.mul_le_mul hc hc) hc) (by decide))
    have HC2 := Lib.hid (show c * c < 340282366920938463463374607431768211456 from Nat.lt_of_le_of_lt (Nat.mul_le_mul hc hc) (by decide))
    have HC3 := Lib.hid (show c * c * c * 100 < 340282366920938463463374607431768211456 from Nat.lt_of_le_of_lt (Nat.mul_le_mul_right 100 (Nat.mul_le_mul (Nat.mul_le_mul hc hc) hc)) (by decide))
    go_enter Try.func96, Try.ntmps96
    go_wp2_with fail
    refine (timesN_any _ _ _ t t _ q0 rfl (by omega) HT2.out).mono ?_
    rintro e w1 ⟨h1', l1, rfl, q1, b1⟩
    go_wp2_with fail
    refine (timesN_any _ _ _ (t * t) t _ q1 rfl (by omega) HT.out).mono ?_
    rintro e w2 ⟨h2', l2, rfl, q2, b2⟩
    go_wp2_with fail
    refine (timesN_any _ _ _ c c _ p0 rfl (by omega) HC2.out).mono ?_
    rintro e w3 ⟨h3', l3, rfl, p1, b3⟩
    go_wp2_with fail
    refine (timesN_any _ _ _ (c * c) c _ p1 rfl (by omega) HC.out).mono ?_
    rintro e w4 ⟨h4', l4, rfl, p2, b4⟩
    go_wp2_with fail
    refine (timesN_any _ _ _ (c * c * c) 100 _ p2 rfl (by omega) HC3.out).mono ?_
    rintro e w5 ⟨h5', l5, rfl, p3, b5⟩
    go_wp2_with fail
    obtain ⟨W6, hW6⟩ : ∃ W6, w5.alloc (.cells #[.int .u64 h5', .int .u64 l5] 125) = W6 := ⟨_, rfl⟩
    have s1 := b1.size
    have s2 := b2.size
    have s3 := b3.size
    have s4 := b4.size
    have s5 := b5.size
    simp only [World.size_alloc] at s3
    have B5 : Below (w2.alloc (.cells #[.int .u64 h2', .int .u64 l2] 125)).heap.size (w2.alloc (.cells #[.int .u64 h2', .int .u64 l2] 125)) w5 := (b3.trans (b4.mono (by simp; omega))).trans (b5.mono (by simp; omega))
    have B6 : Below w.heap.size w W6 := by
      rw [← hW6]
      exact ((((b1.trans (b2.mono (by omega))).alloc (by omega) _).trans (B5.mono (by simp; omega)))).alloc (by omega) _
    have c1 : W6.cell? ⟨w2.heap.size, 0, none⟩ = some (.int .u64 h2') := by
      rw [← hW6, World.cell?_alloc_lt _ _ _ (by simp; omega), B5.cell (p := ⟨w2.heap.size, 0, none⟩) (by simp)]
      simp
    have c2 : W6.cell? ⟨w2.heap.size, 1, none⟩ = some (.int .u64 l2) := by
      rw [← hW6, World.cell?_alloc_lt _ _ _ (by simp; omega), B5.cell (p := ⟨w2.heap.size, 1, none⟩) (by simp)]
      simp
    have c3 : W6.cell? ⟨w5.heap.size, 0, none⟩ = some (.int .u64 h5') := by rw [← hW6]; simp
    have c4 : W6.cell? ⟨w5.heap.size, 1, none⟩ = some (.int .u64 l5) := by rw [← hW6]; simp
    have z6 : W6.heap.size = w5.heap.size + 1 := by rw [← hW6]; simp
    rw [hW6]
    clear hW6 B5 b1 b2 b3 b4 b5 q0 p0 q1 p1 p2
    have Z6 := Lib.hid z6
    have l6 : w5.heap.size < W6.heap.size := by omega
    have l6' : w2.heap.size < W6.heap.size := by omega
    clear z6
    go_loopw [9, 10] (fun lo hi wr => ∃ a b : Nat, lo = .int .i64 a ∧ hi = .int .i64 b ∧ a ≤ bad c t ∧ bad c t < b ∧ b ≤ 10001 ∧ Below W6.heap.size W6 wr) (fun lo hi _ => (intOf hi).toNat - (intOf lo).toNat)
    case atStart => exact ⟨0, 10001, rfl, rfl, Nat.zero_le _, by unfold bad; omega, Nat.le_refl _, Below.refl _ _⟩
    case round =>
      obtain ⟨a, b, rfl, rfl, ha, hb, hb2, hB⟩ := hrel
      by_cases hlt : 1 < b - a
      · have d1 := (hB.cell (p := ⟨w2.heap.size, 0, none⟩) l6').trans c1
        have d2 := (hB.cell (p := ⟨w2.heap.size, 1, none⟩) l6').trans c2
        have d3 := (hB.cell (p := ⟨w5.heap.size, 0, none⟩) l6).trans c3
        have d4 := (hB.cell (p := ⟨w5.heap.size, 1, none⟩) l6).trans c4
        have hlt' : (1 : Int) < (b : Int) - (a : Int) := by omega
        have HM := Lib.hid (show IntKind.u64.wrap (((a : Int) + (b : Int)) / 2) = (((a + b) / 2 : Nat) : Int) by rw [IntKind.wrap_u64]; omega)
        have HX := Lib.hid (show t * t * t * ((a + b) / 2) < 340282366920938463463374607431768211456 from Nat.lt_of_le_of_lt (Nat.mul_le_mul (Nat.mul_le_mul (Nat.mul_le_mul ht ht) ht) (show (a + b) / 2 ≤ 10001 by omega)) (by decide))
        by_cases hd : c * c * c * 100 < t * t * t * ((a + b) / 2)
        · have hdt : decide (c * c * c * 100 < t * t * t * ((a + b) / 2)) = true := decide_eq_true hd
          have HB := Lib.hid (bad_lt h1 hd)
          clear hd
          go_wp2_with fail
          go_region_held3 (fun w' => w'.cell? ⟨w2.heap.size, 0, none⟩ = some (.int .u64 h2') ∧ w'.cell? ⟨w2.heap.size, 1, none⟩ = some (.int .u64 l2) ∧ w'.cell? ⟨w5.heap.size, 0, none⟩ = some (.int .u64 h5') ∧ w'.cell? ⟨w5.heap.size, 1, none⟩ = some (.int .u64 l5)) (first | go_keep | exact ⟨kc b8 (kc b7 d1), kc b8 (kc b7 d2), kc b8 (kc b7 d3), kc b8 (kc b7 d4)⟩ | exact ⟨kc b7 d1, kc b7 d2, kc b7 d3, kc b7 d4⟩)
            (first | (go_at_call 107; refine (timesN_any _ _ _ (t * t * t) ((a + b) / 2) _ q2 HM.out (by omega) HX.out).mono ?_; rintro e w7 ⟨h7, l7, rfl, q7, b7⟩) | (go_at_call 108; refine (aboveN_any _ _ _ _ _ _ _ q7 p3).mono ?_; rintro e w8 ⟨rfl, b8⟩))
          go_wp2
          go_roundw
          case rel => exact ⟨a, (a + b) / 2, rfl, by go_num, ha, HB.out, by omega, (hB.drew.trans (b7.mono hB.size)).trans (b8.mono (Nat.le_trans hB.size b7.size))⟩
          case measure => simp [intOf]; omega
        · have hdt : decide (c * c * c * 100 < t * t * t * ((a + b) / 2)) = false := decide_eq_false hd
          have HB := Lib.hid (bad_ge h1 (show (a + b) / 2 ≤ 10000 by omega) hd)
          clear hd
          go_wp2_with fail
          go_region_held3 (fun w' => w'.cell? ⟨w2.heap.size, 0, none⟩ = some (.int .u64 h2') ∧ w'.cell? ⟨w2.heap.size, 1, none⟩ = some (.int .u64 l2) ∧ w'.cell? ⟨w5.heap.size, 0, none⟩ = some (.int .u64 h5') ∧ w'.cell? ⟨w5.heap.size, 1, none⟩ = some (.int .u64 l5)) (first | go_keep | exact ⟨kc b8 (kc b7 d1), kc b8 (kc b7 d2), kc b8 (kc b7 d3), kc b8 (kc b7 d4)⟩ | exact ⟨kc b7 d1, kc b7 d2, kc b7 d3, kc b7 d4⟩)
            (first | (go_at_call 107; refine (timesN_any _ _ _ (t * t * t) ((a + b) / 2) _ q2 HM.out (by omega) HX.out).mono ?_; rintro e w7 ⟨h7, l7, rfl, q7, b7⟩) | (go_at_call 108; refine (aboveN_any _ _ _ _ _ _ _ q7 p3).mono ?_; rintro e w8 ⟨rfl, b8⟩))
          go_wp2
          go_roundw
          case rel => exact ⟨(a + b) / 2, b, by go_num, rfl, HB.out, hb, hb2, (hB.drew.trans (b7.mono hB.size)).trans (b8.mono (Nat.le_trans hB.size b7.size))⟩
          case measure => simp [intOf]; omega
      · go_wp2
        go_ret
        exact ⟨ret_int (by omega), B6.trans (hB.mono B6.size)⟩
end Go.Proofs.Ytemlljgldkkkgaa
