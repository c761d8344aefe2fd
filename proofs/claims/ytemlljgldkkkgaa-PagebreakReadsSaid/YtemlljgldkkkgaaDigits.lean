/- The reference's numbers written by digits: times, most. -/
import Derived.Test.YtemlljgldkkkgaaProg
import Derived.Test.YtemlljgldkkkgaaMem
import Derived.Test.YtemlljgldkkkgaaSearch
import Derived.Test.YtemlljgldkkkgaaLib
import Derived.Test.YtemlljgldkkkgaaBad
import Derived.Deep.Cut
import Derived.Deep.CutRange
namespace Go.Proofs.Ytemlljgldkkkgaa
open Go.RowKit
def timesGo (n : Int) : List Int → Int → List Int
  | [], c => [c]
  | d :: r, c => (d * n + c) % 1073741824 :: timesGo n r ((d * n + c) / 1073741824)
theorem mul_bd {a b : Int} (h1 : 0 ≤ a) (h2 : a ≤ 1073741824) (h3 : 0 ≤ b) (h4 : b ≤ 1073741824) : 0 ≤ a * b ∧ a * b ≤ 1152921504606846976 := by
  refine ⟨Int.mul_nonneg h1 h3, ?_⟩
  have := Int.mul_le_mul h2 h4 h3 (by omega)
  omega
theorem timesGo_step (n : Int) (xs : List Int) (ds : List Int) (k : Nat) (c : Int) (hk : k < xs.length) (h : ds ++ timesGo n (xs.drop k) c = timesGo n xs 0) :
    (ds ++ [(xs[k] * n + c) % 1073741824]) ++ timesGo n (xs.drop (k + 1)) ((xs[k] * n + c) / 1073741824) = timesGo n xs 0 := by
  rw [← h, List.drop_eq_getElem_cons hk]
  simp only [timesGo, List.append_assoc, List.cons_append, List.nil_append]
theorem timesGo_end (n : Int) (xs : List Int) (ds : List Int) (k : Nat) (c : Int) (hk : xs.length ≤ k) (h : ds ++ timesGo n (xs.drop k) c = timesGo n xs 0) :
    ds ++ [c] = timesGo n xs 0 := by
  rw [← h, List.drop_of_length_le hk]
  rfl
theorem timesGo_len (n : Int) (xs : List Int) (c : Int) : (timesGo n xs c).length = xs.length + 1 := by
  induction xs generalizing c with
  | nil => rfl
  | cons d r ih => simp only [timesGo, List.length_cons, ih]
set_option maxHeartbeats 800000 in
theorem timesR_any (A : Option Addr) (c : Nat) (xs : List Int) (n : Int) (w : World) (hlen : xs.length ≤ 1000) (hx : ∀ x ∈ xs, 0 ≤ x ∧ x ≤ 1073741824) (hn0 : 0 ≤ n) (hn : n ≤ 1073741824) (h1 : IntsR w w.heap.size A xs) :
    Calls Try.prog 105 #[.slice A xs.length c, .int .i64 n] w fun e w' => ∃ A' c', e = .returned (.slice A' (xs.length + 1) c') ∧ OwnS w' w.heap.size 3 1 A' (xs.length + 1) c' ((timesGo n xs 0).map fun x => .int .i64 x) ∧ Below w.heap.size w w' := by
  obtain ⟨i0, hi, hz0, hz1, hz2⟩ := info_parts int_info
  have HX := Lib.hid hx
  clear hx
  go_enter Try.func105, Try.ntmps105
  go_wp2
  go_loopw [5, 6, 7] (fun o cr i wr => ∃ (k : Nat) (A' : Option Addr) (c' : Nat) (cy : Int) (ds : List Int), o = .slice A' k c' ∧ cr = .int .i64 cy ∧ i = .int .i64 k ∧ k ≤ xs.length ∧ 0 ≤ cy ∧ cy ≤ 2147483648 ∧
      OwnS wr w.heap.size 3 1 A' k c' (ds.map fun x => .int .i64 x) ∧ Hid (ds ++ timesGo n (xs.drop k) cy = timesGo n xs 0) ∧ Below w.heap.size w wr) (fun _ _ i _ => xs.length - (intOf i).toNat)
  case atStart =>
    exact ⟨0, _, 0, 0, [], rfl, rfl, rfl, Nat.zero_le _, Int.le_refl _, by omega, ⟨World.ownsRow_made _ #[] 0 (Nat.le_refl _) (Nat.zero_le _) rfl⟩, rfl, (Below.refl _ _).alloc (Nat.le_refl _) _⟩
  case round =>
    obtain ⟨k, A', c', cy, ds, rfl, rfl, rfl, hk, hc0, hc1, hown, hd, hb⟩ := hrel
    by_cases hlt : k < xs.length
    · obtain ⟨b, o, rfl, hbl, hc⟩ := (h1.below hb).at_ hlt
      obtain ⟨m0, m1⟩ := mul_bd (HX.out _ (List.getElem_mem hlt)).1 (HX.out _ (List.getElem_mem hlt)).2 hn0 hn
      have hsz := hb.size
      go_wp2_with (at_builtin; refine wpList_app _ rfl (.tmp 24) (.tmp 27) 22 rfl w.heap.size 3 i0 (.int .i64 0) 1 8 Try.underlying22 hi hz0 hz1 hz2 rfl (by decide) A' k c' (ds.map fun x => .int .i64 x) rfl (hown.alloc _) (wr.heap.size + 1) _ 1 1 [_] rfl (by simp) (Row.one _ _ _ _ (by omega)) (by simp [Value.oneCell']) (by simp only [maxLen]; omega) (by omega) (by simp; omega) ?_; intro A1 c1 w1 hown1 hgr hA)
      go_roundw
      case rel =>
        refine ⟨k + 1, A1, c1, _, ds ++ [(xs[k] * n + cy) % 1073741824], rfl, rfl, by go_num, hlt, ?_, ?_, by simpa using hown1, timesGo_step n xs ds k cy hlt hd.out, ?_⟩
        · omega
        · omega
        · exact (hown.alloc _).belowGrown (hb.alloc hb.size _) (Nat.le_refl _) (by simp; omega) hgr
      case measure => simp [intOf]; omega
    · have hsz := hb.size
      have HE := Lib.hid (timesGo_end n xs ds k cy (by omega) hd.out)
      go_wp2_with (at_builtin; refine wpList_app _ rfl (.tmp 31) (.tmp 33) 22 rfl w.heap.size 3 i0 (.int .i64 0) 1 8 Try.underlying22 hi hz0 hz1 hz2 rfl (by decide) A' k c' (ds.map fun x => .int .i64 x) rfl (hown.alloc _) (wr.heap.size + 1) _ 1 1 [_] rfl (by simp) (Row.one _ _ _ _ (by omega)) (by simp [Value.oneCell']) (by simp only [maxLen]; omega) (by omega) (by simp; omega) ?_; intro A1 c1 w1 hown1 hgr hA)
      go_ret
      obtain rfl : k = xs.length := by omega
      refine ⟨A1, c1, rfl, ?_, (hown.alloc _).belowGrown (hb.alloc hb.size _) (Nat.le_refl _) (by simp; omega) hgr⟩
      rw [← HE.out]
      simpa using hown1
def val : List Int → Int
  | [] => 0
  | d :: r => d + 1073741824 * val r
def Dig (xs : List Int) : Prop := ∀ x ∈ xs, 0 ≤ x ∧ x < 1073741824
theorem val_timesGo (n : Int) (xs : List Int) (c : Int) : val (timesGo n xs c) = n * val xs + c := by
  induction xs generalizing c with
  | nil => simp [timesGo, val]
  | cons d r ih =>
    simp only [timesGo, val, ih]
    have h := Int.emod_add_mul_ediv (d * n + c) 1073741824
    rw [Int.mul_add, Int.mul_add]
    have e : n * (1073741824 * val r) = 1073741824 * (n * val r) := by rw [← Int.mul_assoc, Int.mul_comm n, Int.mul_assoc]
    rw [e, Int.mul_comm n d]
    omega
theorem val_tail (xs : List Int) : val xs = xs.getD 0 0 + 1073741824 * val xs.tail := by
  cases xs <;> simp [val]
theorem getD_tail (xs : List Int) (j : Nat) : xs.tail.getD j 0 = xs.getD (j + 1) 0 := by
  cases xs <;> simp
theorem val_same (n : Nat) : ∀ xs ys : List Int, xs.length ≤ n → ys.length ≤ n → (∀ j, xs.getD j 0 = ys.getD j 0) → val xs = val ys := by
  induction n with
  | zero =>
    intro xs ys h1 h2 _
    rw [List.eq_nil_of_length_eq_zero (by omega : xs.length = 0), List.eq_nil_of_length_eq_zero (by omega : ys.length = 0)]
  | succ n ih =>
    intro xs ys h1 h2 h
    rw [val_tail xs, val_tail ys, h 0, ih xs.tail ys.tail (by simp; omega) (by simp; omega) (fun j => by rw [getD_tail, getD_tail]; exact h _)]
theorem dig_tail {xs : List Int} (h : Dig xs) : Dig xs.tail := fun x hx => h x (List.mem_of_mem_tail hx)
theorem getD_in {xs : List Int} {j : Nat} (hj : j < xs.length) : xs.getD j 0 = xs[j] := by simp [List.getD, List.getElem?_eq_getElem hj]
theorem getD_out {xs : List Int} {j : Nat} (hj : xs.length ≤ j) : xs.getD j 0 = 0 := by simp [List.getD, List.getElem?_eq_none hj]
theorem dig_getD {xs : List Int} (h : Dig xs) (j : Nat) : 0 ≤ xs.getD j 0 ∧ xs.getD j 0 < 1073741824 := by
  by_cases hj : j < xs.length
  · rw [getD_in hj]; exact h _ (List.getElem_mem hj)
  · rw [getD_out (by omega)]; omega
theorem val_lt (i : Nat) : ∀ xs ys : List Int, Dig xs → Dig ys → (∀ j, i < j → xs.getD j 0 = ys.getD j 0) → xs.getD i 0 < ys.getD i 0 → val xs < val ys := by
  induction i with
  | zero =>
    intro xs ys hx hy h hlt
    have e : val xs.tail = val ys.tail := val_same (max xs.length ys.length) _ _ (by simp; omega) (by simp; omega) (fun j => by rw [getD_tail, getD_tail]; exact h _ (by omega))
    rw [val_tail xs, val_tail ys, e]
    omega
  | succ i ih =>
    intro xs ys hx hy h hlt
    have e := ih xs.tail ys.tail (dig_tail hx) (dig_tail hy) (fun j hj => by rw [getD_tail, getD_tail]; exact h _ (by omega)) (by rw [getD_tail, getD_tail]; exact hlt)
    have a := dig_getD hx 0
    have b := dig_getD hy 0
    rw [val_tail xs, val_tail ys]
    omega
/-- all digits beyond i are the same -/
def Above (xs ys : List Int) (i : Int) : Prop := -1 ≤ i ∧ ∀ j : Nat, i < (j : Int) → xs.getD j 0 = ys.getD j 0
theorem Above.start (xs ys : List Int) (i : Int) (h1 : (xs.length : Int) - 1 ≤ i) (h2 : (ys.length : Int) - 1 ≤ i) : Above xs ys i :=
  ⟨by omega, fun j hj => by rw [getD_out (by omega), getD_out (by omega)]⟩
theorem Above.step {xs ys : List Int} {j : Nat} (h : Above xs ys (j : Int)) (he : xs.getD j 0 = ys.getD j 0) : Above xs ys ((j : Int) - 1) :=
  ⟨by omega, fun k hk => by
    by_cases e : k = j
    · subst e; exact he
    · exact h.2 k (by omega)⟩
theorem Above.hit {xs ys : List Int} {j : Nat} (h : Above xs ys (j : Int)) (hx : Dig xs) (hy : Dig ys) (hne : xs.getD j 0 ≠ ys.getD j 0) : decide (xs.getD j 0 < ys.getD j 0) = decide (val xs ≤ val ys) := by
  rcases Int.lt_or_gt_of_ne hne with hlt | hgt
  · have := val_lt j xs ys hx hy (fun k hk => h.2 k (by omega)) hlt
    rw [decide_eq_true hlt, decide_eq_true (by omega)]
  · have := val_lt j ys xs hy hx (fun k hk => (h.2 k (by omega)).symm) hgt
    rw [decide_eq_false (by omega), decide_eq_false (by omega)]
theorem Above.done {xs ys : List Int} {i : Int} (h : Above xs ys i) (hi : i < 0) : decide (val xs ≤ val ys) = true := by
  have := val_same (max xs.length ys.length) xs ys (by omega) (by omega) (fun j => h.2 j (by omega))
  rw [decide_eq_true_eq]
  omega
set_option maxHeartbeats 1600000 in
theorem most_any (A1 A2 : Option Addr) (c1 c2 : Nat) (xs ys : List Int) (w : World) (hl1 : xs.length ≤ 1000) (hl2 : ys.length ≤ 1000) (hx : Dig xs) (hy : Dig ys) (h1 : IntsR w w.heap.size A1 xs) (h2 : IntsR w w.heap.size A2 ys) :
    Calls Try.prog 106 #[.slice A1 xs.length c1, .slice A2 ys.length c2] w fun e w' => e = .returned (.bool (decide (val xs ≤ val ys))) ∧ w = w' := by
  go_enter Try.func106, Try.ntmps106
  go_wp2
  all_goals
    go_loop [5] (fun i => ∃ q : Int, i = .int .i64 q ∧ q ≤ 1000 ∧ Hid (Above xs ys q)) (fun i => (intOf i + 1).toNat)
    case atStart => exact ⟨_, rfl, by omega, Above.start _ _ _ (by omega) (by omega)⟩
    case round =>
      obtain ⟨q, rfl, hq, ha⟩ := hrel
      by_cases h0 : 0 ≤ q
      · obtain ⟨j, rfl⟩ := Int.eq_ofNat_of_zero_le h0
        by_cases he : xs.getD j 0 = ys.getD j 0
        · have HS := Lib.hid (ha.out.step he)
          by_cases hax : j < xs.length
          · obtain ⟨b, o, rfl, hbl, hc⟩ := h1.at_ hax
            rw [getD_in hax] at he
            by_cases hay : j < ys.length
            · obtain ⟨b2, o2, rfl, hbl2, hc2⟩ := h2.at_ hay
              rw [getD_in hay] at he
              have hn : (xs[j] != ys[j]) = false := by simp [he]
              clear he
              go_wp2
              go_round
              case rel => exact ⟨_, rfl, by omega, HS.out⟩
              case measure => simp [intOf]
            · rw [getD_out (by omega)] at he
              have hn : (xs[j] != 0) = false := by simp [he]
              clear he
              go_wp2
              go_round
              case rel => exact ⟨_, rfl, by omega, HS.out⟩
              case measure => simp [intOf]
          · rw [getD_out (by omega)] at he
            by_cases hay : j < ys.length
            · obtain ⟨b2, o2, rfl, hbl2, hc2⟩ := h2.at_ hay
              rw [getD_in hay] at he
              have hn : ((0 : Int) != ys[j]) = false := by simp [← he]
              clear he
              go_wp2
              go_round
              case rel => exact ⟨_, rfl, by omega, HS.out⟩
              case measure => simp [intOf]
            · clear he
              go_wp2
              go_round
              case rel => exact ⟨_, rfl, by omega, HS.out⟩
              case measure => simp [intOf]
        · have HS := Lib.hid (ha.out.hit hx hy he)
          by_cases hax : j < xs.length
          · obtain ⟨b, o, rfl, hbl, hc⟩ := h1.at_ hax
            rw [getD_in hax] at he HS
            by_cases hay : j < ys.length
            · obtain ⟨b2, o2, rfl, hbl2, hc2⟩ := h2.at_ hay
              rw [getD_in hay] at he HS
              have hn : (xs[j] != ys[j]) = true := by simp [he]
              clear he
              go_wp2
              go_ret
              exact ⟨ret_bool HS.out, rfl⟩
            · rw [getD_out (by omega)] at he HS
              have hn : (xs[j] != 0) = true := by simp [he]
              clear he
              go_wp2
              go_ret
              exact ⟨ret_bool HS.out, rfl⟩
          · rw [getD_out (by omega)] at he HS
            by_cases hay : j < ys.length
            · obtain ⟨b2, o2, rfl, hbl2, hc2⟩ := h2.at_ hay
              rw [getD_in hay] at he HS
              have hn : ((0 : Int) != ys[j]) = true := by simp; exact fun e => he e
              clear he
              go_wp2
              go_ret
              exact ⟨ret_bool HS.out, rfl⟩
            · rw [getD_out (by omega)] at he
              exact absurd rfl he
      · go_wp2
        go_ret
        exact ⟨ret_bool (ha.out.done (by omega)).symm, rfl⟩

/-- digits, the last of which may be the base itself -/
def LD : List Int → Prop
  | [] => True
  | [d] => 0 ≤ d ∧ d ≤ 1073741824
  | d :: r => (0 ≤ d ∧ d < 1073741824) ∧ LD r
theorem LD_all : ∀ xs : List Int, LD xs → ∀ x ∈ xs, 0 ≤ x ∧ x ≤ 1073741824
  | [], _, x, hx => by simp at hx
  | [d], h, x, hx => by simp at hx; subst hx; exact h
  | d :: e :: r, h, x, hx => by
    rcases List.mem_cons.1 hx with rfl | hx
    · have := h.1; omega
    · exact LD_all (e :: r) h.2 x hx
theorem mul_bd2 {a b B : Int} (h1 : 0 ≤ a) (h2 : a ≤ B) (h3 : 0 ≤ b) (h4 : b ≤ 1073741824) (hB : 0 ≤ B) : 0 ≤ a * b ∧ a * b ≤ B * 1073741824 := by
  refine ⟨Int.mul_nonneg h1 h3, ?_⟩
  have := Int.mul_le_mul h2 h4 h3 hB
  omega
theorem LD_times (n : Int) (hn0 : 0 ≤ n) (hn : n ≤ 1073741824) : ∀ (xs : List Int) (c : Int), xs ≠ [] → LD xs → 0 ≤ c → c < 1073741824 → LD (timesGo n xs c)
  | [], c, h, _, _, _ => absurd rfl h
  | [d], c, _, h, h0, h1 => by
    have hm := mul_bd2 h.1 h.2 hn0 hn (by omega)
    simp only [timesGo, LD]
    omega
  | d :: e :: r, c, _, h, h0, h1 => by
    have hm := mul_bd2 h.1.1 (show d ≤ 1073741823 by have := h.1.2; omega) hn0 hn (by omega)
    have ih := LD_times n hn0 hn (e :: r) ((d * n + c) / 1073741824) (by simp) h.2 (by omega) (by omega)
    simp only [timesGo] at ih ⊢
    exact ⟨by omega, ih⟩
theorem mul_bd3 {a b B : Int} (h1 : 0 ≤ a) (h2 : a ≤ B) (h3 : 0 ≤ b) (h4 : b ≤ 10001) (hB : 0 ≤ B) : 0 ≤ a * b ∧ a * b ≤ B * 10001 := by
  refine ⟨Int.mul_nonneg h1 h3, ?_⟩
  have := Int.mul_le_mul h2 h4 h3 hB
  omega
theorem Dig_times (n : Int) (hn0 : 0 ≤ n) (hn : n ≤ 10001) : ∀ (xs : List Int) (c : Int), xs ≠ [] → LD xs → 0 ≤ c → c < 1073741824 → Dig (timesGo n xs c)
  | [], c, h, _, _, _ => absurd rfl h
  | [d], c, _, h, h0, h1 => by
    have hm := mul_bd3 h.1 h.2 hn0 hn (by omega)
    intro x hx
    simp only [timesGo, List.mem_cons, List.mem_nil_iff, or_false] at hx
    omega
  | d :: e :: r, c, _, h, h0, h1 => by
    have hm := mul_bd3 h.1.1 (show d ≤ 1073741823 by have := h.1.2; omega) hn0 hn (by omega)
    have ih := Dig_times n hn0 hn (e :: r) ((d * n + c) / 1073741824) (by simp) h.2 (by omega) (by omega)
    intro x hx
    rw [timesGo, List.mem_cons] at hx
    rcases hx with rfl | hx
    · omega
    · exact ih x hx
theorem timesN_ne (n : Int) (xs : List Int) (c : Int) : timesGo n xs c ≠ [] := by cases xs <;> simp [timesGo]
/-- the cube of c, digit by digit -/
def cubeD (c : Int) : List Int := timesGo c (timesGo c [c] 0) 0
theorem cubeD_LD {c : Int} (h0 : 0 ≤ c) (h1 : c ≤ 1073741824) : LD (cubeD c) :=
  LD_times c h0 h1 _ 0 (timesN_ne _ _ _) (LD_times c h0 h1 [c] 0 (by simp) ⟨h0, h1⟩ (by omega) (by omega)) (by omega) (by omega)
theorem cubeD_val (c : Int) : val (cubeD c) = c * c * c := by
  unfold cubeD
  rw [val_timesGo, val_timesGo]
  simp [val, Int.mul_assoc]
theorem timesR_at (A : Option Addr) (c : Nat) (N : Nat) (xs : List Int) (n : Int) (w : World) (hN : xs.length = N) (hlen : N ≤ 1000) (hx : LD xs) (hn0 : 0 ≤ n) (hn : n ≤ 1073741824) (h1 : IntsR w w.heap.size A xs) :
    Calls Try.prog 105 #[.slice A N c, .int .i64 n] w fun e w' => ∃ A' c', e = .returned (.slice A' (N + 1) c') ∧ IntsR w' w'.heap.size A' (timesGo n xs 0) ∧ Below w.heap.size w w' := by
  subst hN
  refine (timesR_any A c xs n w hlen (LD_all xs hx) hn0 hn h1).mono ?_
  rintro e w' ⟨A', c', rfl, h, hb⟩
  exact ⟨A', c', rfl, h.row, hb⟩
theorem most_at (A1 A2 : Option Addr) (c1 c2 N1 N2 : Nat) (xs ys : List Int) (w : World) (hN1 : xs.length = N1) (hN2 : ys.length = N2) (hl1 : N1 ≤ 1000) (hl2 : N2 ≤ 1000) (hx : Dig xs) (hy : Dig ys) (h1 : IntsR w w.heap.size A1 xs) (h2 : IntsR w w.heap.size A2 ys) :
    Calls Try.prog 106 #[.slice A1 N1 c1, .slice A2 N2 c2] w fun e w' => e = .returned (.bool (decide (val xs ≤ val ys))) ∧ w = w' := by
  subst hN1 hN2
  exact most_any A1 A2 c1 c2 xs ys w hl1 hl2 hx hy h1 h2
end Go.Proofs.Ytemlljgldkkkgaa
