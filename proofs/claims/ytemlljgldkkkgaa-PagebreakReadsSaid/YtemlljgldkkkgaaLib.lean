/- Contracts of the library functions that the laws of this seat reach: searches, comparisons, clones, at slices of ints and of slices of ints. Conditions: lengths up to 2^40. -/
import Derived.Test.YtemlljgldkkkgaaProg
import Derived.Test.YtemlljgldkkkgaaMem
import Derived.Test.YtemlljgldkkkgaaSearch
namespace Go.Proofs.Ytemlljgldkkkgaa
open Go.RowKit
def big : Nat := 140737488355328
theorem int_info : (Try.prog.info? 3).map (fun i => (i.zero, i.size, i.bytes)) = some (some (.int .i64 0), 1, 8) := by kernel_rfl

set_option maxHeartbeats 400000 in
theorem indexFunc_any (g : Nat) (lb : Array Value) (p : Int → Bool) (A : Option Addr) (c : Nat) (xs : List Int) (w : World)
    (hn : xs.length ≤ 140737488355328) (hR : IntsR w w.heap.size A xs)
    (eg : ∀ args w, (callFunc g args).run Try.prog w = .ok (.enter g args) w)
    (hp : ∀ x ∈ xs, Pred Try.prog g lb w #[.int .i64 x] (p x)) :
    Calls Try.prog 98 #[.slice A xs.length c, .func (.func g) #[] lb] w fun e w' => e = .returned (.int .i64 (idx p xs)) ∧ Below w.heap.size w w' := by
  have HP := Lib.hid hp
  clear hp
  go_enter Try.func98, Try.ntmps98
  go_wp2
  go_loopw [8] (fun i wr => ∃ k : Nat, i = .int .i64 k ∧ Missed p xs k ∧ Below w.heap.size w wr) (fun i _ => xs.length - (intOf i).toNat)
  case atStart => exact ⟨0, rfl, Missed.zero, Below.refl _ _⟩
  case round =>
    obtain ⟨k, rfl, hm, hb⟩ := hrel
    have hk := hm.1
    by_cases hlt : k < xs.length
    · obtain ⟨b, o, rfl, hbl, hc⟩ := (hR.below hb).at_ hlt
      have hq := HP.out xs[k] (List.getElem_mem hlt)
      by_cases hpk : p xs[k] = true
      · rw [hpk] at hq
        go_wp2_with (refine (hq wr hb).mono ?_; rintro e w1 ⟨rfl, hb1⟩)
        go_ret
        exact ⟨ret_int (hm.hit hlt hpk).symm, hb.trans (hb1.mono hb.size)⟩
      · simp only [Bool.not_eq_true] at hpk
        rw [hpk] at hq
        go_wp2_with (refine (hq wr hb).mono ?_; rintro e w1 ⟨rfl, hb1⟩)
        go_roundw
        case rel => exact ⟨k + 1, by go_num, hm.step hlt hpk, hb.trans (hb1.mono hb.size)⟩
        case measure => simp [intOf]; omega
    · go_wp2
      go_ret
      exact ⟨ret_int (hm.done (by omega)).symm, hb⟩

theorem containsFunc_any (g : Nat) (lb : Array Value) (p : Int → Bool) (A : Option Addr) (c : Nat) (xs : List Int) (w : World)
    (hn : xs.length ≤ 140737488355328) (hR : IntsR w w.heap.size A xs)
    (eg : ∀ args w, (callFunc g args).run Try.prog w = .ok (.enter g args) w)
    (hp : ∀ x ∈ xs, Pred Try.prog g lb w #[.int .i64 x] (p x)) :
    Calls Try.prog 72 #[.slice A xs.length c, .func (.func g) #[] lb] w fun e w' => e = .returned (.bool (xs.any p)) ∧ Below w.heap.size w w' := by
  have HC := Lib.hid (indexFunc_any g lb p A c xs w hn hR eg hp)
  clear hp
  go_enter Try.func72, Try.ntmps72
  go_wp2_with (go_at_call 98; refine HC.out.mono ?_; rintro e w1 ⟨rfl, hb1⟩)
  go_ret
  exact ⟨ret_bool (idx_any p xs), hb1⟩

set_option maxHeartbeats 400000 in
theorem indexFuncR_any (g : Nat) (lb : Array Value) (p : List Int → Bool) (A : Option Addr) (c : Nat) (xss : List (List Int)) (w : World)
    (hn : xss.length ≤ 140737488355328) (hR : RowsR w w.heap.size A xss)
    (eg : ∀ args w, (callFunc g args).run Try.prog w = .ok (.enter g args) w)
    (hp : ∀ xs ∈ xss, ∀ (Ai : Option Addr) (ci : Nat), IntsR w w.heap.size Ai xs → Pred Try.prog g lb w #[.slice Ai xs.length ci] (p xs)) :
    Calls Try.prog 86 #[.slice A xss.length c, .func (.func g) #[] lb] w fun e w' => e = .returned (.int .i64 (idx p xss)) ∧ Below w.heap.size w w' := by
  have HP := Lib.hid hp
  clear hp
  go_enter Try.func86, Try.ntmps86
  go_wp2
  go_loopw [8] (fun i wr => ∃ k : Nat, i = .int .i64 k ∧ Missed p xss k ∧ Below w.heap.size w wr) (fun i _ => xss.length - (intOf i).toNat)
  case atStart => exact ⟨0, rfl, Missed.zero, Below.refl _ _⟩
  case round =>
    obtain ⟨k, rfl, hm, hb⟩ := hrel
    have hk := hm.1
    by_cases hlt : k < xss.length
    · obtain ⟨b, o, Ai, ci, rfl, hbl, hc0, hri⟩ := hR k hlt
      have hc := (hb.cell (p := ⟨b, o + k, none⟩) hbl).trans hc0
      have hq := HP.out xss[k] (List.getElem_mem hlt) Ai ci hri
      clear hc0 hri
      by_cases hpk : p xss[k] = true
      · rw [hpk] at hq
        go_wp2_with (refine (hq wr hb).mono ?_; rintro e w1 ⟨rfl, hb1⟩)
        go_ret
        exact ⟨ret_int (hm.hit hlt hpk).symm, hb.trans (hb1.mono hb.size)⟩
      · simp only [Bool.not_eq_true] at hpk
        rw [hpk] at hq
        go_wp2_with (refine (hq wr hb).mono ?_; rintro e w1 ⟨rfl, hb1⟩)
        go_roundw
        case rel => exact ⟨k + 1, by go_num, hm.step hlt hpk, hb.trans (hb1.mono hb.size)⟩
        case measure => simp [intOf]; omega
    · go_wp2
      go_ret
      exact ⟨ret_int (hm.done (by omega)).symm, hb⟩

theorem containsFuncR_any (g : Nat) (lb : Array Value) (p : List Int → Bool) (A : Option Addr) (c : Nat) (xss : List (List Int)) (w : World)
    (hn : xss.length ≤ 140737488355328) (hR : RowsR w w.heap.size A xss)
    (eg : ∀ args w, (callFunc g args).run Try.prog w = .ok (.enter g args) w)
    (hp : ∀ xs ∈ xss, ∀ (Ai : Option Addr) (ci : Nat), IntsR w w.heap.size Ai xs → Pred Try.prog g lb w #[.slice Ai xs.length ci] (p xs)) :
    Calls Try.prog 47 #[.slice A xss.length c, .func (.func g) #[] lb] w fun e w' => e = .returned (.bool (xss.any p)) ∧ Below w.heap.size w w' := by
  have HC := Lib.hid (indexFuncR_any g lb p A c xss w hn hR eg hp)
  clear hp
  go_enter Try.func47, Try.ntmps47
  go_wp2_with (go_at_call 86; refine HC.out.mono ?_; rintro e w1 ⟨rfl, hb1⟩)
  go_ret
  exact ⟨ret_bool (idx_any p xss), hb1⟩

set_option maxHeartbeats 400000 in
theorem equal_any (A1 A2 : Option Addr) (c1 c2 : Nat) (xs ys : List Int) (w : World)
    (hn : xs.length ≤ 140737488355328) (_hm : ys.length ≤ 140737488355328) (h1 : IntsR w w.heap.size A1 xs) (h2 : IntsR w w.heap.size A2 ys) :
    Calls Try.prog 21 #[.slice A1 xs.length c1, .slice A2 ys.length c2] w fun e w' => e = .returned (.bool (decide (xs = ys))) ∧ Below w.heap.size w w' := by
  by_cases hl : xs.length = ys.length
  · have hl' : ((xs.length : Int) != (ys.length : Int)) = false := by simp [hl]
    go_enter Try.func21, Try.ntmps21
    go_wp2
    go_loopw [13] (fun i wr => ∃ k : Nat, i = .int .i64 k ∧ SameTo xs ys k ∧ Below w.heap.size w wr) (fun i _ => xs.length - (intOf i).toNat)
    case atStart => exact ⟨0, rfl, SameTo.zero, Below.refl _ _⟩
    case round =>
      obtain ⟨k, rfl, hs, hb⟩ := hrel
      have hk := hs.1
      by_cases hlt : k < xs.length
      · have hlt2 : k < ys.length := by omega
        obtain ⟨b, o, rfl, hbl, hc⟩ := (h1.below hb).at_ hlt
        obtain ⟨b2, o2, rfl, hbl2, hc2⟩ := (h2.below hb).at_ hlt2
        have i1 : ((k : Int) < (xs.length : Int)) := by omega
        have i2 : ((k : Int) < (ys.length : Int)) := by omega
        have HL := Lib.hid hl
        clear hl
        by_cases he : xs[k] = ys[k]
        · have he' : (xs[k] != ys[k]) = false := by simp [he]
          have HE := Lib.hid he
          clear he
          go_wp2
          go_quiet (fail)
          go_wp2
          go_roundw
          case rel => exact ⟨k + 1, by go_num, hs.step hlt hlt2 HE.out, below_drewN hb _⟩
          case measure => simp [intOf]; omega
        · have he' : (xs[k] != ys[k]) = true := by simp [he]
          go_wp2
          go_quiet (fail)
          go_wp2
          go_ret
          refine ⟨ret_bool ?_, below_drewN hb _⟩
          symm
          rw [decide_eq_false_iff_not]
          intro e
          exact he (by simp only [e])
      · go_wp2
        go_ret
        refine ⟨ret_bool ?_, hb⟩
        symm
        rw [decide_eq_true_eq]
        exact hs.all (by omega) hl
  · have hl' : ((xs.length : Int) != (ys.length : Int)) = true := by simp; omega
    go_enter Try.func21, Try.ntmps21
    go_wp2
    go_ret
    refine ⟨ret_bool ?_, Below.refl _ _⟩
    symm
    rw [decide_eq_false_iff_not]
    intro e
    exact hl (by rw [e])

theorem cmp_any (x y : Int) (w : World) : Calls Try.prog 66 #[.int .i64 x, .int .i64 y] w fun e w' => e = .returned (.int .i64 (cmpI x y)) ∧ w = w' := by
  by_cases h1 : x < y
  · go_enter Try.func66, Try.ntmps66
    go_wp2
    go_ret
    exact ⟨ret_int (by simp [cmpI, h1]), rfl⟩
  · by_cases h2 : y < x
    · go_enter Try.func66, Try.ntmps66
      go_wp2
      go_ret
      exact ⟨ret_int (by simp [cmpI, h1, h2]), rfl⟩
    · go_enter Try.func66, Try.ntmps66
      go_wp2
      go_ret
      exact ⟨ret_int (by unfold cmpI; rw [if_neg (by omega), if_neg (by omega)]), rfl⟩

set_option maxHeartbeats 400000 in
theorem compare_any (A1 A2 : Option Addr) (c1 c2 : Nat) (xs ys : List Int) (w : World)
    (hn : xs.length ≤ 140737488355328) (_hm : ys.length ≤ 140737488355328) (h1 : IntsR w w.heap.size A1 xs) (h2 : IntsR w w.heap.size A2 ys) :
    Calls Try.prog 27 #[.slice A1 xs.length c1, .slice A2 ys.length c2] w fun e w' => e = .returned (.int .i64 (cmpL xs ys)) ∧ Below w.heap.size w w' := by
  go_enter Try.func27, Try.ntmps27
  go_wp2
  go_loopw [11] (fun i wr => ∃ k : Nat, i = .int .i64 k ∧ SameTo xs ys k ∧ Below w.heap.size w wr) (fun i _ => xs.length - (intOf i).toNat)
  case atStart => exact ⟨0, rfl, SameTo.zero, Below.refl _ _⟩
  case round =>
    obtain ⟨k, rfl, hs, hb⟩ := hrel
    have hk := hs.1
    by_cases hlt : k < xs.length
    · obtain ⟨b, o, rfl, hbl, hc⟩ := (h1.below hb).at_ hlt
      by_cases hlt2 : k < ys.length
      · obtain ⟨b2, o2, rfl, hbl2, hc2⟩ := (h2.below hb).at_ hlt2
        by_cases he : xs[k] = ys[k]
        · have hz : cmpI xs[k] ys[k] = 0 := cmpI_eq.2 he
          have HE := Lib.hid he
          have HZ := Lib.hid hz
          clear he hz
          go_wp2_with (go_at_call 66; refine (cmp_any _ _ _).mono ?_; rw [HZ.out]; rintro e w1 ⟨rfl, rfl⟩)
          go_roundw
          case rel => exact ⟨k + 1, by go_num, hs.step hlt hlt2 HE.out, hb⟩
          case measure => simp [intOf]; omega
        · have hz : (cmpI xs[k] ys[k] != 0) = true := by simp [cmpI_eq, he]
          go_wp2_with (go_at_call 66; refine (cmp_any _ _ _).mono ?_; rintro e w1 ⟨rfl, rfl⟩)
          go_ret
          exact ⟨ret_int (cmpL_at hs hlt hlt2 (by simpa using hz)).symm, hb⟩
      · go_wp2
        go_ret
        exact ⟨ret_int (cmpL_gt hs hlt (by omega)).symm, hb⟩
    · have hend := Lib.hid (cmpL_end hs (by omega))
      by_cases hl : xs.length < ys.length
      · go_wp2
        go_ret
        exact ⟨ret_int (by rw [hend.out, if_pos hl]), hb⟩
      · go_wp2
        go_ret
        exact ⟨ret_int (by rw [hend.out, if_neg (by omega)]), hb⟩

set_option maxHeartbeats 400000 in
theorem min_any (A : Option Addr) (c : Nat) (xs : List Int) (w : World) (hn : xs.length ≤ 140737488355328) (h0 : 0 < xs.length) (h1 : IntsR w w.heap.size A xs) :
    Calls Try.prog 64 #[.slice A xs.length c] w fun e w' => (∃ m, e = .returned (.int .i64 m) ∧ minTo xs xs.length m) ∧ w = w' := by
  obtain ⟨b, o, rfl, hbl, hc⟩ := h1.at_ h0
  have hm0 : minTo xs 1 xs[0] := ⟨fun j h1 h2 => by
    obtain rfl : j = 0 := by omega
    exact Int.le_refl _, List.getElem_mem h0⟩
  simp only [Nat.add_zero] at hc
  go_enter Try.func64, Try.ntmps64
  go_wp2
  go_loop [3, 4] (fun m i => ∃ (k : Nat) (y : Int), i = .int .i64 k ∧ m = .int .i64 y ∧ 1 ≤ k ∧ k ≤ xs.length ∧ minTo xs k y) (fun _ i => xs.length - (intOf i).toNat)
  case atStart => exact ⟨1, xs[0], rfl, rfl, by omega, by omega, hm0⟩
  case round =>
    obtain ⟨k, y, rfl, rfl, hk1, hk, hm⟩ := hrel
    by_cases hlt : k < xs.length
    · obtain ⟨b', o', hA, hbl', hc'⟩ := h1.at_ hlt
      injection hA with hA
      injection hA with e1 e2
      subst e1 e2
      go_wp2
      go_round
      case rel => exact ⟨k + 1, _, by go_num, rfl, by omega, by omega, hm.step hlt⟩
      case measure => simp [intOf]; omega
    · go_wp2
      go_ret
      refine ⟨⟨y, rfl, ?_⟩, rfl⟩
      have : k = xs.length := by omega
      subst this
      exact hm

theorem clone_any (A : Option Addr) (c : Nat) (xs : List Int) (w : World) (hn : xs.length ≤ 1000000) (h1 : IntsR w w.heap.size A xs) :
    Calls Try.prog 28 #[.slice A xs.length c] w fun e w' => ∃ A' c', e = .returned (.slice A' xs.length c') ∧ OwnS w' w.heap.size 3 1 A' xs.length c' (xs.map fun x => .int .i64 x) ∧ Below w.heap.size w w' := by
  have hnil := fun (w : World) A n c => Lib.run_eql_slice_nil (P := Try.prog) w 22 3 A n c 0 0 Try.underlying22
  cases A with
  | none =>
    have hx : xs = [] := by have := Row.none_nil h1; simpa using this
    subst hx
    go_enter Try.func28, Try.ntmps28
    go_wp2
    go_ret
    exact ⟨none, 0, rfl, OwnS.nil _ _ _ _, Below.refl _ _⟩
  | some ad =>
    obtain ⟨i0, hi, hz0, hz1, hz2⟩ := info_parts int_info
    go_enter Try.func28, Try.ntmps28
    go_wp2_with (at_builtin; refine wpList_app _ rfl (.tmp 5) (.tmp 6) 22 rfl w.heap.size 3 i0 (.int .i64 0) 1 8 Try.underlying22 hi hz0 hz1 hz2 rfl (by decide) (some ⟨w.heap.size, 0, none⟩) 0 0 [] rfl ⟨World.ownsRow_made _ #[] 0 (Nat.le_refl _) (Nat.zero_le _) rfl⟩ w.heap.size (some ad) xs.length c (xs.map fun x => .int .i64 x) rfl (by simp) (Row.below h1 ((Below.refl _ _).alloc (Nat.le_refl _) _)) (by simp [Value.oneCell']) (by simp only [maxLen]; omega) (by omega) (by simp) ?_; intro A1 c1 w1 hown hgr hA)
    go_ret
    refine ⟨A1, c1, by simp, by simpa using hown, ?_⟩
    refine ((Below.refl _ _).alloc (Nat.le_refl _) _).grown hgr (by simp) (fun k hk => ?_)
    simp [Value.ownBlock] at hk
    omega
end Go.Proofs.Ytemlljgldkkkgaa
