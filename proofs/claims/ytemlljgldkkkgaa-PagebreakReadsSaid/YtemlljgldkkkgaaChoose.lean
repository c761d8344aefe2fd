/- The law's choose: ascending ends. Conditions: at most ten lines, the bits a uint16. -/
import Derived.Test.YtemlljgldkkkgaaRef7
import Derived.Test.YtemlljgldkkkgaaBest
namespace Go.Proofs.Ytemlljgldkkkgaa
open Go.RowKit Go.Shelf
/-- ascending from above l, all below u -/
def Inc (l : Int) : List Int → Int → Prop
  | [], u => l < u
  | x :: r, u => l < x ∧ Inc x r u
theorem Inc.mono : ∀ {xs : List Int} {l u v : Int}, Inc l xs u → u ≤ v → Inc l xs v
  | [], _, _, _, h, huv => Int.lt_of_lt_of_le h huv
  | _ :: _, _, _, _, h, huv => ⟨h.1, Inc.mono h.2 huv⟩
theorem Inc.snoc : ∀ {xs : List Int} {l u : Int}, Inc l xs u → Inc l (xs ++ [u]) (u + 1)
  | [], _, u, h => ⟨h, by show u < u + 1; omega⟩
  | _ :: _, _, _, h => ⟨h.1, Inc.snoc h.2⟩
theorem Inc.last : ∀ {xs : List Int} {l u : Int}, Inc l xs u → l < u
  | [], _, _, h => h
  | _ :: _, _, _, h => Int.lt_trans h.1 (Inc.last h.2)
theorem Inc.asc : ∀ {xs : List Int} {l n : Int}, Inc l xs n → Asc n l (xs ++ [n])
  | [], _, _, h => ⟨h, Int.le_refl _, rfl⟩
  | _ :: _, _, _, h => ⟨h.1, Int.le_of_lt (Inc.last h.2), Inc.asc h.2⟩
theorem Inc.len : ∀ {xs : List Int} {l u : Int}, Inc l xs u → l + xs.length < u
  | [], l, u, h => by
    have h : l < u := h
    simpa using h
  | _ :: _, _, _, h => by
    have := Inc.len h.2
    have := h.1
    simp; omega
set_option maxRecDepth 100000 in
set_option maxHeartbeats 1600000 in
theorem choose_any (n : Nat) (b : Int) (w : World) (hn : n ≤ 10) (_hb0 : 0 ≤ b) (_hb1 : b ≤ 65535) :
    Calls Try.prog 25 #[.int .i64 (n : Int), .int .u16 b] w fun e w' => ∃ (A : Option Addr) (c : Nat) (xs : List Int), e = .returned (.slice A xs.length c) ∧ IntsR w' w'.heap.size A xs ∧ Asc n 0 xs ∧ xs.length ≤ n ∧ Below w.heap.size w w' := by
  obtain ⟨i0, hi, hz0, hz1, hz2⟩ := info_parts int_info
  go_enter Try.func25, Try.ntmps25
  go_wp2_with fail
  go_loopw [5, 6] (fun o i wr => ∃ (A : Option Addr) (c : Nat) (ds : List Int) (k : Nat), o = .slice A ds.length c ∧ i = .int .i64 k ∧ 1 ≤ k ∧ k ≤ n + 1 ∧ (1 ≤ n → k ≤ n) ∧ Hid (Inc 0 ds k) ∧ ds.length ≤ 10 ∧ OwnS wr w.heap.size 3 1 A ds.length c (ds.map fun x => .int .i64 x) ∧ Below w.heap.size w wr) (fun _ i _ => n + 1 - (intOf i).toNat)
  case atStart => exact ⟨none, 0, [], 1, rfl, rfl, Nat.le_refl _, by omega, fun h => h, (show (0 : Int) < 1 by decide), by simp, OwnS.nil _ _ _ _, Below.refl _ _⟩
  case round =>
    obtain ⟨A, c, ds, k, rfl, rfl, hk1, hk2, hk3, hinc, hdl, hown, hb⟩ := hrel
    by_cases hkn : k < n
    · have hx0 : (0 : Int) ≤ (k : Int) := by omega
      have hlen := hinc.out.len
      have hdn : ds.length < 10 := by omega
      have HS := Lib.hid hinc.out.snoc
      by_cases ht : (bits BinOp.and IntKind.u16 (b / 2 ^ k) 1 == 1) = true
      · clear hlen
        go_wp2_with (at_builtin; refine wpList_app _ rfl (.tmp 17) (.tmp 19) 22 rfl w.heap.size 3 i0 (.int .i64 0) 1 8 Try.underlying22 hi hz0 hz1 hz2 rfl (by decide) A ds.length c (ds.map fun x => .int .i64 x) rfl (hown.alloc _) (wr.heap.size + 1) _ 1 1 [_] rfl (by simp) (Row.one _ _ _ _ (by simp)) (by simp [Value.oneCell']) (by simp only [maxLen]; omega) (by omega) (by have := hb.size; simp; omega) ?_; intro A1 c1 w8 hown8 hgr hA8)
        go_roundw
        case rel =>
          refine ⟨A1, c1, ds ++ [(k : Int)], k + 1, by simp, by go_num, by omega, by omega, by omega, HS.out, by simp; omega, by simpa using hown8, ?_⟩
          exact (hown.alloc _).belowGrown (hb.alloc hb.size _) (Nat.le_refl _) (by have := hb.size; simp; omega) hgr
        case measure => simp [intOf]; omega
      · have ht' : (bits BinOp.and IntKind.u16 (b / 2 ^ k) 1 == 1) = false := by simpa using ht
        clear ht hlen
        go_wp2
        go_roundw
        case rel => exact ⟨A, c, ds, k + 1, rfl, by go_num, by omega, by omega, by omega, hinc.out.mono (by omega), hdl, hown, hb⟩
        case measure => simp [intOf]; omega
    · have hlen := hinc.out.len
      by_cases hn1 : 1 ≤ n
      · obtain rfl : k = n := by omega
        have hp : (0 : Int) < (k : Int) := by omega
        have HS := Lib.hid hinc.out.asc
        have hdn : ds.length < 10 := by omega
        have hdk : ds.length + 1 ≤ k := by omega
        clear hlen
        go_wp2_with (at_builtin; refine wpList_app _ rfl (.tmp 23) (.tmp 25) 22 rfl w.heap.size 3 i0 (.int .i64 0) 1 8 Try.underlying22 hi hz0 hz1 hz2 rfl (by decide) A ds.length c (ds.map fun x => .int .i64 x) rfl (hown.alloc _) (wr.heap.size + 1) _ 1 1 [_] rfl (by simp) (Row.one _ _ _ _ (by simp)) (by simp [Value.oneCell']) (by simp only [maxLen]; omega) (by omega) (by have := hb.size; simp; omega) ?_; intro A1 c1 w8 hown8 hgr hA8)
        go_ret
        refine ⟨A1, c1, ds ++ [(k : Int)], by simp, ?_, HS.out, by simp; omega, (hown.alloc _).belowGrown (hb.alloc hb.size _) (Nat.le_refl _) (by have := hb.size; simp; omega) hgr⟩
        have := hown8.row
        simpa [IntsR] using this
      · obtain rfl : n = 0 := by omega
        obtain rfl : ds = [] := List.eq_nil_of_length_eq_zero (by have h := hlen; omega)
        clear hlen
        go_wp2
        go_ret
        exact ⟨A, c, [], rfl, IntsR.nil, rfl, Nat.le_refl _, hb⟩
end Go.Proofs.Ytemlljgldkkkgaa
