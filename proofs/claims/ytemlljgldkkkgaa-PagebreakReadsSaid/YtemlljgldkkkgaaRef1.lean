/- The reference's height. -/
import Derived.Test.YtemlljgldkkkgaaRep
import Derived.Test.YtemlljgldkkkgaaLib
import Derived.Test.YtemlljgldkkkgaaBadRef
namespace Go.Proofs.Ytemlljgldkkkgaa
open Go.RowKit
theorem hgtK_self (P : PP) (a k : Nat) : P.hgtK a a k = 0 := by
  have : sumTo (fun j => withGap P.gap (P.sn j a - P.sn j a)) k = 0 := by
    induction k with
    | zero => rfl
    | succ k ih => simp only [sumTo]; rw [ih]; simp [withGap]
  unfold PP.hgtK
  rw [this]; omega
theorem hgtK_zero (P : PP) (a b : Nat) : P.hgtK a b 0 = P.sl b - P.sl a := by simp [PP.hgtK, sumTo]
theorem hgtK_succ (P : PP) (a b k : Nat) : P.hgtK a b (k + 1) = P.hgtK a b k + withGap P.gap (P.sn k b - P.sn k a) := by
  simp only [PP.hgtK, sumTo]; omega
set_option maxRecDepth 100000 in
set_option maxHeartbeats 1600000 in
theorem heightRef_any (AL AN AP : Option Addr) (cL cN cP : Nat) (P : PP) (a b : Nat) (w : World) (F : Fine P) (hR : PPR w w.heap.size AL AN AP P) (hab : a ≤ b) (hb : b ≤ P.lines.length) :
    Calls Try.prog 68 #[.agg #[.slice AL P.lines.length cL, .slice AN P.notes.length cN, .slice AP P.pens.length cP, .int .i64 P.height, .int .i64 P.gap], .int .i64 (a : Int), .int .i64 (b : Int)] w fun e w' => e = .returned (.int .i64 (P.hgt a b)) ∧ Below w.heap.size w w' := by
  have hn := F.ln
  have n1 : P.lines.length ≤ P.notes.length := Nat.le_of_eq F.nl.symm
  have HR := hR.alloc (.cells #[.slice AL P.lines.length cL, .slice AN P.notes.length cN, .slice AP P.pens.length cP, .int .i64 P.height, .int .i64 P.gap] 25)
  have B0 : Below w.heap.size w (w.alloc (.cells #[.slice AL P.lines.length cL, .slice AN P.notes.length cN, .slice AP P.pens.length cP, .int .i64 P.height, .int .i64 P.gap] 25)) := (Below.refl _ _).alloc (Nat.le_refl _) _
  go_enter Try.func68, Try.ntmps68
  go_wp2
  go_loop [7, 8] (fun s i => ∃ (k : Nat) (x : Int), i = .int .i64 k ∧ s = .int .i64 x ∧ a ≤ k ∧ k ≤ b ∧ 0 ≤ x ∧ x ≤ 4398046511104 ∧ Hid (x = P.sl k - P.sl a)) (fun _ i => b - (intOf i).toNat)
  case atStart => exact ⟨a, 0, rfl, rfl, Nat.le_refl _, hab, Int.le_refl _, by omega, (Int.sub_self _).symm⟩
  case round =>
    obtain ⟨k, x, rfl, rfl, hk1, hk2, hx0, hx1, hx⟩ := hrel
    by_cases hlt : k < b
    · obtain ⟨b1, o1, rfl, hbl, hc⟩ := HR.line_at (show k < P.lines.length by omega)
      have hl := F.line_bd k
      have hs : Hid (x + P.line k = P.sl (k + 1) - P.sl a) := by have := hx.out; unfold PP.sl at *; simp only [sumTo]; unfold Hid; omega
      have hs1 := F.sl_bd (i := k + 1) (by omega)
      have hs2 := F.sl_bd (i := a) (by omega)
      have hle : x + P.line k ≤ 4398046511104 := by have := hs.out; omega
      clear hs1 hs2
      go_wp2
      go_round
      case rel => exact ⟨k + 1, _, by go_num, rfl, by omega, by omega, by omega, hle, hs⟩
      case measure => simp [intOf]; omega
    · obtain rfl : k = b := by omega
      have hx' : Hid (x = P.hgtK a k 0) := by have := hx.out; unfold Hid; rw [hgtK_zero]; exact this
      clear hx
      have hB16 := F.blocks
      have hx2 : x ≤ 74783970557952 := by omega
      go_wp2_with fail
      go_loop [7, 9] (fun s j => ∃ (q : Nat) (y : Int), j = .int .i64 q ∧ s = .int .i64 y ∧ q ≤ nbk P ∧ 0 ≤ y ∧ y ≤ 74783970557952 ∧ Hid (y = P.hgtK a k q)) (fun _ j => nbk P - (intOf j).toNat)
      case atStart => exact ⟨0, x, rfl, rfl, Nat.zero_le _, hx0, hx2, hx'⟩
      case round =>
        obtain ⟨q, y, rfl, rfl, hq, hy0, hy1, hy⟩ := hrel
        clear hx' hx2
        by_cases hak : a < k
        · obtain ⟨b1, o1, A1, c1, hA1, hbl, hc1, _⟩ := HR.row_at F (show a < P.lines.length by omega)
          subst hA1
          by_cases hqn : q < nbk P
          · go_wp2_with fail
            go_loop [10, 11] (fun s i => ∃ (r : Nat) (z : Int), i = .int .i64 r ∧ s = .int .i64 z ∧ a ≤ r ∧ r ≤ k ∧ 0 ≤ z ∧ z ≤ 4398046511104 ∧ Hid (z = P.sn q r - P.sn q a)) (fun _ i => k - (intOf i).toNat)
            case atStart => exact ⟨a, 0, rfl, rfl, Nat.le_refl _, hab, Int.le_refl _, by omega, (Int.sub_self _).symm⟩
            case round =>
              obtain ⟨r, z, rfl, rfl, hr1, hr2, hz0, hz1, hz⟩ := hrel
              by_cases hrk : r < k
              · obtain ⟨b2, o2, A2, c2, hA2, hbl2, hc2, hcells⟩ := HR.row_at F (show r < P.lines.length by omega)
                injection hA2 with hA2
                injection hA2 with e1 e2
                subst e1 e2
                obtain ⟨b3, o3, rfl, hbl3, hc3⟩ := hcells q hqn
                clear hcells
                have hl := F.note_bd q r
                have hs : Hid (z + P.note q r = P.sn q (r + 1) - P.sn q a) := by have := hz.out; unfold PP.sn at *; simp only [sumTo]; unfold Hid; omega
                have hs1 := F.sn_bd q (i := r + 1) (by omega)
                have hs2 := F.sn_bd q (i := a) (by omega)
                have hle : z + P.note q r ≤ 4398046511104 := by have := hs.out; omega
                clear hs1 hs2
                go_wp2
                go_round
                case rel => exact ⟨r + 1, _, by go_num, rfl, by omega, by omega, by omega, hle, hs⟩
                case measure => simp [intOf]; omega
              · obtain rfl : r = k := by omega
                have hg := F.hgtK_bd (a := a) (b := r) (k := q + 1) hab (by omega) (by omega)
                have hgs := hgtK_succ P a r q
                have hg0 := F.g0
                have hg1 := F.g1
                by_cases hz2 : 0 < z
                · have HS : Hid (y + z + P.gap = P.hgtK a r (q + 1)) := by
                    unfold Hid
                    rw [hgs, ← hz.out, ← hy.out, withGap, if_pos hz2]; omega
                  have hub : y + z + P.gap ≤ 74783970557952 := by have := HS.out; omega
                  clear hg hgs
                  go_wp2
                  go_round
                  case rel => exact ⟨q + 1, _, by go_num, rfl, by omega, by omega, hub, HS⟩
                  case measure => simp [intOf]; omega
                · have HS : Hid (y = P.hgtK a r (q + 1)) := by
                    unfold Hid
                    rw [hgs, ← hz.out, ← hy.out, withGap, if_neg hz2]; omega
                  clear hg hgs
                  go_wp2
                  go_round
                  case rel => exact ⟨q + 1, _, by go_num, rfl, by omega, by omega, hy1, HS⟩
                  case measure => simp [intOf]; omega
          · go_wp2
            go_ret
            obtain rfl : q = nbk P := by omega
            exact ⟨ret_int hy.out, B0⟩
        · go_wp2
          go_ret
          obtain rfl : a = k := by omega
          exact ⟨ret_int (by rw [hy.out, hgtK_self]; exact (hgtK_self _ _ _).symm), B0⟩
end Go.Proofs.Ytemlljgldkkkgaa
