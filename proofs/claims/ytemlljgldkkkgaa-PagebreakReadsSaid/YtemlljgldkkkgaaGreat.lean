/- The reference's Great. -/
import Derived.Test.YtemlljgldkkkgaaRep
import Derived.Test.YtemlljgldkkkgaaLib
namespace Go.Proofs.Ytemlljgldkkkgaa
open Go.RowKit
def greatHead (P : PP) (n : Int) : Bool := (decide (n < P.lines.length) && decide (P.lines.length ≤ 4096)) || decide (4098 < P.lines.length) || decide (P.lines.length + 2 < P.notes.length) || decide (P.lines.length + 2 < P.pens.length)
def great (P : PP) (n : Int) : Bool := greatHead P n || P.notes.any (fun l => decide (18 < l.length))
set_option maxRecDepth 100000 in
set_option maxHeartbeats 1600000 in
theorem great_any (AL AN AP : Option Addr) (cL cN cP : Nat) (P : PP) (n : Int) (w : World) (S : Sz P) (hR : PPR w w.heap.size AL AN AP P) :
    Calls Try.prog 15 #[.agg #[.slice AL P.lines.length cL, .slice AN P.notes.length cN, .slice AP P.pens.length cP, .int .i64 P.height, .int .i64 P.gap], .int .i64 n] w fun e w' => e = .returned (.bool (great P n)) ∧ Below w.heap.size w w' := by
  have HR := hR.alloc (.cells #[.slice AL P.lines.length cL, .slice AN P.notes.length cN, .slice AP P.pens.length cP, .int .i64 P.height, .int .i64 P.gap] 25)
  have B0 : Below w.heap.size w (w.alloc (.cells #[.slice AL P.lines.length cL, .slice AN P.notes.length cN, .slice AP P.pens.length cP, .int .i64 P.height, .int .i64 P.gap] 25)) := (Below.refl _ _).alloc (Nat.le_refl _) _
  have z1 := S.l
  have z2 := S.n
  have z3 := S.p
  by_cases a1 : n < P.lines.length
  · by_cases a2 : P.lines.length ≤ 4096
    · go_enter Try.func15, Try.ntmps15
      go_wp2
      go_ret
      exact ⟨ret_bool (by simp [great, greatHead, a1, a2]), B0⟩
    by_cases a3 : 4098 < P.lines.length
    · go_enter Try.func15, Try.ntmps15
      go_wp2
      go_ret
      exact ⟨ret_bool (by simp [great, greatHead, a3]), B0⟩
    by_cases a4 : P.lines.length + 2 < P.notes.length
    · go_enter Try.func15, Try.ntmps15
      go_wp2
      go_ret
      exact ⟨ret_bool (by simp [great, greatHead, a4]), B0⟩
    by_cases a5 : P.lines.length + 2 < P.pens.length
    · go_enter Try.func15, Try.ntmps15
      go_wp2
      go_ret
      exact ⟨ret_bool (by simp [great, greatHead, a5]), B0⟩
    have HG := Lib.hid (show great P n = P.notes.any (fun l => decide (18 < l.length)) by simp [great, greatHead]; omega)
    go_enter Try.func15, Try.ntmps15
    go_wp2_with fail
    go_loop [5] (fun i => ∃ k : Nat, i = .int .i64 k ∧ Missed (fun l : List Int => decide (18 < l.length)) P.notes k) (fun i => P.notes.length - (intOf i).toNat)
    case atStart => exact ⟨0, rfl, Missed.zero⟩
    case round =>
      obtain ⟨k, rfl, hm⟩ := hrel
      have hk := hm.1
      by_cases hlt : k < P.notes.length
      · obtain ⟨b, o, Ai, ci, hA, hbl, hc0, hri⟩ := HR.n k hlt
        subst hA
        clear hri
        by_cases hp : 18 < P.notes[k].length
        · have HA := Lib.hid (any_hit (p := fun l : List Int => decide (18 < l.length)) hlt (by simp [hp]))
          go_wp2
          go_ret
          exact ⟨ret_bool (by rw [HG.out, HA.out]), B0⟩
        · have HS := Lib.hid (hm.step hlt (by simp; omega))
          go_wp2
          go_round
          case rel => exact ⟨k + 1, by go_num, HS.out⟩
          case measure => simp [intOf]; omega
      · have HA := Lib.hid (hm.any_false (by omega))
        go_wp2
        go_ret
        exact ⟨ret_bool (by rw [HG.out, HA.out]), B0⟩
  · by_cases a3 : 4098 < P.lines.length
    · go_enter Try.func15, Try.ntmps15
      go_wp2
      go_ret
      exact ⟨ret_bool (by simp [great, greatHead, a3]), B0⟩
    by_cases a4 : P.lines.length + 2 < P.notes.length
    · go_enter Try.func15, Try.ntmps15
      go_wp2
      go_ret
      exact ⟨ret_bool (by simp [great, greatHead, a4]), B0⟩
    by_cases a5 : P.lines.length + 2 < P.pens.length
    · go_enter Try.func15, Try.ntmps15
      go_wp2
      go_ret
      exact ⟨ret_bool (by simp [great, greatHead, a5]), B0⟩
    have HG := Lib.hid (show great P n = P.notes.any (fun l => decide (18 < l.length)) by simp [great, greatHead]; omega)
    go_enter Try.func15, Try.ntmps15
    go_wp2_with fail
    go_loop [5] (fun i => ∃ k : Nat, i = .int .i64 k ∧ Missed (fun l : List Int => decide (18 < l.length)) P.notes k) (fun i => P.notes.length - (intOf i).toNat)
    case atStart => exact ⟨0, rfl, Missed.zero⟩
    case round =>
      obtain ⟨k, rfl, hm⟩ := hrel
      have hk := hm.1
      by_cases hlt : k < P.notes.length
      · obtain ⟨b, o, Ai, ci, hA, hbl, hc0, hri⟩ := HR.n k hlt
        subst hA
        clear hri
        by_cases hp : 18 < P.notes[k].length
        · have HA := Lib.hid (any_hit (p := fun l : List Int => decide (18 < l.length)) hlt (by simp [hp]))
          go_wp2
          go_ret
          exact ⟨ret_bool (by rw [HG.out, HA.out]), B0⟩
        · have HS := Lib.hid (hm.step hlt (by simp; omega))
          go_wp2
          go_round
          case rel => exact ⟨k + 1, by go_num, HS.out⟩
          case measure => simp [intOf]; omega
      · have HA := Lib.hid (hm.any_false (by omega))
        go_wp2
        go_ret
        exact ⟨ret_bool (by rw [HG.out, HA.out]), B0⟩
end Go.Proofs.Ytemlljgldkkkgaa
