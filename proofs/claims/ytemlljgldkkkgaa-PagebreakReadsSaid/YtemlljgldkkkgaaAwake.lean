/- the law's example and its anchor -/
import Derived.Test.YtemlljgldkkkgaaVer
import Derived.Test.YtemlljgldkkkgaaGreat
namespace Go.Proofs.Ytemlljgldkkkgaa
open Go.RowKit Go.Shelf
def exP (h p : Int) : PP := { lines := [10, 10, 10, 10], notes := [[], [], [], []], pens := [0, 0, p, 0], height := h, gap := 0 }
theorem ints_alloc (w : World) (xs : List Int) : IntsR (w.alloc (.cells (xs.map fun x => Value.int .i64 x).toArray 3)) (w.heap.size + 1) (some ⟨w.heap.size, 0, none⟩) xs :=
  IntsR.of fun k hk => ⟨w.heap.size, 0, rfl, Nat.lt_succ_self _, by
    rw [World.cell?_alloc_at _ _ _ _ rfl]
    simp [hk]⟩
theorem ints_allocS (w : World) (xs : List Int) : IntsR (w.alloc (.cells (xs.map fun x => Value.int .i64 x).toArray 3)) (w.alloc (.cells (xs.map fun x => Value.int .i64 x).toArray 3)).heap.size (some ⟨w.heap.size, 0, none⟩) xs := by
  rw [World.size_alloc]; exact ints_alloc w xs
theorem nils_alloc (w : World) (n : Nat) : RowsR (w.alloc (.cells (List.replicate n (Value.slice none 0 0)).toArray 22)) (w.heap.size + 1) (some ⟨w.heap.size, 0, none⟩) (List.replicate n []) := fun k hk => by
  refine ⟨w.heap.size, 0, none, 0, rfl, Nat.lt_succ_self _, ?_, ?_⟩
  · rw [World.cell?_alloc_at _ _ _ _ rfl]
    have : k < n := by simpa using hk
    simp [this]
  · rw [List.getElem_replicate]; exact IntsR.nil
set_option maxRecDepth 100000 in
set_option maxHeartbeats 1600000 in
theorem example_any (h p : Int) (w : World) :
    Calls Try.prog 58 #[.int .i64 h, .int .i64 p] w fun e w' => ∃ (AL AN AP : Option Addr), e = .returned (.agg #[.slice AL 4 4, .slice AN 4 4, .slice AP 4 4, .int .i64 h, .int .i64 0]) ∧ PPR w' w'.heap.size AL AN AP (exP h p) ∧ Below w.heap.size w w' := by
  go_enter Try.func58, Try.ntmps58
  go_wp2
  refine bodyPost_ret (v := .agg #[.slice (some ⟨w.heap.size + 1, 0, none⟩) 4 4, .slice (some ⟨w.heap.size + 1 + 1, 0, none⟩) 4 4, .slice (some ⟨w.heap.size + 1 + 1 + 1, 0, none⟩) 4 4, .int .i64 h, .int .i64 0]) (by simp [results, Try.f58, go_sem]) rfl ⟨_, _, _, rfl, ?_, ?_⟩
  · obtain ⟨w1, hw1⟩ : ∃ w1, w.alloc (.cells #[.slice (some ⟨w.heap.size + 1, 0, none⟩) 4 4, .slice (some ⟨w.heap.size + 1 + 1, 0, none⟩) 4 4, .slice (some ⟨w.heap.size + 1 + 1 + 1, 0, none⟩) 4 4, .int .i64 h, .int .i64 0] 25) = w1 := ⟨_, rfl⟩
    have hs : w.heap.size + 1 = w1.heap.size := by rw [← hw1]; simp
    rw [hw1, hs]
    have h1 := ints_alloc w1 [10, 10, 10, 10]
    have h2 := nils_alloc (w1.alloc (.cells ([10, 10, 10, 10].map fun x => Value.int .i64 x).toArray 3)) 4
    have h3 := ints_alloc ((w1.alloc (.cells ([10, 10, 10, 10].map fun x => Value.int .i64 x).toArray 3)).alloc (.cells (List.replicate 4 (Value.slice none 0 0)).toArray 22)) [0, 0, p, 0]
    simp only [World.size_alloc] at h2 h3
    refine ⟨?_, ?_, ?_⟩
    · exact (h1.to (((Below.refl _ _).alloc (by simp) _)) (Nat.le_refl _)).to ((Below.refl _ _).alloc (by simp) _) (by simp)
    · exact h2.to ((Below.refl _ _).alloc (by simp) _) (by simp)
    · simp only [World.size_alloc]; exact h3
  · exact (((Below.refl _ w).alloc (Nat.le_refl _) _).alloc (by simp) _ |>.alloc (by simp; omega) _).alloc (by simp; omega) _
theorem ex1 : breakL (exP 20 0) = [2, 4] ∧ breakC (exP 20 0) = 0 ∧ breakE (exP 20 0) = 0 := ⟨by kernel_rfl, by kernel_rfl, by kernel_rfl⟩
theorem ex2 : breakL (exP 30 0) = [3, 4] ∧ breakC (exP 30 0) = 0 ∧ breakE (exP 30 0) = 0 := by decide
theorem ex3 : breakL (exP 30 5) = [2, 4] ∧ breakC (exP 30 5) = 3 ∧ breakE (exP 30 5) = 0 := by decide
theorem exSz (h p : Int) : Sz (exP h p) := ⟨by show 4 ≤ 140737488355328; decide, by show 4 ≤ 140737488355328; decide, by show 4 ≤ 140737488355328; decide⟩
set_option maxRecDepth 100000 in
set_option maxHeartbeats 1600000 in
theorem awake_any (w : World) : Calls Try.prog 16 #[] w fun e w' => e = .returned (.bool true) ∧ Below w.heap.size w w' := by
  go_enter Try.func16, Try.ntmps16
  go_wp2_with fail
  refine (example_any 20 0 w).mono ?_
  rintro e w1 ⟨AL, AN, AP, rfl, hp, hb1⟩
  go_wp2_with fail
  refine (break_any AL AN AP 4 4 4 (exP 20 0) w1 (exSz _ _) hp).mono ?_
  rintro e w2 ⟨A1, c1, rfl, hI1, hb2⟩
  rw [ex1.1, ex1.2.1, ex1.2.2]
  rw [ex1.1] at hI1
  go_wp2_with fail
  refine (example_any 30 0 w2).mono ?_
  rintro e w3 ⟨BL, BN, BP, rfl, hp3, hb3⟩
  go_wp2_with fail
  refine (break_any BL BN BP 4 4 4 (exP 30 0) w3 (exSz _ _) hp3).mono ?_
  rintro e w4 ⟨A2, c2, rfl, hI2, hb4⟩
  rw [ex2.1, ex2.2.1, ex2.2.2]
  rw [ex2.1] at hI2
  go_wp2_with fail
  refine (example_any 30 5 w4).mono ?_
  rintro e w5 ⟨DL, DN, DP, rfl, hp5, hb5⟩
  go_wp2_with fail
  refine (break_any DL DN DP 4 4 4 (exP 30 5) w5 (exSz _ _) hp5).mono ?_
  rintro e w6 ⟨A3, c3, rfl, hI3, hb6⟩
  rw [ex3.1, ex3.2.1, ex3.2.2]
  rw [ex3.1] at hI3
  have B26 := bthen (bthen (bthen hb3 hb4) hb5) hb6
  have B46 := bthen hb5 hb6
  have hJ1 := hI1.to B26 B26.size
  have hJ2 := hI2.to B46 B46.size
  have B6 := bthen (bthen hb1 hb2) B26
  clear hI1 hI2 B26 B46 hb1 hb2 hb3 hb4 hb5 hb6 hp hp3 hp5
  go_wp2_with fail
  have C1 := (Below.refl _ w6).alloc (Nat.le_refl _) (.cells #[.int .i64 2, .int .i64 4] 3)
  refine (equal_any A1 (some ⟨w6.heap.size, 0, none⟩) c1 2 [2, 4] [2, 4] _ (by decide) (by decide) (hJ1.to C1 C1.size) (ints_allocS w6 [2, 4])).mono ?_
  rintro e w7 ⟨rfl, hb7⟩
  have B7 := bthen C1 hb7
  clear C1 hb7
  go_wp2_with fail
  have C2 := (Below.refl _ w7).alloc (Nat.le_refl _) (.cells #[.int .i64 3, .int .i64 4] 3)
  refine (equal_any A2 (some ⟨w7.heap.size, 0, none⟩) c2 2 [3, 4] [3, 4] _ (by decide) (by decide) ((hJ2.to B7 B7.size).to C2 C2.size) (ints_allocS w7 [3, 4])).mono ?_
  rintro e w8 ⟨rfl, hb8⟩
  have B8 := bthen B7 (bthen C2 hb8)
  clear C2 hb8 B7
  go_wp2_with fail
  have C3 := (Below.refl _ w8).alloc (Nat.le_refl _) (.cells #[.int .i64 2, .int .i64 4] 3)
  refine (equal_any A3 (some ⟨w8.heap.size, 0, none⟩) c3 2 [2, 4] [2, 4] _ (by decide) (by decide) ((hI3.to B8 B8.size).to C3 C3.size) (ints_allocS w8 [2, 4])).mono ?_
  rintro e w9 ⟨rfl, hb9⟩
  have B9 := bthen B8 (bthen C3 hb9)
  go_wp2
  go_ret
  exact ⟨rfl, bthen B6 B9⟩
end Go.Proofs.Ytemlljgldkkkgaa
