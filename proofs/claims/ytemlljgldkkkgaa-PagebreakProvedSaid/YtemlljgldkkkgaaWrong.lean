/- The potentials with one made greater: as a list, and in memory. No condition. -/
import Derived.Test.YtemlljgldkkkgaaCert
namespace Go.Proofs.Ytemlljgldkkkgaa
open Go.RowKit Go.Shelf
/-- the numbers with one made greater -/
def wrongL (P : PP) (i : Nat) (d : Int) : List Int := (potL P).set i (pot P i + d)
theorem wrongL_len (P : PP) (i : Nat) (d : Int) : (wrongL P i d).length = P.lines.length + 1 := by unfold wrongL; rw [List.length_set, potL_len]
theorem wrongL_at {P : PP} {i : Nat} {d : Int} {j : Nat} (h : j ≤ P.lines.length) : lAt (wrongL P i d) j = if j = i then pot P i + d else pot P j := by
  have hl := wrongL_len P i d
  have hl2 := potL_len P
  unfold lAt
  rw [getD_lt' (by omega)]
  unfold wrongL
  rw [List.getElem_set]
  by_cases e : i = j
  · rw [if_pos e, if_pos e.symm]
  · rw [if_neg e, if_neg (fun h => e h.symm), potL_at]
theorem wrongL_mem {P : PP} (F : Fine P) {i : Nat} {d : Int} (h0 : 0 ≤ d) (h1 : d ≤ 100) : ∀ x ∈ wrongL P i d, I64 x := by
  intro x hx
  unfold wrongL at hx
  have hp := pot_bd F i
  rcases List.mem_or_eq_of_mem_set hx with h | h
  · have := potL_mem F x h
    unfold I64; omega
  · subst h; unfold I64; omega
theorem wrongL_ints {w : World} {g : Nat} {P : PP} {i : Nat} {d : Int} {n c : Nat} (hi : i ≤ P.lines.length) (h : w.ownsRow n 3 1 (.slice (some ⟨g, 0, none⟩) (P.lines.length + 1) c) (P.lines.length + 1) ((potL P).map fun x => .int .i64 x)) :
    IntsR (w.setCell ⟨g, i, none⟩ (.int .i64 (pot P i + d))) (w.setCell ⟨g, i, none⟩ (.int .i64 (pot P i + d))).heap.size (some ⟨g, 0, none⟩) (wrongL P i d) := by
  have hl := wrongL_len P i d
  have hl2 := potL_len P
  have hlt := (ownsRow_lt h).2
  have hc : ∀ j, j ≤ P.lines.length → w.cell? ⟨g, j, none⟩ = some (.int .i64 (pot P j)) := fun j hj => by
    have := h.cells (g := g) rfl j (.int .i64 (pot P j)) (by
      rw [List.getElem?_map, List.getElem?_eq_getElem (by omega), potL_at]
      rfl)
    rwa [Addr.add_lit, Nat.zero_add] at this
  refine IntsR.of (fun k hk => ⟨g, 0, rfl, by simpa using hlt, ?_⟩)
  rw [Nat.zero_add]
  have hk' : k ≤ P.lines.length := by omega
  have e := wrongL_at (i := i) (d := d) hk'
  unfold lAt at e
  rw [getD_lt' hk] at e
  rw [e]
  by_cases e2 : k = i
  · subst e2
    rw [if_pos rfl]
    exact World.cell?_setCell_same' _ _ _ (by rw [hc k hk']; rfl)
  · rw [if_neg e2, World.cell?_setCell_other _ _ _ _ (by intro h; injection h with _ h2; exact e2 h2.symm)]
    exact hc k hk'
end Go.Proofs.Ytemlljgldkkkgaa
