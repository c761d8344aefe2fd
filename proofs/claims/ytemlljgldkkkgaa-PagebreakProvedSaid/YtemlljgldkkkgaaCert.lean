/- Plain law: the potentials are a proof, a greater number is none. No program. -/
import Derived.Test.YtemlljgldkkkgaaLaw4
namespace Go.Proofs.Ytemlljgldkkkgaa
theorem lAt_potL {P : PP} {j : Nat} (h : j ≤ P.lines.length) : lAt (potL P) j = pot P j := by
  have hl := potL_len P
  unfold lAt
  rw [getD_lt' (by omega), potL_at]
theorem potL_mem {P : PP} (F : Fine P) : ∀ x ∈ potL P, -1 ≤ x ∧ x ≤ 81920000 := by
  intro x hx
  unfold potL at hx
  obtain ⟨j, _, rfl⟩ := List.mem_map.1 hx
  exact pot_bd F j
/-- numbers that are the potentials but at the first place count as a proof of whatever costs as much -/
theorem potL_cert {P : PP} (F : Fine P) {ends : List Int} (h0 : costE P ends = 0) : verP P ends (potL P) = 0 ↔ costC P ends = pot P 0 := by
  have hc : CertP P ends (potL P) ↔ costC P ends = pot P 0 := by
    unfold CertP
    rw [potL_len, lAt_potL (Nat.le_refl _), lAt_potL (Nat.zero_le _), pot_last]
    constructor
    · rintro ⟨_, _, h, _⟩
      exact h.symm
    · intro h
      refine ⟨rfl, rfl, h.symm, fun x hx => (potL_mem F x hx).1, fun i hi q h1 h2 h3 => ?_⟩
      unfold PgOk
      rw [lAt_potL h2, lAt_potL (by omega)]
      intro hb
      have := pot_le F h1 h2 h3 hb.1
      omega
  by_cases e : CertP P ends (potL P)
  · rw [verP_0 h0 e]; exact ⟨fun _ => hc.1 e, fun _ => rfl⟩
  · rw [verP_18 h0 e]; exact ⟨fun h => absurd h (by decide), fun h => absurd (hc.2 h) e⟩
theorem brk_cost {P : PP} (hc : chk P = 0) (hp : 0 ≤ pot P 0) : costE P (brkL P) = 0 ∧ costC P (brkL P) = pot P 0 := by
  obtain ⟨a1, a2, a3⟩ := brk_ends (P := P) P.lines.length 0 (Nat.zero_le _) (by omega) hp
  have he := endsE_of_asc (brkL P) 0 (Int.le_refl _) a1
  obtain ⟨c1, c2⟩ := cost_in hc he
  rw [c1, c2]
  exact ⟨a2, a3⟩
/-- a greater number at a line that has one is refused -/
theorem wrong_refused {P : PP} (hc : chk P = 0) (hp : 0 ≤ pot P 0) {i : Nat} (hi : i ≤ P.lines.length) (hpi : 0 ≤ pot P i) {d : Int} (hd : 1 ≤ d) {wl : List Int} (hw : ∀ j, j ≤ P.lines.length → lAt wl j = if j = i then pot P i + d else pot P j) : verP P (brkL P) wl = 18 := by
  obtain ⟨c1, c2⟩ := brk_cost hc hp
  refine verP_18 c1 (fun h => ?_)
  obtain ⟨_, h2, _, _, h5⟩ := h
  by_cases e : i = P.lines.length
  · rw [hw _ (Nat.le_refl _), if_pos e.symm] at h2
    omega
  · obtain ⟨q, q1, q2, q3⟩ := pot_hit (show i < P.lines.length by omega) hpi
    obtain ⟨o1, o2, o3⟩ := okJ_iff.1 q3
    refine h5 i (by omega) q q1 q2 o1 ?_
    rw [hw q q2, if_neg (by omega), hw i hi, if_pos rfl]
    omega
end Go.Proofs.Ytemlljgldkkkgaa
