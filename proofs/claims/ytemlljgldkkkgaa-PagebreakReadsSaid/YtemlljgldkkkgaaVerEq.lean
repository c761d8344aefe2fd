/- plain law: the program's Verify answers as the reference's -/
import Derived.Test.YtemlljgldkkkgaaAwake
namespace Go.Proofs.Ytemlljgldkkkgaa
theorem pageE_sub {P : PP} (F : Fine P) {a j x : Nat} (h1 : a ≤ j) (h2 : j ≤ x) (h : P.pageE a x = 0) : P.pageE j x = 0 := by
  have hm := F.hgt_mono h1 h2 (Nat.le_refl x)
  unfold PP.pageE at h ⊢
  by_cases c1 : P.height < P.hgt a x
  · rw [if_pos c1] at h; cases h
  · rw [if_neg c1] at h
    rw [if_neg (by omega)]
    exact h
theorem ends_cover {P : PP} (F : Fine P) : ∀ (xs : List Int) (a : Nat), Asc P.lines.length a xs → sumE P xs a = 0 → ∀ j, a ≤ j → j < P.lines.length → ∃ q, j < q ∧ q ≤ P.lines.length ∧ P.pageE j q = 0
  | [], a, h1, _, j, h3, h4 => by
    have : (a : Int) = P.lines.length := h1
    omega
  | x :: r, a, h1, h2, j, h3, h4 => by
    obtain ⟨hx1, hx2, hx3⟩ := h1
    rw [sumE] at h2
    by_cases c : P.pageE a x.toNat ≠ 0
    · rw [if_pos c] at h2; exact absurd h2 c
    · rw [if_neg c] at h2
      have c := Decidable.not_not.1 c
      obtain ⟨y, rfl⟩ := Int.eq_ofNat_of_zero_le (show 0 ≤ x by omega)
      rw [Int.toNat_natCast] at h2 c
      by_cases hj : j < y
      · exact ⟨y, hj, by omega, pageE_sub F h3 (by omega) c⟩
      · exact ends_cover F r y hx3 h2 j (by omega) h4
theorem cost_cover {P : PP} {ends : List Int} (h : costE P ends = 0) : Fine P ∧ ∀ j, j < P.lines.length → ∃ q, j < q ∧ q ≤ P.lines.length ∧ P.pageE j q = 0 := by
  have hc : chk P = 0 := by
    by_cases hc : chk P = 0
    · exact hc
    · rw [(cost_bad hc ends).2] at h; cases h
  have F := chk_fine hc
  have he : endsE P.lines.length ends 0 = 0 := by
    by_cases he : endsE P.lines.length ends 0 = 0
    · exact he
    · rw [(cost_ends hc rfl he).2] at h; exact absurd h he
  rw [(cost_in hc he).2] at h
  exact ⟨F, fun j hj => ends_cover F ends 0 (endsE_asc _ _ he) h j (Nat.zero_le _) hj⟩
/-- numbers that are accepted are small: by induction from the last line back -/
theorem small {P : PP} (F : Fine P) {L : Nat → Int} (hcov : ∀ j, j < P.lines.length → ∃ q, j < q ∧ q ≤ P.lines.length ∧ P.pageE j q = 0) (hn : L P.lines.length = 0)
    (hok : ∀ i q, i < q → q ≤ P.lines.length → P.pageE i q = 0 → 0 ≤ L q → L q ≤ 81920000 → 0 ≤ L i ∧ L i ≤ P.pageC i q + L q) : ∀ d j, j ≤ P.lines.length → P.lines.length - j ≤ d → 0 ≤ L j ∧ L j ≤ 20000 * ((P.lines.length - j : Nat) : Int)
  | 0, j, h1, h2 => by
    obtain rfl : j = P.lines.length := by omega
    rw [hn]; omega
  | d + 1, j, h1, h2 => by
    by_cases e : j = P.lines.length
    · subst e; rw [hn]; omega
    · obtain ⟨q, hq1, hq2, hq3⟩ := hcov j (by omega)
      obtain ⟨i1, i2⟩ := small F hcov hn hok d q hq2 (by omega)
      have hl := F.ln
      obtain ⟨j1, j2⟩ := hok j q hq1 hq2 hq3 i1 (by omega)
      have := F.pageC_bd j q
      omega
theorem ver_eq {P : PP} {ends l : List Int} : verP P ends l = verR P ends l := by
  by_cases h0 : costE P ends = 0
  rotate_left
  · rw [verP_e h0, verR_e h0]
  obtain ⟨F, hcov⟩ := cost_cover h0
  have hl := F.ln
  have key : CertP P ends l ↔ CertR P ends l := by
    constructor
    · rintro ⟨h1, h2, h3, h4, h5⟩
      have hok : ∀ i q, i < q → q ≤ P.lines.length → P.pageE i q = 0 → 0 ≤ lAt l q → 0 ≤ lAt l i ∧ lAt l i ≤ P.pageC i q + lAt l q := by
        intro i q hq1 hq2 hq3 hq4
        have := h5 i (by omega) q hq1 hq2 hq3
        unfold PgOk at this
        omega
      have hs := fun j hj => small F hcov h2 (fun i q a b c d _ => hok i q a b c d) _ j hj (Nat.le_refl _)
      refine ⟨h1, h2, h3, fun i hi => ⟨by have := (hs i (by omega)).1; omega, fun j hj1 hj2 hj3 hj4 => ?_⟩⟩
      have hj := hs j (by omega)
      have hC := F.pageC_bd i j
      have := hok i j hj1 (by omega) hj3 hj.1
      refine ⟨this.1, ?_⟩
      rw [IntWalk.wrap64_in _ ⟨by omega, by omega⟩]
      exact this.2
    · rintro ⟨h1, h2, h3, h4⟩
      have hok : ∀ i q, i < q → q ≤ P.lines.length → P.pageE i q = 0 → 0 ≤ lAt l q → lAt l q ≤ 81920000 → 0 ≤ lAt l i ∧ lAt l i ≤ P.pageC i q + lAt l q := by
        intro i q hq1 hq2 hq3 hq4 hq5
        have := (h4 i (by omega)).2 q hq1 (by omega) hq3 (by omega)
        have hC := F.pageC_bd i q
        rw [IntWalk.wrap64_in _ ⟨by omega, by omega⟩] at this
        exact this
      have hs := fun j hj => small F hcov h2 hok _ j hj (Nat.le_refl _)
      refine ⟨h1, h2, h3, fun x hx => ?_, fun i hi q hq1 hq2 hq3 => ?_⟩
      · obtain ⟨j, hj, rfl⟩ := List.getElem_of_mem hx
        have := (hs j (by omega)).1
        unfold lAt at this
        rw [getD_lt' hj] at this
        omega
      · have hq := hs q hq2
        have := hok i q hq1 hq2 hq3 hq.1 (by omega)
        unfold PgOk
        omega
  by_cases hc : CertP P ends l
  · rw [verP_0 h0 hc, verR_0 h0 (key.1 hc)]
  · rw [verP_18 h0 hc, verR_18 h0 (fun h => hc (key.2 h))]
end Go.Proofs.Ytemlljgldkkkgaa
