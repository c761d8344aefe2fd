/- a row's arguments opened: lists of integers, rows of them, a page problem -/
import Derived.Test.YtemlljgldkkkgaaRep
import Derived.Test.YtemlljgldkkkgaaRows
import Derived.Lib.SmallJoins
import Derived.Deep.Matrix
import Derived.ProofKit
import Derived.SizedLaws
import Derived.OpenShut
namespace Go.Proofs.Ytemlljgldkkkgaa
open Go.Joins Go.ChangeShapes Go.WideShapes Go.ChangeAt Go.RowKit Go.Deep
theorem Try.own : ownKnob Try.prog.godebug = none := by kernel_rfl
theorem Try.laidOut : laidOutB Try.prog = true := by kernel_rfl
theorem Try.cells25 : Try.prog.cellsOf 25 = 5 := by kernel_rfl
theorem Try.cells22 : Try.prog.cellsOf 22 = 1 := by kernel_rfl
theorem Try.cells23 : Try.prog.cellsOf 23 = 1 := by kernel_rfl
theorem Try.cells3 : Try.prog.cellsOf 3 = 1 := by kernel_rfl
theorem Try.bytes3 : Try.prog.bytesOf 3 = 8 := by kernel_rfl
theorem Try.bytes22 : Try.prog.bytesOf 22 = 24 := by kernel_rfl
section
variable {H : Type} {enc : TypeId × Value → H} {P : Program} {w : World} {base : Nat} {spare : Nat → Bool} {held : Bool}
theorem open_agg5 {r : Reach} {b0 : Nat} {t : TypeId} {f0 f1 f2 f3 f4 : Field} {v : Value} {d : DataW H} {p : List MemPlace} (hs : P.underlying t = some (.struct #[f0, f1, f2, f3, f4])) (hone : oneCellFields P #[f0, f1, f2, f3, f4] = true) (hC : P.cellsOf t = 5)
    (hv : Value.okWide P w r b0 t v) (h : DataW.Trod enc P w base spare held t v d p) :
    ∃ (v0 v1 v2 v3 v4 : Value) (y0 y1 y2 y3 y4 : DataW H × List MemPlace) (n : Nat), v = .agg #[v0, v1, v2, v3, v4] ∧ d = .agg [y0.1, y1.1, y2.1, y3.1, y4.1] ∧ p = y0.2 ++ (y1.2 ++ (y2.2 ++ (y3.2 ++ y4.2))) ∧
      DataW.trod enc P w base spare held n f0.type [v0] = some y0 ∧ DataW.trod enc P w base spare held n f1.type [v1] = some y1 ∧ DataW.trod enc P w base spare held n f2.type [v2] = some y2 ∧ DataW.trod enc P w base spare held n f3.type [v3] = some y3 ∧ DataW.trod enc P w base spare held n f4.type [v4] = some y4 := by
  obtain ⟨cs, rfl, hsz⟩ := okWide_struct hs hv
  obtain ⟨l⟩ := cs
  match l, hsz.trans hC with
  | [c0, c1, c2, c3, c4], _ =>
    obtain ⟨fuel, hf⟩ := h
    obtain ⟨xs, n, _, hx, _, hlen, hg⟩ := DataW.trod_struct hs hf
    obtain ⟨o0, k0⟩ := hone_of hone 0 f0 rfl
    obtain ⟨o1, k1⟩ := hone_of hone 1 f1 rfl
    obtain ⟨o2, k2⟩ := hone_of hone 2 f2 rfl
    obtain ⟨o3, k3⟩ := hone_of hone 3 f3 rfl
    obtain ⟨o4, k4⟩ := hone_of hone 4 f4 rfl
    match xs, hlen with
    | [y0, y1, y2, y3, y4], _ =>
      simp only [Prod.mk.injEq] at hx
      exact ⟨c0, c1, c2, c3, c4, y0, y1, y2, y3, y4, n, rfl, by simpa using hx.1, by simpa using hx.2, by simpa [Value.cells, o0, k0] using hg 0 f0 rfl, by simpa [Value.cells, o1, k1] using hg 1 f1 rfl, by simpa [Value.cells, o2, k2] using hg 2 f2 rfl, by simpa [Value.cells, o3, k3] using hg 3 f3 rfl, by simpa [Value.cells, o4, k4] using hg 4 f4 rfl⟩
end
section
variable {H : Type} {enc : TypeId × Value → H} {W : World}
theorem ints_open {fuel : Nat} {v : Value} {x : DataW H × List MemPlace} (h : DataW.trod enc Try.prog W 0 (fun _ => true) true fuel 22 [v] = some x) (hsz : ∀ m ∈ x.1.weights Try.prog 22, m ≤ 140737488351232) :
    ∃ (A : Option Addr) (c : Nat) (xs : List Int), v = .slice A xs.length c ∧ IntsR W W.heap.size A xs ∧ (∀ n ∈ xs, (Lit.int .i64 n).wf = true) ∧ xs.length * 8 ≤ 140737488351232 := by
  rcases open_ints Try.underlying22 Try.underlying3 Try.cells3 h with ⟨hcs, hx⟩ | ⟨a, len, cap, zs, hcs, _, hl, _, hz, hx, hcell, hwz⟩
  · obtain rfl : v = .slice none 0 0 := by simpa using hcs
    exact ⟨none, 0, [], rfl, IntsR.nil, by simp, by simp⟩
  · obtain rfl : v = .slice (some a) len cap := by simpa using hcs
    subst hx
    simp only [if_true] at hz
    have hlen : (zs.take len).length = len := by simp; omega
    refine ⟨some a, cap, zs.take len, by rw [hlen], IntsR.of (fun k hk => ?_), fun n hn => hwz n (List.mem_of_mem_take hn), ?_⟩
    · rw [hlen] at hk
      have hk' : k < zs.length := by omega
      have h1 := hcell 0 (by omega)
      have h2 := hcell k hk'
      obtain ⟨b, o, spot⟩ := a
      have hspot : spot = none := by simpa [Addr.add] using World.cell?_spot h1
      subst hspot
      rw [Addr.add_lit] at h2
      refine ⟨b, o, rfl, World.block_lt_of_cell? W _ h2, ?_⟩
      rw [h2, List.getElem_take]
      simp [List.getD, List.getElem?_eq_getElem hk']
    · have := hsz (((lits (H := H) .i64 (zs.take len)).length + (lits (H := H) .i64 (zs.drop len)).length) * Try.prog.bytesOf 3) (by simp [DataW.weights, Try.underlying22])
      rw [Try.bytes3] at this
      simp only [lits, List.length_map] at this
      omega
theorem rows_open {fuel : Nat} {v : Value} {x : DataW H × List MemPlace} (h : DataW.trod enc Try.prog W 0 (fun _ => true) true fuel 23 [v] = some x) (hsz : ∀ m ∈ x.1.weights Try.prog 23, m ≤ 140737488351232) :
    ∃ (A : Option Addr) (c : Nat) (xss : List (List Int)), v = .slice A xss.length c ∧ RowsR W W.heap.size A xss ∧ xss.length * 24 ≤ 140737488351232 := by
  rcases open_int_rows Try.underlying23 Try.underlying22 Try.underlying3 Try.cells22 Try.cells3 h with ⟨hcs, hx⟩ | ⟨a, len, cap, A, L, C, Z, hcs, _, hl, _, hx, hr⟩
  · obtain rfl : v = .slice none 0 0 := by simpa using hcs
    exact ⟨none, 0, [], rfl, RowsR.nil, by simp⟩
  · obtain rfl : v = .slice (some a) len cap := by simpa using hcs
    subst hx
    have hlen : ((List.range len).map fun r => (Z r).take (L r)).length = len := by simp
    refine ⟨some a, cap, (List.range len).map fun r => (Z r).take (L r), by rw [hlen], fun k hk => ?_, ?_⟩
    · rw [hlen] at hk
      obtain ⟨h1, _⟩ := hr 0 (by omega)
      obtain ⟨h2, h3, _, h4, _, h5, h6⟩ := hr k (by omega)
      obtain ⟨b, o, spot⟩ := a
      have hspot : spot = none := by simpa [Addr.add] using World.cell?_spot h1
      subst hspot
      rw [Addr.add_lit] at h2
      have hlk : ((Z k).take (L k)).length = L k := by simp; omega
      refine ⟨b, o, A k, C k, rfl, World.block_lt_of_cell? W _ h2, ?_, ?_⟩
      · rw [h2]; simp; omega
      · simp only [List.getElem_map, List.getElem_range]
        refine IntsR.of (fun j hj => ?_)
        rw [hlk] at hj
        cases hA : A k with
        | none => have := h5 hA; omega
        | some a' =>
          obtain ⟨_, h7⟩ := h6 a' hA
          have h8 := h7 0 (by omega)
          have h9 := h7 j (by omega)
          obtain ⟨b', o', spot'⟩ := a'
          have hspot' : spot' = none := by simpa [Addr.add] using World.cell?_spot h8
          subst hspot'
          rw [Addr.add_lit] at h9
          refine ⟨b', o', rfl, World.block_lt_of_cell? W _ h9, ?_⟩
          rw [h9, List.getElem_take]
          simp [List.getD, List.getElem?_eq_getElem (show j < (Z k).length by omega)]
    · have := hsz ((((List.range len).map fun r => intRow (H := H) .i64 (A r) (L r) (Z r)).length + ((List.range (cap - len)).map fun j => intRow (H := H) .i64 (A (len + j)) (L (len + j)) (Z (len + j))).length) * Try.prog.bytesOf 22) (by simp [DataW.weights, Try.underlying23])
      rw [Try.bytes22] at this
      simp only [List.length_map, List.length_range] at this
      simp
      omega
set_option maxRecDepth 100000 in
theorem pp_open {r : Reach} {b0 : Nat} {v : Value} {d : DataW H} {p : List MemPlace} (hv : Value.okWide Try.prog W r b0 25 v) (h : DataW.Trod enc Try.prog W 0 (fun _ => true) true 25 v d p) (hsz : ∀ m ∈ d.weights Try.prog 25, m ≤ 140737488351232) :
    ∃ (AL AN AP : Option Addr) (cL cN cP : Nat) (P : PP), v = .agg #[.slice AL P.lines.length cL, .slice AN P.notes.length cN, .slice AP P.pens.length cP, .int .i64 P.height, .int .i64 P.gap] ∧ PPR W W.heap.size AL AN AP P ∧ Sz P := by
  obtain ⟨v0, v1, v2, v3, v4, y0, y1, y2, y3, y4, n, rfl, rfl, rfl, h0, h1, h2, h3, h4⟩ := open_agg5 Try.underlying25 (by kernel_rfl) Try.cells25 hv h
  have hw : ∀ m, m ∈ y0.1.weights Try.prog 22 ∨ m ∈ y1.1.weights Try.prog 23 ∨ m ∈ y2.1.weights Try.prog 22 → m ≤ 140737488351232 := by
    intro m hm
    refine hsz m ?_
    simp only [DataW.weights, Try.underlying25, DataW.weightsEach, List.map_cons, List.map_nil, List.mem_append]
    rcases hm with h | h | h
    · exact .inl h
    · exact .inr (.inl h)
    · exact .inr (.inr (.inl h))
  obtain ⟨AL, cL, xs, rfl, i0, _, s0⟩ := ints_open h0 (fun m hm => hw m (.inl hm))
  obtain ⟨AN, cN, xss, rfl, i1, s1⟩ := rows_open h1 (fun m hm => hw m (.inr (.inl hm)))
  obtain ⟨AP, cP, zs, rfl, i2, _, s2⟩ := ints_open h2 (fun m hm => hw m (.inr (.inr hm)))
  obtain ⟨a3, e3, _, _⟩ := DataW.trod_int Try.underlying3 h3
  obtain ⟨a4, e4, _, _⟩ := DataW.trod_int Try.underlying3 h4
  obtain rfl : v3 = .int .i64 a3 := by simpa using e3
  obtain rfl : v4 = .int .i64 a4 := by simpa using e4
  exact ⟨AL, AN, AP, cL, cN, cP, ⟨xs, xss, zs, a3, a4⟩, rfl, ⟨i0, i1, i2⟩, ⟨by show xs.length ≤ _; omega, by show xss.length ≤ _; omega, by show zs.length ≤ _; omega⟩⟩
end
end Go.Proofs.Ytemlljgldkkkgaa
