/- The row of PagebreakReads, given its walk. No condition. -/
import Derived.Test.YtemlljgldkkkgaaRow3
namespace Go.Proofs.Ytemlljgldkkkgaa
open Go.Joins Go.ChangeShapes Go.WideShapes Go.ChangeAt Go.RowKit Go.Deep
section
variable {H : Type} {enc : TypeId × Value → H} {P : Program} {w : World} {base : Nat} {spare : Nat → Bool} {held : Bool}
theorem trodAll_seven {t0 t1 t2 t3 t4 t5 t6 : TypeId} {args : Array Value} {ds : List (DataW H)} {ps : List MemPlace} (h : DataW.TrodAll enc P w base spare held [t0, t1, t2, t3, t4, t5, t6] args.toList ds ps) :
    ∃ v0 v1 v2 v3 v4 v5 v6 d0 d1 d2 d3 d4 d5 d6 p0 p1 p2 p3 p4 p5 p6, args = #[v0, v1, v2, v3, v4, v5, v6] ∧ ds = [d0, d1, d2, d3, d4, d5, d6] ∧ ps = p0 ++ (p1 ++ (p2 ++ (p3 ++ (p4 ++ (p5 ++ p6))))) ∧
      DataW.Trod enc P w base spare held t0 v0 d0 p0 ∧ DataW.Trod enc P w base spare held t1 v1 d1 p1 ∧ DataW.Trod enc P w base spare held t2 v2 d2 p2 ∧ DataW.Trod enc P w base spare held t3 v3 d3 p3 ∧ DataW.Trod enc P w base spare held t4 v4 d4 p4 ∧ DataW.Trod enc P w base spare held t5 v5 d5 p5 ∧ DataW.Trod enc P w base spare held t6 v6 d6 p6 := by
  obtain ⟨v0, x0, d0, y0, p0, q0, hargs, rfl, rfl, h0, g0⟩ := trodAll_cons h
  obtain ⟨v1, x1, d1, y1, p1, q1, rfl, rfl, rfl, h1, g1⟩ := trodAll_cons g0
  obtain ⟨v2, x2, d2, y2, p2, q2, rfl, rfl, rfl, h2, g2⟩ := trodAll_cons g1
  obtain ⟨v3, x3, d3, y3, p3, q3, rfl, rfl, rfl, h3, g3⟩ := trodAll_cons g2
  obtain ⟨v4, x4, d4, y4, p4, q4, rfl, rfl, rfl, h4, g4⟩ := trodAll_cons g3
  obtain ⟨v5, x5, d5, y5, p5, q5, rfl, rfl, rfl, h5, g5⟩ := trodAll_cons g4
  obtain ⟨v6, x6, d6, y6, p6, q6, rfl, rfl, rfl, h6, g6⟩ := trodAll_cons g5
  obtain ⟨rfl, rfl, rfl⟩ := trodAll_nil g6
  exact ⟨v0, v1, v2, v3, v4, v5, v6, d0, d1, d2, d3, d4, d5, d6, p0, p1, p2, p3, p4, p5, p6, by cases args; simp_all, rfl, by simp, h0, h1, h2, h3, h4, h5, h6⟩
theorem trodAll_mk7 {t0 t1 t2 t3 t4 t5 t6 : TypeId} {v0 v1 v2 v3 v4 v5 v6 : Value} {d0 d1 d2 d3 d4 d5 d6 : DataW H} {p0 p1 p2 p3 p4 p5 p6 : List MemPlace}
    (h0 : DataW.Trod enc P w base spare held t0 v0 d0 p0) (h1 : DataW.Trod enc P w base spare held t1 v1 d1 p1) (h2 : DataW.Trod enc P w base spare held t2 v2 d2 p2) (h3 : DataW.Trod enc P w base spare held t3 v3 d3 p3) (h4 : DataW.Trod enc P w base spare held t4 v4 d4 p4) (h5 : DataW.Trod enc P w base spare held t5 v5 d5 p5) (h6 : DataW.Trod enc P w base spare held t6 v6 d6 p6) :
    DataW.TrodAll enc P w base spare held [t0, t1, t2, t3, t4, t5, t6] [v0, v1, v2, v3, v4, v5, v6] [d0, d1, d2, d3, d4, d5, d6] (p0 ++ (p1 ++ (p2 ++ (p3 ++ (p4 ++ (p5 ++ p6)))))) :=
  ⟨p0, _, h0, ⟨p1, _, h1, ⟨p2, _, h2, ⟨p3, _, h3, trodAll_mk3 h4 h5 h6, rfl⟩, rfl⟩, rfl⟩, rfl⟩
end
set_option maxHeartbeats 3200000 in
set_option maxRecDepth 100000 in
theorem PagebreakReads_lifted (hwalk : ∀ (AL AN AP : Option Addr) (cL cN cP : Nat) (P : PP) (x y : Int) (AE : Option Addr) (cE : Nat) (ends : List Int) (n wi o : Int) (w : World), Sz P → PPR w w.heap.size AL AN AP P → IntsR w w.heap.size AE ends →
    Calls Try.prog 6 #[.agg #[.slice AL P.lines.length cL, .slice AN P.notes.length cN, .slice AP P.pens.length cP, .int .i64 P.height, .int .i64 P.gap], .int .i64 x, .int .i64 y, .slice AE ends.length cE, .int .i64 n, .int .i64 wi, .int .i64 o] w fun e w' => e = .returned (.bool true) ∧ Below w.heap.size w w') (os : Os) (started : os.Started) (H : Type) (enc : TypeId × Value → H) :
    ReturnsInHanded {} Try.checked os 6 .any (Rows.pagebreakReadsSpec.pre6 enc Try.prog Try.f6 Rows.pagebreakReadsRow.domain false) (Rows.pagebreakReadsSpec.post enc Try.prog Try.f6 false true false false) := by
  refine returnsInHanded_of_change_sized (C := Try.checked) Try.own started (by kernel_rfl) Try.func6
    (ChangeSpec.witness6 (enc := enc) (C := Try.checked) false ⟨#[], #[.agg #[.slice none 0 0, .slice none 0 0, .slice none 0 0, .int .i64 0, .int .i64 0], .int .i64 0, .int .i64 0, .slice none 0 0, .int .i64 0, .int .i64 0, .int .i64 0], []⟩ 8 (by kernel_rfl) (by kernel_rfl) (by kernel_rfl) (by kernel_rfl)) ?_
  intro W base args ds gs before hval0 hW _ hsz0 _
  have hsz : (DataW.weightsEach Try.prog (Try.f6.params.toList ++ Rows.pagebreakReadsSpec.plain.varTypes Try.prog) (ds ++ gs)).all (· ≤ reachBytes) = true := hsz0
  have hval : ∀ (j : Nat) t v, Try.f6.params[j]? = some t → args[j]? = some v → Value.okWide Try.prog W .any base t v := hval0
  have hW' := hW
  obtain ⟨p, q, hA0, hV, rfl, _, _⟩ := hW
  have hA : DataW.TrodAll enc Try.prog W 0 (fun _ => true) true Try.f6.params.toList args.toList ds p := hA0
  rw [Try.params6] at hA hval hsz
  obtain ⟨v0, v1, v2, v3, v4, v5, v6, d0, d1, d2, d3, d4, d5, d6, p0, p1, p2, p3, p4, p5, p6, rfl, rfl, rfl, h0, h1, h2, h3, h4, h5, h6⟩ := trodAll_seven hA
  obtain ⟨rfl, rfl⟩ := trodVars_none hV
  have hw : ∀ (j : Nat) (t : TypeId) (d : DataW H), ([25, 3, 3, 22, 3, 3, 3] : List TypeId)[j]? = some t → [d0, d1, d2, d3, d4, d5, d6][j]? = some d → ∀ m ∈ d.weights Try.prog t, m ≤ 140737488351232 := fun j t d hj hd m hm => by
    have := List.all_eq_true.1 hsz m (DataW.weights_mem_each (ts := [25, 3, 3, 22, 3, 3, 3] ++ []) (ds := [d0, d1, d2, d3, d4, d5, d6] ++ []) (j := j) (t := t) (d := d) (by simpa using hj) (by simpa using hd) m hm)
    have e : reachBytes = 140737488351232 := rfl
    rw [e] at this
    simpa using this
  clear hA0 hval0 hsz0
  obtain ⟨AL, AN, AP, cL, cN, cP, P, rfl, hR, S⟩ := pp_open (hval 0 25 v0 rfl rfl) h0 (hw 0 25 d0 rfl rfl)
  obtain ⟨x, rfl, rfl, rfl, w1⟩ := open_int Try.underlying3 (hval 1 3 v1 rfl rfl) h1
  obtain ⟨y, rfl, rfl, rfl, w2⟩ := open_int Try.underlying3 (hval 2 3 v2 rfl rfl) h2
  obtain ⟨a1, l1, c1, rfl⟩ := okWide_slice Try.underlying22 (hval 3 22 v3 rfl rfl)
  have h3k := h3
  obtain ⟨f1, g1⟩ := h3
  obtain ⟨AE, cE, ends, e1, hE, _, _⟩ := ints_open (by simpa [Value.cells] using g1) (hw 3 22 d3 rfl rfl)
  obtain ⟨rfl, rfl, rfl⟩ : a1 = AE ∧ l1 = ends.length ∧ c1 = cE := by simpa using e1
  obtain ⟨n, rfl, rfl, rfl, w4⟩ := open_int Try.underlying3 (hval 4 3 v4 rfl rfl) h4
  obtain ⟨wi, rfl, rfl, rfl, w5⟩ := open_int Try.underlying3 (hval 5 3 v5 rfl rfl) h5
  obtain ⟨o, rfl, rfl, rfl, w6⟩ := open_int Try.underlying3 (hval 6 3 v6 rfl rfl) h6
  simp only [List.append_nil, List.nil_append] at hW'
  have hlt : ∀ x ∈ p0 ++ p3, x.block < W.heap.size := fun x hx => by simpa using hW'.lt x (by simpa using hx)
  refine (hwalk AL AN AP cL cN cP P x y a1 c1 ends n wi o W S hR hE).mono fun e W' ⟨he, hb⟩ => ?_
  subst he
  have again : ∀ (sp : Nat → Bool) (t : TypeId) (v : Value) (d : DataW H) (p : List MemPlace), Try.prog.readableRec t = true → t < Try.prog.types.size → (∀ x ∈ p, x.block < W.heap.size) → (∀ x ∈ p, sp x.block = true) → DataW.Trod enc Try.prog W 0 (fun _ => true) true t v d p → DataW.Trod enc Try.prog W' 0 sp true t v d p := fun sp t v d p r1 r2 r3 r4 h =>
    WideElems.Trod_stays Try.laidOut r1 r2 h (fun x hx => hb.same (r3 x hx)) r4
  have r25 : Try.prog.readableRec 25 = true := by kernel_rfl
  have r22 : Try.prog.readableRec 22 = true := by kernel_rfl
  have t22 : 22 < Try.prog.types.size := of_decide_eq_true (by kernel_rfl)
  have t25 : 25 < Try.prog.types.size := of_decide_eq_true (by kernel_rfl)
  exact ⟨_, rfl, post_of_below hW' (fun _ _ _ => trodAll_mk1 (shut_bool Try.underlying4 _))
    (fun sp hsp => trodAll_mk7 (again sp _ _ _ _ r25 t25 (fun x hx => hlt x (by simp [hx])) (fun x hx => hsp x (by simp [hx])) h0) (shut_int Try.underlying3 w1) (shut_int Try.underlying3 w2) (again sp _ _ _ _ r22 t22 (fun x hx => hlt x (by simp [hx])) (fun x hx => hsp x (by simp [hx])) h3k) (shut_int Try.underlying3 w4) (shut_int Try.underlying3 w5) (shut_int Try.underlying3 w6))
    (fun _ _ => rfl) (by simp) hb (ok_one (by kernel_rfl) rfl (okWide_bool_mk Try.underlying4 _))⟩
theorem PagebreakReads_row (hwalk : ∀ (AL AN AP : Option Addr) (cL cN cP : Nat) (P : PP) (x y : Int) (AE : Option Addr) (cE : Nat) (ends : List Int) (n wi o : Int) (w : World), Sz P → PPR w w.heap.size AL AN AP P → IntsR w w.heap.size AE ends →
    Calls Try.prog 6 #[.agg #[.slice AL P.lines.length cL, .slice AN P.notes.length cN, .slice AP P.pens.length cP, .int .i64 P.height, .int .i64 P.gap], .int .i64 x, .int .i64 y, .slice AE ends.length cE, .int .i64 n, .int .i64 wi, .int .i64 o] w fun e w' => e = .returned (.bool true) ∧ Below w.heap.size w w') : Rows.PagebreakReadsSaid :=
  OpenClaim.holds_of_wide 6 Try.f6 rfl rfl rfl rfl rfl rfl rfl ⟨rfl, rfl, rfl, rfl, rfl⟩ rfl rfl rfl rfl rfl (by kernel_rfl) Try.func6 (by kernel_rfl)
    (of_decide_eq_true (by kernel_rfl)) (by unfold Func.isWrapper; first | (rw [if_pos (by decide +kernel)]; kernel_rfl) | (rw [if_neg (by decide +kernel)]; exact ⟨rfl, rfl⟩))
    (fun os started H enc _ => PagebreakReads_lifted hwalk os started H enc)
end Go.Proofs.Ytemlljgldkkkgaa
