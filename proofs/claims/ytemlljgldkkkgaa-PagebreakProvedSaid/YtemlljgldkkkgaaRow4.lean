/- The row of PagebreakBest, given its walk. No condition. -/
import Derived.Test.YtemlljgldkkkgaaRow3
namespace Go.Proofs.Ytemlljgldkkkgaa
open Go.Joins Go.ChangeShapes Go.WideShapes Go.ChangeAt Go.RowKit Go.Deep
theorem wf16 {n : Int} (h : (Lit.int .u16 n).wf = true) : 0 ≤ n ∧ n ≤ 65535 := by
  have h2 : IntKind.u16.min ≤ n ∧ n ≤ IntKind.u16.max := by simpa [Lit.wf, IntKind.u16] using h
  have e1 : IntKind.u16.min = 0 := by decide
  have e2 : IntKind.u16.max = 65535 := by decide
  rw [e1, e2] at h2
  exact h2
set_option maxHeartbeats 3200000 in
set_option maxRecDepth 100000 in
theorem PagebreakBest_lifted (hwalk : ∀ (AL AN AP : Option Addr) (cL cN cP : Nat) (P : PP) (b : Int) (w : World), Sz P → PPR w w.heap.size AL AN AP P → 0 ≤ b → b ≤ 65535 →
    Calls Try.prog 4 #[.agg #[.slice AL P.lines.length cL, .slice AN P.notes.length cN, .slice AP P.pens.length cP, .int .i64 P.height, .int .i64 P.gap], .int .u16 b] w fun e w' => e = .returned (.bool true) ∧ Below w.heap.size w w') (os : Os) (started : os.Started) (H : Type) (enc : TypeId × Value → H) :
    ReturnsInHanded {} Try.checked os 4 .any (Rows.pagebreakBestSpec.pre6 enc Try.prog Try.f4 Rows.pagebreakBestRow.domain false) (Rows.pagebreakBestSpec.post enc Try.prog Try.f4 false true false false) := by
  refine returnsInHanded_of_change_sized (C := Try.checked) Try.own started (by kernel_rfl) Try.func4
    (ChangeSpec.witness6 (enc := enc) (C := Try.checked) false ⟨#[], #[.agg #[.slice none 0 0, .slice none 0 0, .slice none 0 0, .int .i64 0, .int .i64 0], .int .u16 0], []⟩ 8 (by kernel_rfl) (by kernel_rfl) (by kernel_rfl) (by kernel_rfl)) ?_
  intro W base args ds gs before hval0 hW _ hsz0 _
  have hsz : (DataW.weightsEach Try.prog (Try.f4.params.toList ++ Rows.pagebreakBestSpec.plain.varTypes Try.prog) (ds ++ gs)).all (· ≤ reachBytes) = true := hsz0
  have hval : ∀ (j : Nat) t v, Try.f4.params[j]? = some t → args[j]? = some v → Value.okWide Try.prog W .any base t v := hval0
  have hW' := hW
  obtain ⟨p, q, hA0, hV, rfl, _, _⟩ := hW
  have hA : DataW.TrodAll enc Try.prog W 0 (fun _ => true) true Try.f4.params.toList args.toList ds p := hA0
  rw [Try.params4] at hA hval hsz
  obtain ⟨v0, v1, d0, d1, p0, p1, rfl, rfl, rfl, h0, h1⟩ := trodAll_two hA
  obtain ⟨rfl, rfl⟩ := trodVars_none hV
  have hw : ∀ (j : Nat) (t : TypeId) (d : DataW H), ([25, 36] : List TypeId)[j]? = some t → [d0, d1][j]? = some d → ∀ m ∈ d.weights Try.prog t, m ≤ 140737488351232 := fun j t d hj hd m hm => by
    have := List.all_eq_true.1 hsz m (DataW.weights_mem_each (ts := [25, 36] ++ []) (ds := [d0, d1] ++ []) (j := j) (t := t) (d := d) (by simpa using hj) (by simpa using hd) m hm)
    have e : reachBytes = 140737488351232 := rfl
    rw [e] at this
    simpa using this
  clear hA0 hval0 hsz0
  obtain ⟨AL, AN, AP, cL, cN, cP, P, rfl, hR, S⟩ := pp_open (hval 0 25 v0 rfl rfl) h0 (hw 0 25 d0 rfl rfl)
  obtain ⟨b, rfl, rfl, rfl, w1⟩ := open_int Try.underlying36 (hval 1 36 v1 rfl rfl) h1
  simp only [List.append_nil] at hW'
  have hlt : ∀ x ∈ p0, x.block < W.heap.size := fun x hx => by simpa using hW'.lt x (by simpa using hx)
  obtain ⟨b1, b2⟩ := wf16 w1
  refine (hwalk AL AN AP cL cN cP P b W S hR b1 b2).mono fun e W' ⟨he, hb⟩ => ?_
  subst he
  have again : ∀ (sp : Nat → Bool) (t : TypeId) (v : Value) (d : DataW H) (p : List MemPlace), Try.prog.readableRec t = true → t < Try.prog.types.size → (∀ x ∈ p, x.block < W.heap.size) → (∀ x ∈ p, sp x.block = true) → DataW.Trod enc Try.prog W 0 (fun _ => true) true t v d p → DataW.Trod enc Try.prog W' 0 sp true t v d p := fun sp t v d p r1 r2 r3 r4 h =>
    WideElems.Trod_stays Try.laidOut r1 r2 h (fun x hx => hb.same (r3 x hx)) r4
  have r25 : Try.prog.readableRec 25 = true := by kernel_rfl
  have t25 : 25 < Try.prog.types.size := of_decide_eq_true (by kernel_rfl)
  exact ⟨_, rfl, post_of_below hW' (fun _ _ _ => trodAll_mk1 (shut_bool Try.underlying4 _))
    (fun sp hsp => trodAll_mk2 (again sp _ _ _ _ r25 t25 (fun x hx => hlt x hx) (fun x hx => hsp x (by simpa using hx)) h0) (shut_int Try.underlying36 w1))
    (fun _ _ => rfl) (by simp) hb (ok_one (by kernel_rfl) rfl (okWide_bool_mk Try.underlying4 _))⟩
theorem PagebreakBest_row (hwalk : ∀ (AL AN AP : Option Addr) (cL cN cP : Nat) (P : PP) (b : Int) (w : World), Sz P → PPR w w.heap.size AL AN AP P → 0 ≤ b → b ≤ 65535 →
    Calls Try.prog 4 #[.agg #[.slice AL P.lines.length cL, .slice AN P.notes.length cN, .slice AP P.pens.length cP, .int .i64 P.height, .int .i64 P.gap], .int .u16 b] w fun e w' => e = .returned (.bool true) ∧ Below w.heap.size w w') : Rows.PagebreakBestSaid :=
  OpenClaim.holds_of_wide 4 Try.f4 rfl rfl rfl rfl rfl rfl rfl ⟨rfl, rfl, rfl, rfl, rfl⟩ rfl rfl rfl rfl rfl (by kernel_rfl) Try.func4 (by kernel_rfl)
    (of_decide_eq_true (by kernel_rfl)) (by unfold Func.isWrapper; first | (rw [if_pos (by decide +kernel)]; kernel_rfl) | (rw [if_neg (by decide +kernel)]; exact ⟨rfl, rfl⟩))
    (fun os started H enc _ => PagebreakBest_lifted hwalk os started H enc)
end Go.Proofs.Ytemlljgldkkkgaa
