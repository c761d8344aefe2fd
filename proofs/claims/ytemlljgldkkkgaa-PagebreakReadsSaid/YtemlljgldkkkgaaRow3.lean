/- The row of PagebreakBreaks, given its walk. No condition. -/
import Derived.Test.YtemlljgldkkkgaaOpen
namespace Go.Proofs.Ytemlljgldkkkgaa
open Go.Joins Go.ChangeShapes Go.WideShapes Go.ChangeAt Go.RowKit Go.Deep
section
variable {H : Type} {enc : TypeId × Value → H} {P : Program}
theorem post_of_below {f : Func} {s : ChangeSpec} {apart fresh handsOn again : Bool} {W W' : World} {args : Array Value} {v : Value} {ds gs : List (DataW H)} {before pa pv : List MemPlace}
    (hW : DataW.Whole enc P f.params.toList s.vars apart W args.toList ds gs before)
    (hres : ∀ (b : Nat) (sp : Nat → Bool) (hd : Bool), DataW.TrodAll enc P W' b sp hd f.resultTypes.toList (v.resultList f.resultTypes.size) (s.fn H (ds ++ gs)).results [])
    (hargs : ∀ sp : Nat → Bool, (∀ p ∈ before, sp p.block = true) → DataW.TrodAll enc P W' 0 sp true f.params.toList args.toList (s.fn H (ds ++ gs)).args pa)
    (hvars : ∀ sp : Nat → Bool, (∀ p ∈ before, sp p.block = true) → DataW.TrodVars enc P W' sp s.vars (s.fn H (ds ++ gs)).vars pv)
    (hps : before = pa ++ pv) (hb : Below W.heap.size W W')
    (hok : ∀ (j : Nat) (t : TypeId) (r : Value), f.resultTypes[j]? = some t → (v.resultList f.resultTypes.size)[j]? = some r → Value.okWide P W' .any 0 t r) :
    s.post enc P f apart fresh handsOn again W args v W' := by
  have hlt : ∀ p ∈ before, p.block < W.heap.size := fun p hp => hW.lt p hp
  have hold : ∀ p ∈ before, (fun b => decide (b < W.heap.size)) p.block = true := fun p hp => by simpa using hlt p hp
  refine ⟨ds, gs, before, [], pa, pv, hW, hres _ _ _, hargs _ hold, hvars _ hold, World.keptBut_mono (fun p hp => ⟨hp, ?_⟩) (hb.frame (· ∈ before)), fun _ => ?_⟩
  · rw [hps, List.mem_append] at hp
    exact Or.inr hp
  · obtain ⟨_, _, _, _, _, hz, hn⟩ := hW
    refine ⟨hok, _, _, ([] ++ pa) ++ pv, ⟨[] ++ pa, pv, trodAll_append (hargs _ (fun _ _ => rfl)) (hres _ _ _), hvars _ (fun _ _ => rfl), rfl, ?_, ?_⟩, ?_⟩
    · intro b off hp
      have hin : MemPlace.cell b off ∈ before := by rw [hps]; simpa using hp
      rw [hb.frozen (hlt _ hin)]
      exact hz b off hin
    · intro ha
      have := hn ha
      rw [hps] at this
      simpa using this
    · intro p hp _
      rw [hps]
      simpa using hp
end
theorem min64 : IntKind.i64.min = -9223372036854775808 := by decide
theorem wf64 {n : Int} (h : (Lit.int .i64 n).wf = true) : -9223372036854775808 ≤ n ∧ n ≤ 9223372036854775807 := by
  have h2 : IntKind.i64.min ≤ n ∧ n ≤ 9223372036854775807 := by simpa [Lit.wf, IntKind.i64] using h
  rw [min64] at h2
  exact h2
set_option maxHeartbeats 3200000 in
set_option maxRecDepth 100000 in
theorem PagebreakBreaks_lifted (hwalk : ∀ (AL AN AP : Option Addr) (cL cN cP : Nat) (P : PP) (AE : Option Addr) (cE : Nat) (ends : List Int) (AL2 : Option Addr) (cL2 : Nat) (l : List Int) (w : World), Sz P → PPR w w.heap.size AL AN AP P → IntsR w w.heap.size AE ends → IntsR w w.heap.size AL2 l → (∀ x ∈ l, -9223372036854775808 ≤ x ∧ x ≤ 9223372036854775807) →
    Calls Try.prog 3 #[.agg #[.slice AL P.lines.length cL, .slice AN P.notes.length cN, .slice AP P.pens.length cP, .int .i64 P.height, .int .i64 P.gap], .slice AE ends.length cE, .slice AL2 l.length cL2] w fun e w' => e = .returned (.bool true) ∧ Below w.heap.size w w') (os : Os) (started : os.Started) (H : Type) (enc : TypeId × Value → H) :
    ReturnsInHanded {} Try.checked os 3 .any (Rows.pagebreakBreaksSpec.pre6 enc Try.prog Try.f3 Rows.pagebreakBreaksRow.domain false) (Rows.pagebreakBreaksSpec.post enc Try.prog Try.f3 false true false false) := by
  refine returnsInHanded_of_change_sized (C := Try.checked) Try.own started (by kernel_rfl) Try.func3
    (ChangeSpec.witness6 (enc := enc) (C := Try.checked) false ⟨#[], #[.agg #[.slice none 0 0, .slice none 0 0, .slice none 0 0, .int .i64 0, .int .i64 0], .slice none 0 0, .slice none 0 0], []⟩ 8 (by kernel_rfl) (by kernel_rfl) (by kernel_rfl) (by kernel_rfl)) ?_
  intro W base args ds gs before hval0 hW _ hsz0 _
  have hsz : (DataW.weightsEach Try.prog (Try.f3.params.toList ++ Rows.pagebreakBreaksSpec.plain.varTypes Try.prog) (ds ++ gs)).all (· ≤ reachBytes) = true := hsz0
  have hval : ∀ (j : Nat) t v, Try.f3.params[j]? = some t → args[j]? = some v → Value.okWide Try.prog W .any base t v := hval0
  have hW' := hW
  obtain ⟨p, q, hA0, hV, rfl, _, _⟩ := hW
  have hA : DataW.TrodAll enc Try.prog W 0 (fun _ => true) true Try.f3.params.toList args.toList ds p := hA0
  rw [Try.params3] at hA hval hsz
  obtain ⟨v0, v1, v2, d0, d1, d2, p0, p1, p2, rfl, rfl, rfl, h0, h1, h2⟩ := trodAll_three hA
  obtain ⟨rfl, rfl⟩ := trodVars_none hV
  have hw : ∀ (j : Nat) (t : TypeId) (d : DataW H), ([25, 22, 22] : List TypeId)[j]? = some t → [d0, d1, d2][j]? = some d → ∀ m ∈ d.weights Try.prog t, m ≤ 140737488351232 := fun j t d hj hd m hm => by
    have := List.all_eq_true.1 hsz m (DataW.weights_mem_each (ts := [25, 22, 22] ++ []) (ds := [d0, d1, d2] ++ []) (j := j) (t := t) (d := d) (by simpa using hj) (by simpa using hd) m hm)
    have e : reachBytes = 140737488351232 := rfl
    rw [e] at this
    simpa using this
  clear hA0 hval0 hsz0
  simp only [List.append_nil, List.append_assoc] at hW'
  have hlt : ∀ x ∈ p0 ++ (p1 ++ p2), x.block < W.heap.size := fun x hx => by simpa using hW'.lt x hx
  obtain ⟨AL, AN, AP, cL, cN, cP, P, rfl, hR, S⟩ := pp_open (hval 0 25 v0 rfl rfl) h0 (hw 0 25 d0 rfl rfl)
  obtain ⟨a1, l1, c1, rfl⟩ := okWide_slice Try.underlying22 (hval 1 22 v1 rfl rfl)
  obtain ⟨a2, l2, c2, rfl⟩ := okWide_slice Try.underlying22 (hval 2 22 v2 rfl rfl)
  have h1k := h1
  have h2k := h2
  obtain ⟨f1, g1⟩ := h1
  obtain ⟨f2, g2⟩ := h2
  obtain ⟨AE, cE, ends, e1, hE, _, _⟩ := ints_open (by simpa [Value.cells] using g1) (hw 1 22 d1 rfl rfl)
  obtain ⟨AL2, cL2, l, e2, hL, hwf, _⟩ := ints_open (by simpa [Value.cells] using g2) (hw 2 22 d2 rfl rfl)
  obtain ⟨rfl, rfl, rfl⟩ : a1 = AE ∧ l1 = ends.length ∧ c1 = cE := by simpa using e1
  obtain ⟨rfl, rfl, rfl⟩ : a2 = AL2 ∧ l2 = l.length ∧ c2 = cL2 := by simpa using e2
  refine (hwalk AL AN AP cL cN cP P a1 c1 ends a2 c2 l W S hR hE hL (fun x hx => wf64 (hwf x hx))).mono fun e W' ⟨he, hb⟩ => ?_
  subst he
  have again : ∀ (sp : Nat → Bool) (t : TypeId) (v : Value) (d : DataW H) (p : List MemPlace), Try.prog.readableRec t = true → t < Try.prog.types.size → (∀ x ∈ p, x.block < W.heap.size) → (∀ x ∈ p, sp x.block = true) → DataW.Trod enc Try.prog W 0 (fun _ => true) true t v d p → DataW.Trod enc Try.prog W' 0 sp true t v d p := fun sp t v d p r1 r2 r3 r4 h =>
    WideElems.Trod_stays Try.laidOut r1 r2 h (fun x hx => hb.same (r3 x hx)) r4
  have r25 : Try.prog.readableRec 25 = true := by kernel_rfl
  have r22 : Try.prog.readableRec 22 = true := by kernel_rfl
  have t25 : 25 < Try.prog.types.size := of_decide_eq_true (by kernel_rfl)
  have t22 : 22 < Try.prog.types.size := of_decide_eq_true (by kernel_rfl)
  exact ⟨_, rfl, post_of_below hW' (fun _ _ _ => trodAll_mk1 (shut_bool Try.underlying4 _))
    (fun sp hsp => trodAll_mk3 (again sp _ _ _ _ r25 t25 (fun x hx => hlt x (by simp [hx])) (fun x hx => hsp x (by simp [hx])) h0) (again sp _ _ _ _ r22 t22 (fun x hx => hlt x (by simp [hx])) (fun x hx => hsp x (by simp [hx])) h1k) (again sp _ _ _ _ r22 t22 (fun x hx => hlt x (by simp [hx])) (fun x hx => hsp x (by simp [hx])) h2k))
    (fun _ _ => rfl) (by simp) hb (ok_one (by kernel_rfl) rfl (okWide_bool_mk Try.underlying4 _))⟩
theorem PagebreakBreaks_row (hwalk : ∀ (AL AN AP : Option Addr) (cL cN cP : Nat) (P : PP) (AE : Option Addr) (cE : Nat) (ends : List Int) (AL2 : Option Addr) (cL2 : Nat) (l : List Int) (w : World), Sz P → PPR w w.heap.size AL AN AP P → IntsR w w.heap.size AE ends → IntsR w w.heap.size AL2 l → (∀ x ∈ l, -9223372036854775808 ≤ x ∧ x ≤ 9223372036854775807) →
    Calls Try.prog 3 #[.agg #[.slice AL P.lines.length cL, .slice AN P.notes.length cN, .slice AP P.pens.length cP, .int .i64 P.height, .int .i64 P.gap], .slice AE ends.length cE, .slice AL2 l.length cL2] w fun e w' => e = .returned (.bool true) ∧ Below w.heap.size w w') : Rows.PagebreakBreaksSaid :=
  OpenClaim.holds_of_wide 3 Try.f3 rfl rfl rfl rfl rfl rfl rfl ⟨rfl, rfl, rfl, rfl, rfl⟩ rfl rfl rfl rfl rfl (by kernel_rfl) Try.func3 (by kernel_rfl)
    (of_decide_eq_true (by kernel_rfl)) (by unfold Func.isWrapper; first | (rw [if_pos (by decide +kernel)]; kernel_rfl) | (rw [if_neg (by decide +kernel)]; exact ⟨rfl, rfl⟩))
    (fun os started H enc _ => PagebreakBreaks_lifted hwalk os started H enc)
end Go.Proofs.Ytemlljgldkkkgaa
