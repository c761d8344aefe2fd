/- Verify of the program -/
import Derived.Test.YtemlljgldkkkgaaBreak
import Derived.Test.YtemlljgldkkkgaaRef8
namespace Go.Proofs.Ytemlljgldkkkgaa
open Go.RowKit Go.Shelf
attribute [local go_sem] Oper.semAt_some
/-- the page from i to q bears the numbers L -/
def PgOk (P : PP) (L : Nat → Int) (i q : Nat) : Prop := ¬ (0 ≤ L q ∧ (L i < 0 ∨ L q < L i - P.pageC i q))
def ProgOk (P : PP) (L : Nat → Int) (k : Nat) : Prop := ∀ i, i < k → ∀ q, i < q → q ≤ P.lines.length → P.pageE i q = 0 → PgOk P L i q
def CertP (P : PP) (ends l : List Int) : Prop := l.length = P.lines.length + 1 ∧ lAt l P.lines.length = 0 ∧ lAt l 0 = costC P ends ∧ (∀ x ∈ l, -1 ≤ x) ∧ ProgOk P (lAt l) P.lines.length
open Classical in
noncomputable def verP (P : PP) (ends l : List Int) : Int := if costE P ends ≠ 0 then costE P ends else if CertP P ends l then 0 else 18
theorem verP_e {P : PP} {ends l : List Int} (h : costE P ends ≠ 0) : verP P ends l = costE P ends := by unfold verP; rw [if_pos h]
theorem verP_18 {P : PP} {ends l : List Int} (h : costE P ends = 0) (h2 : ¬ CertP P ends l) : verP P ends l = 18 := by unfold verP; rw [if_neg (by simp [h]), if_neg h2]
theorem verP_0 {P : PP} {ends l : List Int} (h : costE P ends = 0) (h2 : CertP P ends l) : verP P ends l = 0 := by unfold verP; rw [if_neg (by simp [h]), if_pos h2]
theorem ProgOk.step {P : PP} {L : Nat → Int} {k : Nat} (h : ProgOk P L k) (h2 : ∀ q ∈ pgL P k (P.lines.length - k), PgOk P L k q) (hk : k < P.lines.length) : ProgOk P L (k + 1) := fun i hi q h1 h3 h4 => by
  by_cases e : i = k
  · subst e; exact h2 q (pgL_mem.2 ⟨h1, by omega, h4⟩)
  · exact h i (by omega) q h1 h3 h4
structure InvV (W6 : World) (Ds : List Nat) (wr : World) : Prop where
  b : Below W6.heap.size W6 wr
  m : Marks W6.heap.size Ds wr
theorem InvV.below {W6 : World} {Ds : List Nat} {W W' : World} (h : InvV W6 Ds W) (hb : Below W.heap.size W W') : InvV W6 Ds W' := ⟨h.b.trans (hb.mono h.b.size), h.m.below hb⟩
theorem InvV.turn {W6 : World} {Ds : List Nat} {W W' : World} {row : Option Nat} {B : Nat} (h : InvV W6 Ds W) (hg : W.grownBy W' row) (hr : ∀ k, row = some k → B ≤ k) (h1 : W6.heap.size ≤ B) (h2 : ∀ D ∈ Ds, D < B) : InvV W6 Ds W' :=
  ⟨h.b.grown hg h.b.size (fun k e => by have := hr k e; omega), h.m.keep (fun D hD => hg.block D (h.m.lt hD) (fun e => by have := hr D e.symm; have := h2 D hD; omega))⟩
theorem res22 {tmps : Array Value} {w' : World} {t : Nat} {v : Value} (h6 : tmps.getD 6 undef = .pointer (some ⟨t, 0, none⟩)) (hc : w'.cell? ⟨t, 0, none⟩ = some v) : (results Try.f22 tmps).run Try.prog w' = .ok v w' := by
  have h6' : tmps[6]?.getD undef = .pointer (some ⟨t, 0, none⟩) := by simpa using h6
  simp [results, Try.f22, go_sem, hc, h6']
set_option maxRecDepth 100000 in
set_option maxHeartbeats 3200000 in
theorem verify_any (AL AN AP : Option Addr) (cL cN cP : Nat) (P : PP) (AE : Option Addr) (cE : Nat) (ends : List Int) (AL2 : Option Addr) (cL2 : Nat) (l : List Int) (w : World) (S : Sz P) (hR : PPR w w.heap.size AL AN AP P) (hE : IntsR w w.heap.size AE ends) (hn : ends.length ≤ 1000000) (hL : IntsR w w.heap.size AL2 l) (_hn2 : l.length ≤ 1000000) (hl64 : ∀ x ∈ l, I64 x) :
    Calls Try.prog 22 #[.agg #[.slice AL P.lines.length cL, .slice AN P.notes.length cN, .slice AP P.pens.length cP, .int .i64 P.height, .int .i64 P.gap], .slice AE ends.length cE, .slice AL2 l.length cL2] w fun e w' => e = .returned (.int .i64 (verP P ends l)) ∧ Below w.heap.size w w' := by
  have HPP : w.alloc (.cells #[.slice AL P.lines.length cL, .slice AN P.notes.length cN, .slice AP P.pens.length cP, .int .i64 P.height, .int .i64 P.gap] 25) = w.alloc (.cells #[.slice AL P.lines.length cL, .slice AN P.notes.length cN, .slice AP P.pens.length cP, .int .i64 P.height, .int .i64 P.gap] 25) := rfl
  obtain ⟨W3, hW3⟩ : ∃ W3, ((w.alloc (.cells #[.slice AL P.lines.length cL, .slice AN P.notes.length cN, .slice AP P.pens.length cP, .int .i64 P.height, .int .i64 P.gap] 25)).alloc (.cells #[.slice AL2 l.length cL2] 22)).alloc (.cells #[.int .i64 0] 28) = W3 := ⟨_, rfl⟩
  have B3 : Below w.heap.size w W3 := by rw [← hW3]; exact (((Below.refl _ w).alloc (Nat.le_refl _) _).alloc (by simp) _).alloc (by simp; omega) _
  have hz3 : W3.heap.size = w.heap.size + 3 := by rw [← hW3]; simp
  have rP : W3.rowIs w.heap.size 25 5 (pC AL AN AP cL cN cP P) := by
    have := World.rowIs_alloc w #[.slice AL P.lines.length cL, .slice AN P.notes.length cN, .slice AP P.pens.length cP, .int .i64 P.height, .int .i64 P.gap] 25 (pC AL AN AP cL cN cP P) (fun i hi => by
      match i, hi with
      | 0, _ => rfl
      | 1, _ => rfl
      | 2, _ => rfl
      | 3, _ => rfl
      | 4, _ => rfl
      | k + 5, hi => simp at hi; omega)
    rw [← hW3]
    exact (this.alloc _).alloc _
  have rL : W3.cell? ⟨w.heap.size + 1, 0, none⟩ = some (.slice AL2 l.length cL2) := by
    rw [← hW3, World.cell?_alloc_past _ _ _ (by simp), World.cell?_alloc_at _ _ _ _ (by simp)]; rfl
  have r6 : W3.rowIs (w.heap.size + 1 + 1) 28 1 (fun _ => .int .i64 0) := by
    have := World.rowIs_alloc ((w.alloc (.cells #[.slice AL P.lines.length cL, .slice AN P.notes.length cN, .slice AP P.pens.length cP, .int .i64 P.height, .int .i64 P.gap] 25)).alloc (.cells #[.slice AL2 l.length cL2] 22)) #[.int .i64 0] 28 (fun _ => .int .i64 0) (fun i hi => by
      obtain rfl : i = 0 := by simpa using hi
      rfl)
    rw [← hW3]
    simp only [World.size_alloc] at this
    exact this
  have HR := hR.to B3 B3.size
  have HE := hE.to B3 B3.size
  have HL := hL.to B3 B3.size
  have CK := Lib.hid (cost_any AL AN AP cL cN cP P AE cE ends _ S HR HE hn)
  have HW3 := Lib.hid hW3
  clear hW3 HPP hR hE hL
  refine (callsIn_wide (n := 5)).1 ?_
  refine callsIn_of_wp_marks Try.func22 rfl trivial ?_ rfl
  simp only [Try.ntmps22, List.size_toArray, List.length_cons, List.length_nil, Nat.reduceAdd, Nat.reduceSub, Array.replicate_succ, Array.replicate_zero, List.push_toArray, List.append_toArray, List.nil_append, List.cons_append]
  gi_wp2_with fail
  rw [HW3.out]
  clear HW3
  refine ⟨trivial, ?_⟩
  refine (callsIn_wide.2 CK.out).mono ?_
  rintro e w1 ⟨rfl, hb1⟩
  have q6 := rowBelow r6 hb1
  have B1 := bthen B3 hb1
  have c6 := q6.cell (i := 0) (by decide)
  have f6 := q6.frozen 0
  by_cases h0 : costE P ends = 0
  rotate_left
  · have h0' : (costE P ends != 0) = true := by simp [h0]
    have HQ := Lib.hid (verP_e (l := l) h0)
    clear h0 CK
    gi_wp2
    refine ⟨_, res22 (t := w.heap.size + 1 + 1) rfl ((q6.set 0 (.int .i64 (costE P ends))).cell (i := 0) (by decide)), ?_, B1.setCell (p := ⟨w.heap.size + 1 + 1, 0, none⟩) (by show w.heap.size ≤ w.heap.size + 1 + 1; omega) _⟩
    rw [HQ.out]; rfl
  have h0' : (costE P ends != 0) = false := by simp [h0]
  have H0 := Lib.hid h0
  have FF : chk P = 0 := by
    by_cases hc : chk P = 0
    · exact hc
    · rw [(cost_bad hc ends).2] at h0; cases h0
  have F := chk_fine FF
  have hln := F.ln
  have p0 : w1.cell? ⟨w.heap.size, 0, none⟩ = some (.slice AL P.lines.length cL) := (rowBelow rP hb1).cell (i := 0) (by decide)
  have p1 : w1.cell? ⟨w.heap.size, 1, none⟩ = some (.slice AN P.notes.length cN) := (rowBelow rP hb1).cell (i := 1) (by decide)
  have p2 : w1.cell? ⟨w.heap.size, 2, none⟩ = some (.slice AP P.pens.length cP) := (rowBelow rP hb1).cell (i := 2) (by decide)
  have p3 : w1.cell? ⟨w.heap.size, 3, none⟩ = some (.int .i64 P.height) := (rowBelow rP hb1).cell (i := 3) (by decide)
  have p4 : w1.cell? ⟨w.heap.size, 4, none⟩ = some (.int .i64 P.gap) := (rowBelow rP hb1).cell (i := 4) (by decide)
  have pL := kc hb1 rL
  have HL1 := HL.to hb1 hb1.size
  have HR1 := HR.to hb1 hb1.size
  clear h0 FF CK rP rL r6 HE HL HR
  by_cases a1 : l.length = P.lines.length + 1
  rotate_left
  · have b1 : ((l.length : Int) != (P.lines.length : Int) + 1) = true := by simp; omega
    have HQ := Lib.hid (verP_18 H0.out (l := l) (fun h => a1 h.1))
    clear a1
    gi_wp2
    refine ⟨trivial, ?_⟩
    gi_wp2
    refine ⟨_, res22 (t := w.heap.size + 1 + 1) rfl ((q6.set 0 (.int .i64 18)).cell (i := 0) (by decide)), ?_, B1.setCell (p := ⟨w.heap.size + 1 + 1, 0, none⟩) (by show w.heap.size ≤ w.heap.size + 1 + 1; omega) _⟩
    rw [HQ.out]; rfl
  have b1 : ((l.length : Int) != (P.lines.length : Int) + 1) = false := by simp; omega
  have A1 := Lib.hid a1
  have hl1 : P.lines.length < l.length := by omega
  have hl2 : l.length ≤ P.lines.length + 1 := by omega
  clear a1
  obtain ⟨bl, ol, rfl, hbl, hcn⟩ := HL1.lAt_at hl1
  obtain ⟨bl', ol', hA', _, hc0⟩ := HL1.lAt_at (show 0 < l.length by omega)
  injection hA' with hA'
  injection hA' with e1 e2
  subst e1 e2
  simp only [Nat.add_zero] at hc0
  have i1 : (0 : Int) ≤ (P.lines.length : Int) := by omega
  have i2 : (P.lines.length : Int) < (l.length : Int) := by omega
  have i3 : (0 : Int) < (l.length : Int) := by omega
  by_cases a2 : lAt l P.lines.length = 0
  rotate_left
  · have b2 : (lAt l P.lines.length != 0) = true := by simp [a2]
    have HQ := Lib.hid (verP_18 H0.out (l := l) (fun h => a2 h.2.1))
    clear a2
    gi_wp2
    refine ⟨trivial, ?_⟩
    gi_wp2
    refine ⟨_, res22 (t := w.heap.size + 1 + 1) rfl ((q6.set 0 (.int .i64 18)).cell (i := 0) (by decide)), ?_, B1.setCell (p := ⟨w.heap.size + 1 + 1, 0, none⟩) (by show w.heap.size ≤ w.heap.size + 1 + 1; omega) _⟩
    rw [HQ.out]; rfl
  have b2 : (lAt l P.lines.length != 0) = false := by simp [a2]
  have A2 := Lib.hid a2
  clear a2
  by_cases a3 : lAt l 0 = costC P ends
  rotate_left
  · have b3 : (lAt l 0 != costC P ends) = true := by simp [a3]
    have HQ := Lib.hid (verP_18 H0.out (l := l) (fun h => a3 h.2.2.1))
    clear a3
    gi_wp2
    refine ⟨trivial, ?_⟩
    gi_wp2
    refine ⟨_, res22 (t := w.heap.size + 1 + 1) rfl ((q6.set 0 (.int .i64 18)).cell (i := 0) (by decide)), ?_, B1.setCell (p := ⟨w.heap.size + 1 + 1, 0, none⟩) (by show w.heap.size ≤ w.heap.size + 1 + 1; omega) _⟩
    rw [HQ.out]; rfl
  have b3 : (lAt l 0 != costC P ends) = false := by simp [a3]
  have A3 := Lib.hid a3
  clear a3
  have HN := Lib.hid (fun w hR => newSums_any AL AN AP cL cN cP P w F hR)
  gi_wp2_with fail
  refine ⟨trivial, ?_⟩
  refine (callsIn_wide.2 (min_any (some ⟨bl, ol, none⟩) cL2 l _ (by omega) (by omega) HL1)).mono ?_
  rintro e wm ⟨⟨mn, rfl, hmn⟩, rfl⟩
  by_cases a4 : mn < -1
  · have b4 : decide (mn < -1) = true := by simpa using a4
    have HQ := Lib.hid (verP_18 H0.out (l := l) (fun h => by have := h.2.2.2.1 mn hmn.2; omega))
    clear a4
    gi_wp2
    refine ⟨_, res22 (t := w.heap.size + 1 + 1) rfl ((q6.set 0 (.int .i64 18)).cell (i := 0) (by decide)), ?_, B1.setCell (p := ⟨w.heap.size + 1 + 1, 0, none⟩) (by show w.heap.size ≤ w.heap.size + 1 + 1; omega) _⟩
    rw [HQ.out]; rfl
  have b4 : decide (mn < -1) = false := by simpa using a4
  have A4 := Lib.hid (show ∀ x ∈ l, -1 ≤ x from fun x hx => by
    obtain ⟨j, hj, rfl⟩ := List.getElem_of_mem hx
    have := hmn.1 j hj hj
    omega)
  clear a4 hmn
  gi_wp2_with fail
  refine ⟨trivial, ?_⟩
  refine (callsIn_wide.2 (HN.out _ HR1)).mono ?_
  rintro e W6 ⟨⟨g, rfl, hs6⟩, hb6⟩
  have B6 := bthen B1 hb6
  have dL := kc hb6 pL
  have q6' := rowBelow q6 hb6
  have HL6 := HL1.to hb6 hb6.size
  have hbn : w.heap.size + 1 + 1 < W6.heap.size := q6'.lt
  clear HN HL1 HR1 p0 p1 p2 p3 p4 pL hcn hc0 hbl i2 i3 b1 b2 b3 b4 B1 q6 c6 f6 hb6 hb1
  gi_wp2_with fail
  refine loopG (fun k a wr => ∃ (i : Nat) (Ds : List Nat) (u11 u53 u54 u55 u56 u57 u58 u86 : Value), k = P.lines.length - i ∧ u53 = .int .i64 (i : Int) ∧ i ≤ P.lines.length ∧ ProgOk P (lAt l) i ∧ InvV W6 Ds wr ∧ a = { tmps := #[.agg #[.slice AL P.lines.length cL, .slice AN P.notes.length cN, .slice AP P.pens.length cP, .int .i64 P.height, .int .i64 P.gap], .slice AE ends.length cE, .slice (some ⟨bl, ol, none⟩) l.length cL2, .pointer (some ⟨w.heap.size, 0, none⟩), undef, .pointer (some ⟨w.heap.size + 1, 0, none⟩), .pointer (some ⟨w.heap.size + 1 + 1, 0, none⟩), .int .i64 (costC P ends), .int .i64 (costE P ends), .int .i64 P.lines.length, .pointer (some ⟨g, 0, none⟩), u11, undef, undef, .tuple #[.int .i64 (costC P ends), .int .i64 (costE P ends)], .agg #[.slice AL P.lines.length cL, .slice AN P.notes.length cN, .slice AP P.pens.length cP, .int .i64 P.height, .int .i64 P.gap], .slice AE ends.length cE, .tuple #[.int .i64 (costC P ends), .int .i64 (costE P ends)], .int .i64 (costC P ends), .int .i64 (costE P ends), .int .i64 (costE P ends), .bool false, undef, .pointer (some ⟨w.heap.size, 0, none⟩), .slice AL P.lines.length cL, .int .i64 P.lines.length, .slice (some ⟨bl, ol, none⟩) l.length cL2, .int .i64 l.length, .int .i64 P.lines.length, .int .i64 ((P.lines.length : Int) + 1), .bool false, .bool false, .slice (some ⟨bl, ol, none⟩) l.length cL2, .int .i64 P.lines.length, .pointer (some ⟨bl, ol + P.lines.length, none⟩), .int .i64 (lAt l P.lines.length), .bool false, .bool false, .bool false, .slice (some ⟨bl, ol, none⟩) l.length cL2, .pointer (some ⟨bl, ol, none⟩), .int .i64 (lAt l 0), .int .i64 (costC P ends), .bool false, .bool false, .bool false, .slice (some ⟨bl, ol, none⟩) l.length cL2, .int .i64 mn, .bool false, .bool false, .agg #[.slice AL P.lines.length cL, .slice AN P.notes.length cN, .slice AP P.pens.length cP, .int .i64 P.height, .int .i64 P.gap], .pointer (some ⟨g, 0, none⟩), .int .i64 P.lines.length, u53, u54, u55, u56, u57, u58, undef, undef, undef, undef, undef, undef, undef, undef, undef, undef, undef, undef, undef, undef, undef, undef, undef, undef, undef, undef, undef, undef, undef, undef, undef, undef, undef, u86], defers := Ds.map mk1 }) P.lines.length ⟨0, [], _, _, _, _, _, _, _, _, rfl, rfl, Nat.zero_le _, fun i hi => by omega, ⟨Below.refl _ _, Marks.nil _ _⟩, rfl⟩ ?_
  rintro k a wr ⟨i, Ds, u11, u53, u54, u55, u56, u57, u58, u86, hk, rfl, hin, hok, hI, rfl⟩ K hK
  have HI := Lib.hid hI
  have HK := Lib.hid hK
  have Hk := Lib.hid hk
  have HOK := Lib.hid hok
  have q7 := rowBelow q6' hI.b
  clear hK hk hok
  by_cases hil : i < P.lines.length
  rotate_left
  · have c7 := q7.cell (i := 0) (by decide)
    have f7 := q7.frozen 0
    have HQ := Lib.hid (verP_0 H0.out (l := l) ⟨A1.out, A2.out, A3.out, A4.out, by
      obtain rfl : i = P.lines.length := by omega
      exact HOK.out⟩)
    clear hI
    gi_wp2
    have hI := HI.out
    refine leavesM Ds _ (hI.m.setCell c7) (fun w' hk => ⟨_, res22 (t := w.heap.size + 1 + 1) rfl ((hk.row (q7.set 0 (.int .i64 0))).cell (i := 0) (by decide)), ?_, ((bthen B6 hI.b).setCell (p := ⟨w.heap.size + 1 + 1, 0, none⟩) (by show w.heap.size ≤ w.heap.size + 1 + 1; omega) _).trans (hk.b.mono B6.size)⟩)
    rw [HQ.out]; rfl
  · have hsr := hI.b.size
    have cb : (wr.alloc (.cells #[.int .i64 (i : Int)] 3)).cell? ⟨wr.heap.size, 0, none⟩ = some (.int .i64 (i : Int)) := by simp
    clear hI
    gi_wp2_with (refine ⟨trivial, ?_⟩; gi_at_call 61; refine (callsIn_wide.2 (pages_any g i _)).mono ?_; rintro e w7 ⟨rfl, rfl⟩)
    obtain ⟨W0, hW0⟩ : ∃ W0, ((wr.alloc (.cells #[.int .i64 (i : Int)] 3)).alloc (.cells #[.pointer (some ⟨g, 0, none⟩)] 71)).alloc (.cells #[.int .i64 (i : Int)] 3) = W0 := ⟨_, rfl⟩
    have hsz : W0.heap.size = wr.heap.size + 3 := by rw [← hW0]; simp
    have cbs : W0.cell? ⟨wr.heap.size + 1, 0, none⟩ = some (.pointer (some ⟨g, 0, none⟩)) := by
      rw [← hW0, World.cell?_alloc_past _ _ _ (by simp), World.cell?_alloc_at _ _ _ _ (by simp)]; rfl
    have cbf : W0.cell? ⟨wr.heap.size + 1 + 1, 0, none⟩ = some (.int .i64 (i : Int)) := by
      rw [← hW0, World.cell?_alloc_at _ _ _ _ (by simp)]; rfl
    have hQ0 : InvV W6 Ds W0 ∧ W0.rowIs wr.heap.size 3 1 (fun _ => .int .i64 (i : Int)) := by
      rw [← hW0]
      refine ⟨HI.out.below (((Below.refl _ _).alloc (Nat.le_refl _) _).alloc (by simp) _ |>.alloc (by simp; omega) _), ?_⟩
      exact ((World.rowIs_alloc wr #[.int .i64 (i : Int)] 3 (fun _ => .int .i64 (i : Int)) (fun k hk => by
        obtain rfl : k = 0 := by simpa using hk
        rfl)).alloc _).alloc _
    have hDs : ∀ D ∈ Ds, D < W0.heap.size := fun D hD => by have := HI.out.m.lt hD; omega
    have hS0 : SumR W0 W6.heap.size g AL AN AP cL cN cP P := hs6.below hQ0.1.b
    rw [hW0]
    clear hW0 HI cb
    refine wpIn_rangeFunc_ownG rfl (by decide) (gf := 94) (lb := #[.pointer (some ⟨wr.heap.size + 1 + 1, 0, none⟩), .pointer (some ⟨wr.heap.size + 1, 0, none⟩)]) rfl trivial eg94
      (pages_stops 4 (by decide) g i (wr.heap.size + 1 + 1) (wr.heap.size + 1) W6.heap.size AL AN AP cL cN cP P F hil W0 (by omega) (by omega) (by omega) cbf cbs hS0) Kp2.trans (Kp2.putObj (by omega) (by omega) (by omega)) (Below.refl _ _) (fun _ => rfl)
      (fun (pre : List (PgE P i)) W => ((∀ k ∈ evs pre, PgOk P (lAt l) i k) ∧ W0.heap.size ≤ W.heap.size) ∧ InvV W6 Ds W ∧ W.rowIs wr.heap.size 3 1 (fun _ => .int .i64 (i : Int)))
      (fun cd (_ : List (PgE P i)) W => (cd = Code.ret ∧ ∃ q, i < q ∧ q ≤ P.lines.length ∧ P.pageE i q = 0 ∧ ¬ PgOk P (lAt l) i q) ∧ W.rowIs (w.heap.size + 1 + 1) 28 1 (fun _ => .int .i64 18) ∧ Below w.heap.size w W ∧ Marks W6.heap.size Ds W)
      (fun s A B row hs hg hr => ⟨⟨hs.1.1, Nat.le_trans hs.1.2 hg.size⟩, hs.2.1.turn hg (fun k e => (hr k e).1) (by omega) hDs, rowIs_grown hs.2.2 hg (fun e => by have := (hr _ e.symm).1; omega)⟩)
      (fun cd s A B row hs hg hr => ⟨hs.1, rowIs_grown hs.2.1 hg (fun e => by have := (hr _ e.symm).1; omega), hs.2.2.1.grown hg hs.2.2.1.size (fun k e => by have := (hr k e).1; omega), hs.2.2.2.keep (fun D hD => hg.block D (hs.2.2.2.lt hD) (fun e => by have := (hr D e.symm).1; have := hDs D hD; omega))⟩)
      ⟨⟨fun k h => (by cases h), Nat.le_refl _⟩, hQ0⟩
      (fun x => { tmps := #[.agg #[.slice AL P.lines.length cL, .slice AN P.notes.length cN, .slice AP P.pens.length cP, .int .i64 P.height, .int .i64 P.gap], .slice AE ends.length cE, .slice (some ⟨bl, ol, none⟩) l.length cL2, .pointer (some ⟨w.heap.size, 0, none⟩), undef, .pointer (some ⟨w.heap.size + 1, 0, none⟩), .pointer (some ⟨w.heap.size + 1 + 1, 0, none⟩), .int .i64 (costC P ends), .int .i64 (costE P ends), .int .i64 P.lines.length, .pointer (some ⟨g, 0, none⟩), .pointer (some ⟨wr.heap.size, 0, none⟩), .int .i64 (x.1 : Int), .int .i64 (P.pageC i x.1), .tuple #[.int .i64 (costC P ends), .int .i64 (costE P ends)], .agg #[.slice AL P.lines.length cL, .slice AN P.notes.length cN, .slice AP P.pens.length cP, .int .i64 P.height, .int .i64 P.gap], .slice AE ends.length cE, .tuple #[.int .i64 (costC P ends), .int .i64 (costE P ends)], .int .i64 (costC P ends), .int .i64 (costE P ends), .int .i64 (costE P ends), .bool false, undef, .pointer (some ⟨w.heap.size, 0, none⟩), .slice AL P.lines.length cL, .int .i64 P.lines.length, .slice (some ⟨bl, ol, none⟩) l.length cL2, .int .i64 l.length, .int .i64 P.lines.length, .int .i64 ((P.lines.length : Int) + 1), .bool false, .bool false, .slice (some ⟨bl, ol, none⟩) l.length cL2, .int .i64 P.lines.length, .pointer (some ⟨bl, ol + P.lines.length, none⟩), .int .i64 (lAt l P.lines.length), .bool false, .bool false, .bool false, .slice (some ⟨bl, ol, none⟩) l.length cL2, .pointer (some ⟨bl, ol, none⟩), .int .i64 (lAt l 0), .int .i64 (costC P ends), .bool false, .bool false, .bool false, .slice (some ⟨bl, ol, none⟩) l.length cL2, .int .i64 mn, .bool false, .bool false, .agg #[.slice AL P.lines.length cL, .slice AN P.notes.length cN, .slice AP P.pens.length cP, .int .i64 P.height, .int .i64 P.gap], .pointer (some ⟨g, 0, none⟩), .int .i64 P.lines.length, .int .i64 (i : Int), .bool true, .int .i64 (i : Int), .pointer (some ⟨g, 0, none⟩), .int .i64 (i : Int), .func (.func 94) #[] #[.pointer (some ⟨wr.heap.size + 1 + 1, 0, none⟩), .pointer (some ⟨wr.heap.size + 1, 0, none⟩)], .int .i64 (x.1 : Int), .int .i64 (P.pageC i x.1), undef, undef, undef, undef, undef, undef, undef, undef, undef, undef, undef, undef, undef, undef, undef, undef, undef, undef, undef, undef, undef, undef, undef, undef, undef, u86], defers := [] }) ?assign ?body ?done ?stop
    case assign =>
      intro l x W K hK
      gi_wp2
      exact hK
    case body =>
      rintro lp pre x W ⟨⟨hpre, hW0s⟩, hI, h11⟩ _
      obtain ⟨q, hq1, hq2, hq3⟩ := x
      have hC := F.pageC_bd i q
      have e11 : W.cell? ⟨wr.heap.size, 0, none⟩ = some (.int .i64 (i : Int)) := h11.cell (by decide)
      have eL := kc hI.b dL
      obtain ⟨bq, oq, hAq, _, cq⟩ := HL6.lAt_at (k := q) (by omega)
      obtain ⟨bi, oi, hAi, _, ci⟩ := HL6.lAt_at (k := i) (by omega)
      injection hAq with hAq
      injection hAq with e1 e2
      subst e1 e2
      injection hAi with hAi
      injection hAi with e1 e2
      subst e1 e2
      have cq := kc hI.b cq
      have ci := kc hI.b ci
      have q8 := rowBelow q6' hI.b
      have c8 := q8.cell (i := 0) (by decide)
      have f8 := q8.frozen 0
      have h64 : I64 (lAt l i) := by unfold lAt; rw [getD_lt' (by omega)]; exact hl64 _ (List.getElem_mem _)
      obtain ⟨V, hVe⟩ : ∃ V, lAt l q = V := ⟨_, rfl⟩
      obtain ⟨R, hRe⟩ : ∃ R, lAt l i = R := ⟨_, rfl⟩
      rw [hVe] at cq
      rw [hRe] at ci h64
      obtain ⟨h641, h642⟩ := h64
      have HI := Lib.hid hI
      have HV := Lib.hid hVe
      have HR := Lib.hid hRe
      have HPRE := Lib.hid hpre
      have i1 : (0 : Int) ≤ (i : Int) := by omega
      have i2 : (i : Int) < (l.length : Int) := by omega
      have j1 : (0 : Int) ≤ (q : Int) := by omega
      have j2 : (q : Int) < (l.length : Int) := by omega
      have hskip : ∀ nq, PgOk P (lAt l) i q → KeepsFrom W0.heap.size W (W.drewN nq) ∧ Kp2 W6.heap.size (wr.heap.size + 1 + 1) (wr.heap.size + 1) W (W.drewN nq) ∧ ((∀ k ∈ evs (pre ++ [(⟨q, hq1, hq2, hq3⟩ : PgE P i)]), PgOk P (lAt l) i k) ∧ W0.heap.size ≤ (W.drewN nq).heap.size) ∧ InvV W6 Ds (W.drewN nq) ∧ (W.drewN nq).rowIs wr.heap.size 3 1 (fun _ => .int .i64 (i : Int)) := by
        intro nq e
        have hb := below_drewN (Below.refl W.heap.size W) nq
        refine ⟨(KeepsOthers.of_grownBy (grownBy_of_below hb none) (fun j o e => by cases e)).from _, ⟨below_drewN (Below.refl _ W) nq, ?_, ?_⟩, ⟨fun k hk => ?_, Nat.le_trans hW0s hb.size⟩, hI.below hb, rowBelow h11 hb⟩
        · exact hb.block _ (by omega)
        · exact hb.block _ (by omega)
        · rw [evs_snoc, List.mem_append, List.mem_singleton] at hk
          rcases hk with h | rfl
          · exact hpre k h
          · exact e
      have hfail : ∀ nq, ¬ PgOk P (lAt l) i q → KeepsFrom W0.heap.size W ((W.drewN nq).setCell ⟨w.heap.size + 1 + 1, 0, none⟩ (.int .i64 18)) ∧ (∃ q, i < q ∧ q ≤ P.lines.length ∧ P.pageE i q = 0 ∧ ¬ PgOk P (lAt l) i q) ∧ ((W.drewN nq).setCell ⟨w.heap.size + 1 + 1, 0, none⟩ (.int .i64 18)).rowIs (w.heap.size + 1 + 1) 28 1 (fun _ => .int .i64 18) ∧ Below w.heap.size w ((W.drewN nq).setCell ⟨w.heap.size + 1 + 1, 0, none⟩ (.int .i64 18)) ∧ Marks W6.heap.size Ds ((W.drewN nq).setCell ⟨w.heap.size + 1 + 1, 0, none⟩ (.int .i64 18)) := by
        intro nq e
        have hb := below_drewN (Below.refl W.heap.size W) nq
        have q9 := rowBelow q8 hb
        refine ⟨((KeepsOthers.of_grownBy (grownBy_of_below hb none) (fun j o e => by cases e)).trans (KeepsOthers.setCell _ _ _)).from _, ⟨q, hq1, hq2, hq3, e⟩, (q9.set 0 (.int .i64 18)).congr (fun j hj => by
          obtain rfl : j = 0 := by omega
          simp), ?_, (hI.below hb).m.setCell (q9.cell (i := 0) (by decide))⟩
        exact (bthen B6 (hI.below hb).b).setCell (p := ⟨w.heap.size + 1 + 1, 0, none⟩) (by show w.heap.size ≤ w.heap.size + 1 + 1; omega) _
      have HK1 := Lib.hid hskip
      have HK2 := Lib.hid hfail
      clear hVe hRe hI hskip hfail hpre hsz cbs cbf hS0 hQ0 hDs q8 h11
      dsimp only
      by_cases hv : V < 0
      · have b1 : decide (0 ≤ V) = false := by simpa using hv
        have okf := Lib.hid (show PgOk P (lAt l) i q by unfold PgOk; rw [HV.out]; omega)
        gi_wp2
        refine quiet_round (by kernel_rfl) (by kernel_rfl) (by kernel_rfl) ?_
        repeat (gi_big_quiet_step (fail))
        refine wpQuietIn_nil ?_
        intro _ hw'
        obtain ⟨nq, hw''⟩ := hw'
        subst hw''
        gi_wp2
        exact HK1.out _ okf.out
      have b1 : decide (0 ≤ V) = true := by simpa using hv
      by_cases hr : R < 0
      · have b2 : decide (R < 0) = true := by simpa using hr
        have okf := Lib.hid (show ¬ PgOk P (lAt l) i q by unfold PgOk; rw [HV.out, HR.out]; omega)
        gi_wp2
        refine quiet_round (by kernel_rfl) (by kernel_rfl) (by kernel_rfl) ?_
        repeat (gi_big_quiet_step (fail))
        refine wpQuietIn_nil ?_
        intro _ hw'
        obtain ⟨nq, hw''⟩ := hw'
        subst hw''
        gi_wp2
        obtain ⟨x1, x2, x3⟩ := HK2.out nq okf.out
        exact ⟨x1, ⟨rfl, x2⟩, x3⟩
      have b2 : decide (R < 0) = false := by simpa using hr
      have HSUM := Lib.hid (show IntKind.i64.wrap (R - P.pageC i q) = R - P.pageC i q by rw [IntKind.wrap_i64]; omega)
      by_cases hs : V < R - P.pageC i q
      · have b3 : decide (V < R - P.pageC i q) = true := by simpa using hs
        have okf := Lib.hid (show ¬ PgOk P (lAt l) i q by unfold PgOk; rw [HV.out, HR.out]; omega)
        have hsum := HSUM.out
        gi_wp2
        refine quiet_round (by kernel_rfl) (by kernel_rfl) (by kernel_rfl) ?_
        repeat (gi_big_quiet_step (fail))
        refine wpQuietIn_nil ?_
        intro _ hw'
        obtain ⟨nq, hw''⟩ := hw'
        subst hw''
        gi_wp2
        obtain ⟨x1, x2, x3⟩ := HK2.out nq okf.out
        exact ⟨x1, ⟨rfl, x2⟩, x3⟩
      · have b3 : decide (V < R - P.pageC i q) = false := by simpa using hs
        have okf := Lib.hid (show PgOk P (lAt l) i q by unfold PgOk; rw [HV.out, HR.out]; omega)
        have hsum := HSUM.out
        gi_wp2
        refine quiet_round (by kernel_rfl) (by kernel_rfl) (by kernel_rfl) ?_
        repeat (gi_big_quiet_step (fail))
        refine wpQuietIn_nil ?_
        intro _ hw'
        obtain ⟨nq, hw''⟩ := hw'
        subst hw''
        gi_wp2
        exact HK1.out _ okf.out
    case done =>
      rintro D ys W hD hys ⟨⟨hpre, _⟩, hI, _⟩ hk
      have HIN := Lib.hid hI
      have HPG := Lib.hid (show ∀ q ∈ pgL P i (P.lines.length - i), PgOk P (lAt l) i q from fun q hq => hpre q (by rw [show evs ys = pgL P i (P.lines.length - i) from hys]; exact hq))
      clear hpre hys hI
      gi_wp2
      have hI := HIN.out
      refine HK.out (P.lines.length - (i + 1)) _ _ (by have := Hk.out; omega) ⟨i + 1, D :: Ds, _, _, _, _, _, _, _, _, rfl, by go_num, by omega, HOK.out.step HPG.out hil, ⟨hI.b, ?_⟩, rfl⟩
      refine ⟨List.nodup_cons.2 ⟨fun h => by have := hDs D h; omega, hI.m.nd⟩, fun D' hD' => ?_⟩
      rcases List.mem_cons.1 hD' with rfl | h
      · exact ⟨by omega, hk⟩
      · exact hI.m.m D' h
    case stop =>
      rintro D cd pre W hD _ ⟨⟨rfl, q, h1, h2, h3, h4⟩, hr6, hB, hm⟩ hk
      have HQ := Lib.hid (verP_18 H0.out (l := l) (fun h => h4 (h.2.2.2.2 i hil q h1 h2 h3)))
      gi_wp2
      have hM : Marks W6.heap.size (D :: Ds) W := by
        refine ⟨List.nodup_cons.2 ⟨fun h => by have := hDs D h; omega, hm.nd⟩, fun D' hD' => ?_⟩
        rcases List.mem_cons.1 hD' with rfl | h
        · exact ⟨by omega, hk⟩
        · exact hm.m D' h
      refine leavesM (D :: Ds) _ hM (fun w' hk => ⟨_, res22 (t := w.heap.size + 1 + 1) rfl ((hk.row hr6).cell (i := 0) (by decide)), ?_, hB.trans (hk.b.mono B6.size)⟩)
      rw [HQ.out]
end Go.Proofs.Ytemlljgldkkkgaa
