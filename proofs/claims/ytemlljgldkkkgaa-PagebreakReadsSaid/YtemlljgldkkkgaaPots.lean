/- potentials: the loop over lines with a range over pages inside it -/
import Derived.Test.YtemlljgldkkkgaaPages
import Derived.Sort.QuietIn
import Derived.Sort.LoopGhostIn
namespace Go.Proofs.Ytemlljgldkkkgaa
open Go.RowKit Go.Shelf
attribute [local go_sem] Oper.semAt_some
/-! ### a range over a function inside a loop: each round of the outer loop leaves a mark among the deferred calls -/
def mk1 (D : Nat) : Deferred := { target := .collected D, args := #[] }
structure PK (B : Nat) (w w' : World) : Prop where
  b : Below B w w'
  c : ∀ (k : Nat) (o : Obj), w.heap[k]? = some o → o.isCells = true → w'.heap[k]? = some o
theorem PK.refl (B : Nat) (w : World) : PK B w w := ⟨Below.refl _ _, fun _ _ h _ => h⟩
theorem PK.trans {B : Nat} {a b c : World} (h : PK B a b) (k : PK B b c) : PK B a c := ⟨h.b.trans k.b, fun i o hi ho => k.c i o (h.c i o hi ho) ho⟩
theorem PK.putObj {B D : Nat} {w : World} {o : Obj} (hB : B ≤ D) (h : w.heap[D]? = some o) (ho : o.isCells = false) (o' : Obj) : PK B w (w.putObj D o') :=
  ⟨(Below.refl B w).grown (grownBy_putObj' w D o') (by have := (Array.getElem?_eq_some_iff.1 h).1; omega) (fun k e => by cases e; exact hB), fun k o2 h2 h3 => (World.putObj_heap_other (fun e => by subst e; rw [h] at h2; injection h2 with h2; subst h2; rw [ho] at h3; cases h3)).trans h2⟩
structure Marks (B : Nat) (Ds : List Nat) (w : World) : Prop where
  nd : Ds.Nodup
  m : ∀ D, D ∈ Ds → B ≤ D ∧ w.heap[D]? = some (.deferred (some []))
theorem Marks.nil (B : Nat) (w : World) : Marks B [] w := ⟨List.nodup_nil, fun D h => by cases h⟩
theorem PK.row {B : Nat} {w w' : World} {b n : Nat} {t : TypeId} {f : Nat → Value} (hk : PK B w w') (h : w.rowIs b t n f) : w'.rowIs b t n f := by
  obtain ⟨c, h1, h2, h3⟩ := h
  exact ⟨c, hk.c _ _ h1 rfl, h2, h3⟩
theorem leavesM {F : Fence} {n : Nat} {P : Program} {fn : Func} {tmps : Array Value} {R : Ending → World → Prop} {B : Nat} : ∀ (Ds : List Nat) (w : World), Marks B Ds w → (∀ w', PK B w w' → ∃ v, (results fn tmps).run P w' = .ok v w' ∧ R (.returned v) w') → LeavesInM F n P fn tmps R (Ds.map mk1) .returning w
  | [], w, _, h => h w (PK.refl _ _)
  | D :: Ds, w, hm, h => by
    have hD := hm.m D (by simp)
    have hn := List.nodup_cons.1 hm.nd
    refine ⟨by simp, .inl ⟨D, _, rfl, run_takeDeferred hD.2, leavesM Ds _ ⟨hn.2, fun D' hD' => ⟨(hm.m D' (by simp [hD'])).1, (World.putObj_heap_other (fun e => hn.1 (by rw [← e]; exact hD'))).trans (hm.m D' (by simp [hD'])).2⟩⟩ (fun w' hk => h w' ((PK.putObj hD.1 hD.2 rfl _).trans hk))⟩⟩
theorem Marks.keep {B : Nat} {Ds : List Nat} {w w' : World} (h : Marks B Ds w) (hk : ∀ D ∈ Ds, w'.heap[D]? = w.heap[D]?) : Marks B Ds w' := ⟨h.nd, fun D hD => ⟨(h.m D hD).1, (hk D hD).trans (h.m D hD).2⟩⟩
theorem Marks.lt {B : Nat} {Ds : List Nat} {w : World} (h : Marks B Ds w) {D : Nat} (hD : D ∈ Ds) : D < w.heap.size := (Array.getElem?_eq_some_iff.1 (h.m D hD).2).1
theorem Marks.below {B : Nat} {Ds : List Nat} {w w' : World} (h : Marks B Ds w) (hb : Below w.heap.size w w') : Marks B Ds w' := h.keep fun D hD => hb.block D (h.lt hD)
/-- a store into a cell leaves the marks -/
theorem Marks.setCell {B : Nat} {Ds : List Nat} {w : World} (h : Marks B Ds w) {a : Addr} {v u : Value} (hc : w.cell? a = some u) : Marks B Ds (w.setCell a v) := h.keep fun D hD => Go.Deep.blk_setCell_other _ _ _ _ (fun e => by
  have := (h.m D hD).2
  rw [e] at this
  simp [World.cell?, this] at hc)
theorem loopG {F : Fence} {rm : Nat} {P : Program} {Q : Exit → Act → World → Prop} {a : Act} {w : World} {c : Code} (I : Nat → Act → World → Prop) (n₀ : Nat) (h₀ : I n₀ a w)
    (round : ∀ n a w, I n a w → ∀ K : Act → World → Prop, (∀ n' a' w', n' < n → I n' a' w' → K a' w') → c.wpIn F rm P (Exit.then K Q) a w) : (Code.loop c).wpIn F rm P Q a w :=
  wpIn_loop_ghost I n₀ h₀ fun n a w h => round n a w h _ fun n' _ _ hlt hI => ⟨n', hlt, hI⟩
/-- one step of the least cost -/
def rstep (P : PP) (v : Nat → Int) (i : Nat) (r : Int) (q : Nat) : Int := if 0 ≤ v q ∧ (r < 0 ∨ P.pageC i q + v q < r) then P.pageC i q + v q else r
def rlx (P : PP) (v : Nat → Int) (i : Nat) (l : List Nat) : Int := l.foldl (rstep P v i) (-1)
theorem rlx_snoc (P : PP) (v : Nat → Int) (i : Nat) (l : List Nat) (q : Nat) : rlx P v i (l ++ [q]) = rstep P v i (rlx P v i l) q := by simp [rlx]
theorem rlx_pgL (P : PP) (v : Nat → Int) (i : Nat) : ∀ m, rlx P v i (pgL P i m) = relax P v i m
  | 0 => rfl
  | m + 1 => by
    rw [pgL, relax]
    by_cases e : P.pageE i (i + 1 + m) = 0
    · rw [if_pos e, rlx_snoc, rlx_pgL P v i m, rstep]
      by_cases h : 0 ≤ v (i + 1 + m) ∧ (relax P v i m < 0 ∨ P.pageC i (i + 1 + m) + v (i + 1 + m) < relax P v i m)
      · rw [if_pos h, if_pos ⟨e, h⟩]
      · rw [if_neg h, if_neg (fun h' => h h'.2)]
    · rw [if_neg e, if_neg (fun h => e h.1), rlx_pgL P v i m]
theorem rlx_bd {P : PP} (F : Fine P) {v : Nat → Int} (hv : ∀ j, -1 ≤ v j ∧ v j ≤ 81920000) (i : Nat) (l : List Nat) : -1 ≤ rlx P v i l ∧ rlx P v i l ≤ 81940000 := by
  have key : ∀ (l : List Nat) (r : Int), -1 ≤ r ∧ r ≤ 81940000 → -1 ≤ l.foldl (rstep P v i) r ∧ l.foldl (rstep P v i) r ≤ 81940000 := by
    intro l
    induction l with
    | nil => exact fun r h => h
    | cons q l ih =>
      intro r h
      refine ih _ ?_
      have := hv q
      have := F.pageC_bd i q
      unfold rstep
      split <;> omega
  exact key l _ (by omega)
/-- where the outer loop of potentials stands: k lines are left -/
structure InvP (n₀ k b4 : Nat) (Ds : List Nat) (P : PP) (w wr : World) : Prop where
  le : k ≤ P.lines.length
  b : Below n₀ w wr
  t : wr.rowIs n₀ 3 (P.lines.length + 1) (fun j => .int .i64 (potA P k j))
  t3 : wr.rowIs (n₀ + 1) 22 1 (fun _ => .slice (some ⟨n₀, 0, none⟩) (P.lines.length + 1) (P.lines.length + 1))
  t4 : wr.rowIs b4 3 1 (fun _ => .int .i64 ((k : Int) - 1))
  ge : n₀ + 2 ≤ b4
  m : Marks (n₀ + 2) Ds wr
def evs {P : PP} {i : Nat} (l : List (PgE P i)) : List Nat := l.map Subtype.val
theorem evs_snoc {P : PP} {i : Nat} (l : List (PgE P i)) (x : PgE P i) : evs (l ++ [x]) = evs l ++ [x.1] := by simp [evs]
/-- where the rounds over the pages stand -/
structure InvQ (n₀ i b4 : Nat) (Ds : List Nat) (P : PP) (r : Int) (w W : World) : Prop where
  b : Below n₀ w W
  t : W.rowIs n₀ 3 (P.lines.length + 1) (fun j => .int .i64 (if j = i then r else potA P (i + 1) j))
  t3 : W.rowIs (n₀ + 1) 22 1 (fun _ => .slice (some ⟨n₀, 0, none⟩) (P.lines.length + 1) (P.lines.length + 1))
  t4 : W.rowIs b4 3 1 (fun _ => .int .i64 (i : Int))
  m : Marks (n₀ + 2) Ds W
theorem InvQ.turn {n₀ i b4 : Nat} {Ds : List Nat} {P : PP} {r : Int} {w W W' : World} {row : Option Nat} {B : Nat} (h : InvQ n₀ i b4 Ds P r w W) (hn : n₀ ≤ w.heap.size) (hg : W.grownBy W' row) (hr : ∀ k, row = some k → B ≤ k) (h1 : n₀ + 1 < B) (h2 : b4 < B) (h3 : ∀ D ∈ Ds, D < B) : InvQ n₀ i b4 Ds P r w W' := by
  have ne : ∀ k, k < B → some k ≠ row := fun k hk e => by have := hr k e.symm; omega
  refine ⟨h.b.grown hg (Nat.le_trans hn h.b.size) (fun k e => by have := hr k e; omega), rowIs_grown h.t hg (ne _ (by omega)), rowIs_grown h.t3 hg (ne _ h1), rowIs_grown h.t4 hg (ne _ h2), h.m.keep (fun D hD => hg.block D (h.m.lt hD) (ne _ (h3 D hD)))⟩
set_option maxRecDepth 100000 in
set_option maxHeartbeats 2000000 in
theorem potentials_any (g : Nat) (AL AN AP : Option Addr) (cL cN cP : Nat) (P : PP) (w : World) (F : Fine P) (hR : SumR w w.heap.size g AL AN AP cL cN cP P) :
    Calls Try.prog 60 #[.pointer (some ⟨g, 0, none⟩)] w fun e w' => (e = .returned (.slice (some ⟨w.heap.size, 0, none⟩) (P.lines.length + 1) (P.lines.length + 1)) ∧ w'.rowIs w.heap.size 3 (P.lines.length + 1) (fun j => .int .i64 (pot P j))) ∧ Below w.heap.size w w' := by
  have hln := F.ln
  have hmk := run_make_row' (P := Try.prog) 22 3 (.int .i64 0) 8 Try.underlying22 int_info rfl .i64 .i64 (P.lines.length + 1) (by omega) (by omega)
  have ec : ((P.lines.length + 1 : Nat) : Int) = (P.lines.length : Int) + 1 := by omega
  rw [ec] at hmk
  clear ec
  have c0 := hR.c0
  have hg0 := hR.lt
  have hg1 : g < w.heap.size + 1 := by omega
  have hI0 : InvP w.heap.size P.lines.length (w.heap.size + 1 + 1) [] P w (((w.alloc (.cells (madeCells #[.int .i64 0] (P.lines.length + 1)) 3)).alloc (.cells #[.slice (some ⟨w.heap.size, 0, none⟩) (P.lines.length + 1) (P.lines.length + 1)] 22)).alloc (.cells #[.int .i64 ((P.lines.length : Int) - 1)] 3)) := by
    refine ⟨Nat.le_refl _, (((Below.refl _ w).alloc (Nat.le_refl _) _).alloc (by simp) _).alloc (by simp; omega) _, ?_, ?_, ?_, Nat.le_refl _, Marks.nil _ _⟩
    · refine (((World.rowIs_made w (.int .i64 0) (P.lines.length + 1) 3).alloc _).alloc _).congr (fun j _ => ?_)
      rw [potA_end P (Nat.le_refl _)]
    · have := World.rowIs_alloc (w.alloc (.cells (madeCells #[.int .i64 0] (P.lines.length + 1)) 3)) #[.slice (some ⟨w.heap.size, 0, none⟩) (P.lines.length + 1) (P.lines.length + 1)] 22 (fun _ => .slice (some ⟨w.heap.size, 0, none⟩) (P.lines.length + 1) (P.lines.length + 1)) (fun i hi => by
        obtain rfl : i = 0 := by simpa using hi
        rfl)
      simp only [World.size_alloc] at this
      exact this.alloc _
    · have := World.rowIs_alloc ((w.alloc (.cells (madeCells #[.int .i64 0] (P.lines.length + 1)) 3)).alloc (.cells #[.slice (some ⟨w.heap.size, 0, none⟩) (P.lines.length + 1) (P.lines.length + 1)] 22)) #[.int .i64 ((P.lines.length : Int) - 1)] 3 (fun _ => .int .i64 ((P.lines.length : Int) - 1)) (fun i hi => by
        obtain rfl : i = 0 := by simpa using hi
        rfl)
      simp only [World.size_alloc] at this
      exact this
  refine (callsIn_wide (n := 5)).1 ?_
  refine callsIn_of_wp_marks Try.func60 rfl trivial ?_ rfl
  simp only [Try.ntmps60, List.size_toArray, List.length_cons, List.length_nil, Nat.reduceAdd, Nat.reduceSub, Array.replicate_succ, Array.replicate_zero, List.push_toArray, List.append_toArray, List.nil_append, List.cons_append]
  gi_wp2_with fail
  clear hmk hg1
  refine loopG (fun k a wr => ∃ (b4 : Nat) (Ds : List Nat) (u23 u24 u25 u26 u27 u28 u29 u30 u31 u32 u65 : Value), InvP w.heap.size k b4 Ds P w wr ∧ a = { tmps := #[.pointer (some ⟨g, 0, none⟩), undef, .slice none 0 0, .pointer (some ⟨w.heap.size + 1, 0, none⟩), .pointer (some ⟨b4, 0, none⟩), undef, undef, undef, .pointer (some ⟨g, 0, none⟩), .pointer (some ⟨g, 0, none⟩), .pointer (some ⟨g, 0, none⟩), .pointer (some ⟨g, 0, none⟩), .slice AL P.lines.length cL, .int .i64 P.lines.length, .int .i64 ((P.lines.length : Int) + 1), .slice (some ⟨w.heap.size, 0, none⟩) (P.lines.length + 1) (P.lines.length + 1), .pointer (some ⟨g, 0, none⟩), .pointer (some ⟨g, 0, none⟩), .pointer (some ⟨g, 0, none⟩), .pointer (some ⟨g, 0, none⟩), .slice AL P.lines.length cL, .int .i64 P.lines.length, .int .i64 ((P.lines.length : Int) - 1), u23, u24, u25, u26, u27, u28, u29, u30, u31, u32, undef, undef, undef, undef, undef, undef, undef, undef, undef, undef, undef, undef, undef, undef, undef, undef, undef, undef, undef, undef, undef, undef, undef, undef, undef, undef, undef, undef, undef, undef, undef, undef, u65, undef], defers := Ds.map mk1 }) P.lines.length ⟨_, [], _, _, _, _, _, _, _, _, _, _, _, hI0, rfl⟩ ?_
  rintro k a wr ⟨b4, Ds, u23, u24, u25, u26, u27, u28, u29, u30, u31, u32, u65, hI, rfl⟩ K hK
  clear hI0
  have d3 : wr.cell? ⟨w.heap.size + 1, 0, none⟩ = some (.slice (some ⟨w.heap.size, 0, none⟩) (P.lines.length + 1) (P.lines.length + 1)) := hI.t3.cell (by decide)
  have d4 : wr.cell? ⟨b4, 0, none⟩ = some (.int .i64 ((k : Int) - 1)) := hI.t4.cell (by decide)
  rcases k with _ | i
  · simp only [Int.ofNat_zero, Int.zero_sub] at d4
    gi_wp2
    exact leavesM Ds wr hI.m (fun w' hk => ⟨_, results_tmp rfl _ _ _, ⟨rfl, hk.row hI.t⟩, hI.b.trans (hk.b.mono (by omega))⟩)
  · have e1 : (((i + 1 : Nat) : Int) - 1) = (i : Int) := by omega
    rw [e1] at d4
    have hil : i < P.lines.length := hI.le
    have hb4 := hI.ge
    have i1 : (0 : Int) ≤ (i : Int) := by omega
    have i2 : (i : Int) < (P.lines.length : Int) + 1 := by omega
    have hne : ¬ w.heap.size = b4 := by omega
    have hne2 : ¬ b4 = w.heap.size := by omega
    have d5 := hI.t.cell (i := i) (by omega)
    have f5 := hI.t.frozen i
    have hlt4 := hI.t4.lt
    have d4' : (wr.setCell ⟨w.heap.size, i, none⟩ (.int .i64 (-1))).cell? ⟨b4, 0, none⟩ = some (.int .i64 (i : Int)) := (World.cell?_setCell_far _ _ _ _ hne).trans d4
    have HI := Lib.hid hI
    have HK := Lib.hid hK
    clear hI hK e1
    gi_wp2_with (refine ⟨trivial, ?_⟩; gi_at_call 61; refine (callsIn_wide.2 (pages_any g i _)).mono ?_; rintro e w1 ⟨rfl, rfl⟩)
    obtain ⟨W0, hW0⟩ : ∃ W0, ((wr.setCell ⟨w.heap.size, i, none⟩ (.int .i64 (-1))).alloc (.cells #[.pointer (some ⟨g, 0, none⟩)] 71)).alloc (.cells #[.int .i64 (i : Int)] 3) = W0 := ⟨_, rfl⟩
    have hsz : W0.heap.size = wr.heap.size + 2 := by rw [← hW0]; simp
    have cbs : W0.cell? ⟨wr.heap.size, 0, none⟩ = some (.pointer (some ⟨g, 0, none⟩)) := by
      rw [← hW0, World.cell?_alloc_past _ _ _ (by simp), World.cell?_alloc_at _ _ _ _ (by simp)]; rfl
    have cbf : W0.cell? ⟨wr.heap.size + 1, 0, none⟩ = some (.int .i64 (i : Int)) := by
      rw [← hW0, World.cell?_alloc_at _ _ _ _ (by simp)]; rfl
    have hI := HI.out
    have hn1 := hI.t3.lt
    have e1 : (((i + 1 : Nat) : Int) - 1) = (i : Int) := by omega
    have hQ0 : InvQ w.heap.size i b4 Ds P (-1) w W0 := by
      rw [← hW0]
      refine ⟨((hI.b.setCell (p := ⟨w.heap.size, i, none⟩) (Nat.le_refl _) _).alloc (by simp; omega) _).alloc (by simp; omega) _, ?_, ((hI.t3.setOther (by simp) _).alloc _).alloc _, ?_, ?_⟩
      · refine (((hI.t.set i (.int .i64 (-1))).alloc _).alloc _).congr (fun j _ => ?_)
        split <;> rfl
      · have := ((hI.t4.setOther (a := ⟨w.heap.size, i, none⟩) hne2 (.int .i64 (-1))).alloc (.cells #[.pointer (some ⟨g, 0, none⟩)] 71)).alloc (.cells #[.int .i64 (i : Int)] 3)
        rw [e1] at this
        exact this
      · exact ((hI.m.setCell d5).below ((Below.refl _ _).alloc (Nat.le_refl _) _)).below ((Below.refl _ _).alloc (Nat.le_refl _) _)
    have hDs : ∀ D ∈ Ds, D < W0.heap.size := fun D hD => by have := hI.m.lt hD; omega
    have hS0 : SumR W0 w.heap.size g AL AN AP cL cN cP P := hR.below hQ0.b
    rw [hW0]
    clear hW0 HI hI d3 d4 d4' d5 f5 i1 i2 e1 c0 hg0
    refine wpIn_rangeFunc_ownG rfl (by decide) (gf := 94) (lb := #[.pointer (some ⟨wr.heap.size + 1, 0, none⟩), .pointer (some ⟨wr.heap.size, 0, none⟩)]) rfl trivial eg94
      (pages_stops 4 (by decide) g i (wr.heap.size + 1) wr.heap.size w.heap.size AL AN AP cL cN cP P F hil W0 (by omega) (by omega) (by omega) cbf cbs hS0) Kp2.trans (Kp2.putObj (by omega) (by omega) (by omega)) (Below.refl _ _) (fun _ => rfl)
      (fun (pre : List (PgE P i)) W => InvQ w.heap.size i b4 Ds P (rlx P (potA P (i + 1)) i (evs pre)) w W)
      (fun _ _ _ => False)
      (fun s A B row hs hg hr => hs.turn (Nat.le_refl _) hg (fun k e => (hr k e).1) (by omega) (by omega) hDs)
      (fun _ _ _ _ _ hs _ _ => hs)
      hQ0
      (fun x => { tmps := #[.pointer (some ⟨g, 0, none⟩), undef, .slice none 0 0, .pointer (some ⟨w.heap.size + 1, 0, none⟩), .pointer (some ⟨b4, 0, none⟩), .int .i64 (x.1 : Int), .int .i64 (P.pageC i x.1), undef, .pointer (some ⟨g, 0, none⟩), .pointer (some ⟨g, 0, none⟩), .pointer (some ⟨g, 0, none⟩), .pointer (some ⟨g, 0, none⟩), .slice AL P.lines.length cL, .int .i64 P.lines.length, .int .i64 ((P.lines.length : Int) + 1), .slice (some ⟨w.heap.size, 0, none⟩) (P.lines.length + 1) (P.lines.length + 1), .pointer (some ⟨g, 0, none⟩), .pointer (some ⟨g, 0, none⟩), .pointer (some ⟨g, 0, none⟩), .pointer (some ⟨g, 0, none⟩), .slice AL P.lines.length cL, .int .i64 P.lines.length, .int .i64 ((P.lines.length : Int) - 1), .int .i64 (i : Int), .bool true, u25, u26, .slice (some ⟨w.heap.size, 0, none⟩) (P.lines.length + 1) (P.lines.length + 1), .int .i64 (i : Int), .pointer (some ⟨w.heap.size, i, none⟩), .pointer (some ⟨g, 0, none⟩), .int .i64 (i : Int), .func (.func 94) #[] #[.pointer (some ⟨wr.heap.size + 1, 0, none⟩), .pointer (some ⟨wr.heap.size, 0, none⟩)], .int .i64 (x.1 : Int), .int .i64 (P.pageC i x.1), undef, undef, undef, undef, undef, undef, undef, undef, undef, undef, undef, undef, undef, undef, undef, undef, undef, undef, undef, undef, undef, undef, undef, undef, undef, undef, undef, undef, undef, undef, u65, undef], defers := [] }) ?assign ?body ?done ?stop
    case assign =>
      intro l x W K hK
      gi_wp2
      exact hK
    case body =>
      rintro l pre x W hI _
      obtain ⟨q, hq1, hq2, hq3⟩ := x
      have hV := potA_bd F (i + 1) q
      have hRb := rlx_bd F (potA_bd F (i + 1)) i (evs pre)
      have hC := F.pageC_bd i q
      have d3 : W.cell? ⟨w.heap.size + 1, 0, none⟩ = some (.slice (some ⟨w.heap.size, 0, none⟩) (P.lines.length + 1) (P.lines.length + 1)) := hI.t3.cell (by decide)
      have d4 : W.cell? ⟨b4, 0, none⟩ = some (.int .i64 (i : Int)) := hI.t4.cell (by decide)
      have cq := hI.t.cell (i := q) (by omega)
      have ci := hI.t.cell (i := i) (by omega)
      have fi := hI.t.frozen i
      rw [if_neg (by omega)] at cq
      rw [if_pos rfl] at ci
      obtain ⟨V, hVe⟩ : ∃ V, potA P (i + 1) q = V := ⟨_, rfl⟩
      obtain ⟨R, hRe⟩ : ∃ R, rlx P (potA P (i + 1)) i (evs pre) = R := ⟨_, rfl⟩
      rw [hVe] at cq hV
      rw [hRe] at ci hRb
      have HI := Lib.hid hI
      have HV := Lib.hid hVe
      have HR := Lib.hid hRe
      have i1 : (0 : Int) ≤ (i : Int) := by omega
      have i2 : (i : Int) < (P.lines.length : Int) + 1 := by omega
      have j1 : (0 : Int) ≤ (q : Int) := by omega
      have j2 : (q : Int) < (P.lines.length : Int) + 1 := by omega
      clear hVe hRe hI
      dsimp only
      have hstep : ∀ r', rstep P (potA P (i + 1)) i R q = r' → ∀ W', InvQ w.heap.size i b4 Ds P r' w W' → InvQ w.heap.size i b4 Ds P (rlx P (potA P (i + 1)) i (evs (pre ++ [(⟨q, hq1, hq2, hq3⟩ : PgE P i)]))) w W' := by
        intro r' e W' h
        rw [evs_snoc, rlx_snoc, HR.out, e]; exact h
      have hskip : ∀ W', rstep P (potA P (i + 1)) i R q = R → W' = W → KeepsFrom W0.heap.size W W' ∧ Kp2 w.heap.size (wr.heap.size + 1) wr.heap.size W W' ∧ InvQ w.heap.size i b4 Ds P (rlx P (potA P (i + 1)) i (evs (pre ++ [(⟨q, hq1, hq2, hq3⟩ : PgE P i)]))) w W' := by
        rintro W' e rfl
        exact ⟨KeepsFrom.refl _ _, Kp2.refl _ _ _ _, hstep _ e _ (by have := HI.out; rw [HR.out] at this; exact this)⟩
      have htake : rstep P (potA P (i + 1)) i R q = P.pageC i q + V → KeepsFrom W0.heap.size W (W.setCell ⟨w.heap.size, i, none⟩ (.int .i64 (P.pageC i q + V))) ∧ Kp2 w.heap.size (wr.heap.size + 1) wr.heap.size W (W.setCell ⟨w.heap.size, i, none⟩ (.int .i64 (P.pageC i q + V))) ∧ InvQ w.heap.size i b4 Ds P (rlx P (potA P (i + 1)) i (evs (pre ++ [(⟨q, hq1, hq2, hq3⟩ : PgE P i)]))) w (W.setCell ⟨w.heap.size, i, none⟩ (.int .i64 (P.pageC i q + V))) := by
        intro e
        have hI := HI.out
        refine ⟨(KeepsOthers.setCell _ _ _).from _, ⟨(Below.refl _ _).setCell (p := ⟨w.heap.size, i, none⟩) (Nat.le_refl _) _, Go.Deep.blk_setCell_other _ _ _ _ (by show wr.heap.size + 1 ≠ w.heap.size; omega), Go.Deep.blk_setCell_other _ _ _ _ (by show wr.heap.size ≠ w.heap.size; omega)⟩, hstep _ e _ ⟨hI.b.setCell (p := ⟨w.heap.size, i, none⟩) (Nat.le_refl _) _, ?_, hI.t3.setOther (by simp) _, hI.t4.setOther hne2 _, hI.m.setCell ci⟩⟩
        refine (hI.t.set i (.int .i64 (P.pageC i q + V))).congr (fun j _ => ?_)
        by_cases e : j = i
        · simp only [if_pos e]
        · simp only [if_neg e]
      have HK1 := Lib.hid hskip
      have HK2 := Lib.hid htake
      clear hstep hskip htake hsz cbs cbf hS0 hQ0 hDs
      by_cases hv : V < 0
      · have g1 : decide (0 ≤ V) = false := by simpa using hv
        gi_wp2
        exact HK1.out _ (by unfold rstep; rw [HV.out, if_neg (by omega)]) rfl
      have g1 : decide (0 ≤ V) = true := by simpa using hv
      by_cases hr : R < 0
      · have g2 : decide (R < 0) = true := by simpa using hr
        gi_wp2
        exact HK2.out (by unfold rstep; rw [HV.out, if_pos (by omega)])
      have g2 : decide (R < 0) = false := by simpa using hr
      by_cases hs : P.pageC i q + V < R
      · have g3 : decide (P.pageC i q + V < R) = true := by simpa using hs
        gi_wp2
        exact HK2.out (by unfold rstep; rw [HV.out, if_pos (by omega)])
      · have g3 : decide (P.pageC i q + V < R) = false := by simpa using hs
        gi_wp2
        exact HK1.out _ (by unfold rstep; rw [HV.out, if_neg (by omega)]) rfl
    case done =>
      rintro D ys W hD hys hI hk
      have d4 : W.cell? ⟨b4, 0, none⟩ = some (.int .i64 (i : Int)) := hI.t4.cell (by decide)
      have hI2 := Lib.hid hI
      have hys2 := Lib.hid hys
      have hlt4' := hI.t4.lt
      have i1 : (0 : Int) ≤ (i : Int) := by omega
      have i2 : (i : Int) ≤ 4096 := by omega
      clear hI hys
      gi_wp2
      have hI := hI2.out
      refine HK.out i _ _ (Nat.lt_succ_self i) ⟨W.heap.size, D :: Ds, _, _, _, _, _, _, _, _, _, _, _, ⟨Nat.le_of_lt hil, hI.b.alloc hI.b.size _, ?_, hI.t3.alloc _, ?_, by have := hI.t3.lt; omega, ?_⟩, rfl⟩
      · refine (hI.t.alloc _).congr (fun j _ => ?_)
        rw [potA_step P hil, show evs ys = pgL P i (P.lines.length - i) from hys2.out, rlx_pgL]
      · exact World.rowIs_alloc W #[.int .i64 ((i : Int) - 1)] 3 (fun _ => .int .i64 ((i : Int) - 1)) (fun k hk => by
          obtain rfl : k = 0 := by simpa using hk
          rfl)
      · have hDl := (Array.getElem?_eq_some_iff.1 hk).1
        refine ⟨List.nodup_cons.2 ⟨fun h => by have := hDs D h; omega, hI.m.nd⟩, fun D' hD' => ?_⟩
        rcases List.mem_cons.1 hD' with rfl | h
        · exact ⟨by omega, (Go.Deep.blk_alloc_lt _ _ _ hDl).trans hk⟩
        · exact ⟨(hI.m.m D' h).1, (Go.Deep.blk_alloc_lt _ _ _ (hI.m.lt h)).trans (hI.m.m D' h).2⟩
    case stop =>
      rintro D c pre W _ _ h _
      exact h.elim
end Go.Proofs.Ytemlljgldkkkgaa
