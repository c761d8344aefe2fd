/- Break of the program -/
import Derived.Test.YtemlljgldkkkgaaTops
import Derived.Maps.OwnIn
import Derived.Test.YtemlljgldkkkgaaRound
namespace Go.Proofs.Ytemlljgldkkkgaa
open Go.RowKit Go.Shelf
attribute [local go_sem] Oper.semAt_some
theorem pgL_mem {P : PP} {i : Nat} : ∀ {m k : Nat}, k ∈ pgL P i m ↔ i < k ∧ k ≤ i + m ∧ P.pageE i k = 0
  | 0, k => by simp [pgL]; omega
  | m + 1, k => by
    rw [pgL]
    by_cases e : P.pageE i (i + 1 + m) = 0
    · rw [if_pos e, List.mem_append, pgL_mem (m := m), List.mem_singleton]
      constructor
      · rintro (⟨h1, h2, h3⟩ | rfl)
        · exact ⟨h1, by omega, h3⟩
        · exact ⟨by omega, by omega, e⟩
      · rintro ⟨h1, h2, h3⟩
        by_cases hk : k = i + 1 + m
        · exact .inr hk
        · exact .inl ⟨h1, by omega, h3⟩
    · rw [if_neg e, pgL_mem (m := m)]
      constructor
      · rintro ⟨h1, h2, h3⟩
        exact ⟨h1, by omega, h3⟩
      · rintro ⟨h1, h2, h3⟩
        exact ⟨h1, by
          have : k ≠ i + 1 + m := fun h => e (h ▸ h3)
          omega, h3⟩
theorem okJ_page {P : PP} {i k : Nat} (h : P.pageE i k ≠ 0) : okJ P i k = false := by unfold okJ; simp [h]
/-- the first page that is taken -/
theorem nextJ_of {P : PP} {i : Nat} {ini : List Nat} {q m : Nat} (h : ini ++ [q] = pgL P i m) (hq : q ≤ P.lines.length) (hn : ∀ k ∈ ini, okJ P i k = false) (ho : okJ P i q = true) : nextJ P i = some q := by
  have hm : q ∈ pgL P i m := by rw [← h]; simp
  obtain ⟨h1, h2, h3⟩ := pgL_mem.1 hm
  refine nextJ_some h1 hq ho (fun k hk1 hk2 => ?_)
  by_cases e : P.pageE i k = 0
  · have : k ∈ pgL P i m := pgL_mem.2 ⟨hk1, by omega, e⟩
    rw [← h, List.mem_append, List.mem_singleton] at this
    rcases this with h4 | h4
    · exact hn k h4
    · omega
  · exact okJ_page e
theorem none_of {P : PP} {i : Nat} (hi : i < P.lines.length) (hp : 0 ≤ pot P i) (hn : ∀ k ∈ pgL P i (P.lines.length - i), okJ P i k = false) : False := by
  obtain ⟨k, h1, h2, h3⟩ := pot_hit hi hp
  have := hn k (pgL_mem.2 ⟨h1, by omega, (okJ_iff.1 h3).1⟩)
  rw [this] at h3; cases h3
theorem PK.owns {B : Nat} {w w' : World} {base : Nat} {e : TypeId} {size n : Nat} {v : Value} {xs : List Value} (hk : PK B w w') (h : w.ownsRow base e size v n xs) : w'.ownsRow base e size v n xs := by
  refine ⟨h.1, ?_⟩
  rcases h.2 with hn | ⟨g, cap, cur, hv, hb, hh, rest⟩
  · exact .inl hn
  · exact .inr ⟨g, cap, cur, hv, hb, hk.c _ _ hh rfl, rest⟩
/-- where Break's outer loop stands; W6: the world before it -/
structure InvB (W6 : World) (i b8 : Nat) (A : Option Addr) (c : Nat) (ds : List Int) (Ds : List Nat) (wr : World) : Prop where
  b : Below W6.heap.size W6 wr
  t7 : wr.rowIs W6.heap.size 22 1 (fun _ => .slice A ds.length c)
  own : wr.ownsRow (W6.heap.size + 1) 3 1 (.slice A ds.length c) ds.length (ds.map fun x => .int .i64 x)
  t8 : wr.rowIs b8 3 1 (fun _ => .int .i64 (i : Int))
  ge : W6.heap.size + 1 ≤ b8
  ne : (Value.slice A ds.length c).ownBlock ≠ some b8
  m : Marks (W6.heap.size + 1) Ds wr
theorem InvB.turn {W6 : World} {i b8 : Nat} {A : Option Addr} {c : Nat} {ds : List Int} {Ds : List Nat} {W W' : World} {row : Option Nat} {B : Nat} (h : InvB W6 i b8 A c ds Ds W) (hg : W.grownBy W' row) (hr : ∀ k, row = some k → B ≤ k ∧ ∃ o : Obj, W.heap[k]? = some o ∧ o.isCells = false) (h1 : W6.heap.size < B) (h2 : ∀ D ∈ Ds, D < B) : InvB W6 i b8 A c ds Ds W' := by
  have ne : ∀ k (cs : Array Value) (t : TypeId) (f : Nat × Nat), W.heap[k]? = some (.cells cs t f) → some k ≠ row := fun k cs t f hk e => by
    obtain ⟨_, o, ho, hc⟩ := hr k e.symm
    rw [hk] at ho; injection ho with ho; subst ho; cases hc
  have hrow : ∀ {b n : Nat} {t : TypeId} {f : Nat → Value}, W.rowIs b t n f → W'.rowIs b t n f := fun {b n t f} h => rowIs_grown h hg (by obtain ⟨cs, hh, _⟩ := h; exact ne _ _ _ _ hh)
  refine ⟨h.b.grown hg h.b.size (fun k e => by have := (hr k e).1; omega), hrow h.t7, h.own.kept hg ?_, hrow h.t8, h.ge, h.ne, h.m.keep (fun D hD => hg.block D (h.m.lt hD) (fun e => by have := (hr D e.symm).1; have := h2 D hD; omega))⟩
  rcases h.own.2 with ⟨e, _⟩ | ⟨g, cap, cur, e, _, hh, _⟩
  · rw [e]; exact .inl rfl
  · rw [e]; exact .inr (ne g _ _ _ hh)
theorem InvB.own6 {W6 : World} {i b8 : Nat} {A : Option Addr} {c : Nat} {ds : List Int} {Ds : List Nat} {W : World} (h : InvB W6 i b8 A c ds Ds W) {k : Nat} (e : (Value.slice A ds.length c).ownBlock = some k) : W6.heap.size + 1 ≤ k := by
  rcases h.own.2 with ⟨e2, _⟩ | ⟨g, cap, cur, e2, hb, _⟩
  · rw [e2] at e; simp [Value.ownBlock] at e
  · rw [e2] at e; simp [Value.ownBlock] at e; omega
theorem InvB.below {W6 : World} {i b8 : Nat} {A : Option Addr} {c : Nat} {ds : List Int} {Ds : List Nat} {W W' : World} (h : InvB W6 i b8 A c ds Ds W) (hb : Below W.heap.size W W') : InvB W6 i b8 A c ds Ds W' :=
  ⟨h.b.trans (hb.mono h.b.size), rowBelow h.t7 hb, ((OwnS.mk h.own).below hb).own, rowBelow h.t8 hb, h.ge, h.ne, h.m.below hb⟩
/-- what a round that takes a page leaves -/
theorem InvB.take {W6 : World} {i b8 : Nat} {A : Option Addr} {c : Nat} {ds : List Int} {Ds : List Nat} {W wx w1 : World} {q g1 c1 : Nat} (h : InvB W6 i b8 A c ds Ds W) (hx : Below W.heap.size W wx) (hiq : i < q)
    (hown : w1.ownsRow (W6.heap.size + 1) 3 1 (.slice (some ⟨g1, 0, none⟩) (ds.length + 1) c1) (ds.length + 1) ((ds.map fun x => Value.int .i64 x) ++ [.int .i64 (q : Int)])) (hg : wx.grownBy w1 (Value.slice A ds.length c).ownBlock) :
    InvB W6 q b8 (some ⟨g1, 0, none⟩) c1 (ds ++ [(q : Int)]) Ds ((w1.setCell ⟨W6.heap.size, 0, none⟩ (.slice (some ⟨g1, 0, none⟩) (ds.length + 1) c1)).setCell ⟨b8, 0, none⟩ (.int .i64 (q : Int))) ∧
    KeepsOthers W ((w1.setCell ⟨W6.heap.size, 0, none⟩ (.slice (some ⟨g1, 0, none⟩) (ds.length + 1) c1)).setCell ⟨b8, 0, none⟩ (.int .i64 (q : Int))) := by
  have hge := h.ge
  have own6 : ∀ k, (Value.slice A ds.length c).ownBlock = some k → W6.heap.size + 1 ≤ k := fun k e => by
    rcases h.own.2 with ⟨e2, _⟩ | ⟨g, cap, cur, e2, hb, _⟩
    · rw [e2] at e; simp [Value.ownBlock] at e
    · rw [e2] at e; simp [Value.ownBlock] at e; omega
  have hownc : ∀ k (o : Obj), (Value.slice A ds.length c).ownBlock = some k → wx.heap[k]? = some o → o.isCells = true := fun k o e ho => by
    rcases h.own.2 with ⟨e2, _⟩ | ⟨g, cap, cur, e2, hb, hh, _⟩
    · rw [e2] at e; simp [Value.ownBlock] at e
    · rw [e2] at e; simp [Value.ownBlock] at e; subst e
      rw [hx.block g (Array.getElem?_eq_some_iff.1 hh).1, hh] at ho
      injection ho with ho; subst ho; rfl
  have h7 := rowBelow h.t7 hx
  have h8 := rowBelow h.t8 hx
  have h7' := rowIs_grown h7 hg (fun e => by have := own6 _ e.symm; omega)
  have h8' := rowIs_grown h8 hg (fun e => h.ne e.symm)
  have hl := ownsRow_lt hown
  have hne8 : g1 ≠ b8 := fun e => by
    subst e
    obtain ⟨cs, hh, hsz, hc⟩ := h8'
    rcases hown.2 with ⟨e2, _⟩ | ⟨g, cap, cur, e2, hb, hh2, hcap, _, hcs, htake⟩
    · cases e2
    · injection e2 with e3
      injection e3 with e3
      injection e3 with e3
      subst e3
      rw [hh] at hh2
      injection hh2 with hh2
      injection hh2 with hh2
      subst hh2
      have h1 : ds = [] := List.eq_nil_of_length_eq_zero (by omega)
      subst h1
      have := hc 0 (by decide)
      rw [← Array.getElem?_toList] at this
      cases hl : cs.toList with
      | nil => rw [hl] at this; cases this
      | cons x r =>
        rw [hl] at this htake
        simp at this htake
        subst htake
        injection this with _ this
        omega
  have hmx : Marks (W6.heap.size + 1) Ds wx := h.m.below hx
  have hm1 : Marks (W6.heap.size + 1) Ds w1 := hmx.keep (fun D hD => hg.block D (hmx.lt hD) (fun e => by have := hownc D _ e.symm (hmx.m D hD).2; cases this))
  have hk1 : KeepsOthers W w1 := (KeepsOthers.of_grownBy (grownBy_of_below hx none) (fun j o e => by cases e)).trans (KeepsOthers.of_grownBy hg (fun j o e ho => hownc j o e ho))
  refine ⟨⟨?_, ?_, ?_, ?_, hge, by simp [Value.ownBlock, hne8], ?_⟩, (hk1.trans (KeepsOthers.setCell _ _ _)).trans (KeepsOthers.setCell _ _ _)⟩
  · exact ((((h.b.trans (hx.mono h.b.size)).grown hg (Nat.le_trans h.b.size hx.size) (fun k e => by have := own6 k e; omega)).setCell (p := ⟨W6.heap.size, 0, none⟩) (Nat.le_refl _) _).setCell (p := ⟨b8, 0, none⟩) (by show W6.heap.size ≤ b8; omega) _)
  · have := (h7'.set 0 (.slice (some ⟨g1, 0, none⟩) (ds.length + 1) c1)).setOther (a := ⟨b8, 0, none⟩) (by show W6.heap.size ≠ b8; omega) (.int .i64 (q : Int))
    refine this.congr (fun j hj => ?_)
    obtain rfl : j = 0 := by omega
    simp
  · have := ownsRow_set (ownsRow_set hown ⟨W6.heap.size, 0, none⟩ (.slice (some ⟨g1, 0, none⟩) (ds.length + 1) c1) (by show g1 ≠ W6.heap.size; omega)) ⟨b8, 0, none⟩ (.int .i64 (q : Int)) hne8
    simpa using this
  · have := (h8'.setOther (a := ⟨W6.heap.size, 0, none⟩) (by show b8 ≠ W6.heap.size; omega) (.slice (some ⟨g1, 0, none⟩) (ds.length + 1) c1)).set 0 (.int .i64 (q : Int))
    refine this.congr (fun j hj => ?_)
    obtain rfl : j = 0 := by omega
    simp
  · exact (hm1.setCell (h7'.cell (i := 0) (by decide))).setCell ((h8'.setOther (a := ⟨W6.heap.size, 0, none⟩) (by show b8 ≠ W6.heap.size; omega) (.slice (some ⟨g1, 0, none⟩) (ds.length + 1) c1)).cell (i := 0) (by decide))
set_option maxRecDepth 100000 in
set_option maxHeartbeats 3200000 in
theorem break_any (AL AN AP : Option Addr) (cL cN cP : Nat) (P : PP) (w : World) (S : Sz P) (hR : PPR w w.heap.size AL AN AP P) :
    Calls Try.prog 17 #[.agg #[.slice AL P.lines.length cL, .slice AN P.notes.length cN, .slice AP P.pens.length cP, .int .i64 P.height, .int .i64 P.gap]] w fun e w' => ∃ A c, e = .returned (.tuple #[.slice A (breakL P).length c, .int .i64 (breakC P), .int .i64 (breakE P)]) ∧ IntsR w' w'.heap.size A (breakL P) ∧ Below w.heap.size w w' := by
  have HR := hR.alloc (.cells #[.slice AL P.lines.length cL, .slice AN P.notes.length cN, .slice AP P.pens.length cP, .int .i64 P.height, .int .i64 P.gap] 25)
  have B0 : Below w.heap.size w (w.alloc (.cells #[.slice AL P.lines.length cL, .slice AN P.notes.length cN, .slice AP P.pens.length cP, .int .i64 P.height, .int .i64 P.gap] 25)) := (Below.refl _ _).alloc (Nat.le_refl _) _
  have CK := Lib.hid (check_any AL AN AP cL cN cP P _ S HR)
  obtain ⟨i0, hi, hz0, hz1, hz2⟩ := info_parts int_info
  refine (callsIn_wide (n := 5)).1 ?_
  refine callsIn_of_wp_marks Try.func17 rfl trivial ?_ rfl
  simp only [Try.ntmps17, List.size_toArray, List.length_cons, List.length_nil, Nat.reduceAdd, Nat.reduceSub, Array.replicate_succ, Array.replicate_zero, List.push_toArray, List.append_toArray, List.nil_append, List.cons_append]
  by_cases h0 : chk P = 0
  rotate_left
  · have h0' : (chk P != 0) = true := by simp [h0]
    have HQ := Lib.hid (break_bad h0)
    clear h0
    gi_wp2_with (refine ⟨trivial, ?_⟩; gi_at_call 34; refine (callsIn_wide.2 CK.out).mono ?_; rintro e w1 ⟨rfl, hb1⟩)
    obtain ⟨q1, q2, q3⟩ := HQ.out
    refine ⟨_, results_tmp3 rfl _ _ _, none, 0, ?_⟩
    rw [q1, q2, q3]
    exact ⟨rfl, IntsR.nil, bthen B0 hb1⟩
  have h0' : (chk P != 0) = false := by simp [h0]
  have F := chk_fine h0
  have H0 := Lib.hid h0
  have hln := F.ln
  have HN := Lib.hid (fun w hR => newSums_any AL AN AP cL cN cP P w F hR)
  have HP := Lib.hid (fun g w hR => potentials_any g AL AN AP cL cN cP P w F hR)
  clear h0
  gi_wp2_with (refine ⟨trivial, ?_⟩; gi_at_call 34; refine (callsIn_wide.2 CK.out).mono ?_; rintro e w1 ⟨rfl, hb1⟩; obtain ⟨d0, d1, d2, d3, d4⟩ := box_cells hb1)
  refine ⟨trivial, ?_⟩
  refine (callsIn_wide.2 (HN.out _ (HR.to hb1 hb1.size))).mono ?_
  rintro e w2 ⟨⟨g, rfl, hs2⟩, hb2⟩
  gi_wp2_with fail
  refine ⟨trivial, ?_⟩
  refine (callsIn_wide.2 (HP.out g _ hs2)).mono ?_
  rintro e w3 ⟨⟨rfl, hrow⟩, hb3⟩
  have hcg : w3.cell? ⟨w2.heap.size, 0, none⟩ = some (.int .i64 (pot P 0)) := hrow.cell (by omega)
  have hl3 := hrow.lt
  have B3 := bthen (bthen (bthen B0 hb1) hb2) hb3
  by_cases hp : pot P 0 < 0
  · have HQ := Lib.hid (break_none H0.out hp)
    gi_wp2
    obtain ⟨q1, q2, q3⟩ := HQ.out
    refine ⟨_, results_tmp3 rfl _ _ _, none, 0, ?_⟩
    rw [q1, q2, q3]
    exact ⟨rfl, IntsR.nil, B3.alloc B3.size _⟩
  have HQ := Lib.hid (break_ok H0.out hp)
  have hp0 : 0 ≤ pot P 0 := by omega
  have f0 := kc (bthen hb2 hb3) d0
  have hs3 := hs2.to hb3 hb3.size
  have hbl : w.heap.size < w3.heap.size := World.block_lt_of_cell? w3 _ f0
  clear HR CK hR B0 hb1 hb2 hb3 d0 d1 d2 d3 d4 HN HP hs2
  gi_wp2_with fail
  obtain ⟨W6, hW6⟩ : ∃ W6, w3.alloc (.cells #[.slice (some ⟨w2.heap.size, 0, none⟩) (P.lines.length + 1) (P.lines.length + 1)] 22) = W6 := ⟨_, rfl⟩
  have hz6 : W6.heap.size = w3.heap.size + 1 := by rw [← hW6]; simp
  have B36 : Below w3.heap.size w3 W6 := by rw [← hW6]; exact (Below.refl _ _).alloc (Nat.le_refl _) _
  have c0 := kc B36 f0
  have hs6 := hs3.to B36 B36.size
  have B6 := bthen B3 B36
  have row6 := rowBelow hrow B36
  have c6 : W6.cell? ⟨w3.heap.size, 0, none⟩ = some (.slice (some ⟨w2.heap.size, 0, none⟩) (P.lines.length + 1) (P.lines.length + 1)) := by rw [← hW6]; simp
  have hI0 : InvB W6 0 (W6.heap.size + 1) none 0 [] [] ((W6.alloc (.cells #[.slice none 0 0] 22)).alloc (.cells #[.int .i64 0] 3)) := by
    refine ⟨((Below.refl _ W6).alloc (Nat.le_refl _) _).alloc (by simp) _, ?_, World.ownsRow_nil _ _ _ _, ?_, Nat.le_refl _, by simp [Value.ownBlock], Marks.nil _ _⟩
    · exact (World.rowIs_alloc W6 #[.slice none 0 0] 22 (fun _ => .slice none 0 0) (fun i hi => by
        obtain rfl : i = 0 := by simpa using hi
        rfl)).alloc _
    · have := World.rowIs_alloc (W6.alloc (.cells #[.slice none 0 0] 22)) #[.int .i64 0] 3 (fun _ => .int .i64 0) (fun i hi => by
        obtain rfl : i = 0 := by simpa using hi
        rfl)
      simp only [World.size_alloc] at this
      exact this
  rw [hW6]
  rw [hz6] at hI0
  clear hW6 f0 B36 hs3 B3 hrow hcg
  refine loopG (fun k a wr => ∃ (i b8 : Nat) (A : Option Addr) (c : Nat) (ds : List Int) (Ds : List Nat) (u22 u23 u24 u25 u26 u27 u28 u29 u55 : Value), k = P.lines.length - i ∧ AtB P ds i ∧ InvB W6 i b8 A c ds Ds wr ∧ a = { tmps := #[.agg #[.slice AL P.lines.length cL, .slice AN P.notes.length cN, .slice AP P.pens.length cP, .int .i64 P.height, .int .i64 P.gap], .pointer (some ⟨w.heap.size, 0, none⟩), .slice none 0 0, .int .i64 0, .int .i64 0, .pointer (some ⟨g, 0, none⟩), .pointer (some ⟨w3.heap.size, 0, none⟩), .pointer (some ⟨w3.heap.size + 1, 0, none⟩), .pointer (some ⟨b8, 0, none⟩), undef, undef, .agg #[.slice AL P.lines.length cL, .slice AN P.notes.length cN, .slice AP P.pens.length cP, .int .i64 P.height, .int .i64 P.gap], .int .i64 (chk P), .bool false, .agg #[.slice AL P.lines.length cL, .slice AN P.notes.length cN, .slice AP P.pens.length cP, .int .i64 P.height, .int .i64 P.gap], .pointer (some ⟨g, 0, none⟩), .pointer (some ⟨g, 0, none⟩), .slice (some ⟨w2.heap.size, 0, none⟩) (P.lines.length + 1) (P.lines.length + 1), .slice (some ⟨w2.heap.size, 0, none⟩) (P.lines.length + 1) (P.lines.length + 1), .pointer (some ⟨w2.heap.size, 0, none⟩), .int .i64 (pot P 0), .bool (decide (pot P 0 < 0)), u22, u23, u24, u25, u26, u27, u28, u29, undef, undef, undef, undef, undef, undef, undef, undef, undef, undef, undef, undef, undef, undef, undef, undef, undef, undef, undef, undef, undef, undef, undef, undef, undef, u55, undef, undef, undef, undef], defers := Ds.map mk1 }) P.lines.length ⟨0, _, _, _, _, _, _, _, _, _, _, _, _, _, _, rfl, AtB.start hp0, hI0, rfl⟩ ?_
  rintro k a wr ⟨i, b8, A, c, ds, Ds, u22, u23, u24, u25, u26, u27, u28, u29, u55, hk, hat, hI, rfl⟩ K hK
  clear hI0
  have HI := Lib.hid hI
  have HK := Lib.hid hK
  have Hk := Lib.hid hk
  have e0 := kc hI.b c0
  have e8 : wr.cell? ⟨b8, 0, none⟩ = some (.int .i64 (i : Int)) := hI.t8.cell (by decide)
  have e7 : wr.cell? ⟨w3.heap.size + 1, 0, none⟩ = some (.slice A ds.length c) := by
    have := hI.t7.cell (i := 0) (by decide)
    rwa [hz6] at this
  have e6 := kc hI.b c6
  have hil := hat.i1
  by_cases hin : i < P.lines.length
  rotate_left
  · have e5 := kc hI.b (row6.cell (i := 0) (by omega))
    have HB := Lib.hid (hat.done (by omega))
    clear hI hK hk
    gi_wp2_with fail
    gi_quiet (fail)
    gi_wp2
    have hI := HI.out
    refine leavesM Ds _ (hI.m.below (below_drewN (Below.refl _ _) _)) (fun w' hk => ⟨_, results_tmp3 rfl _ _ _, ?_⟩)
    obtain ⟨q1, q2, q3⟩ := HQ.out
    rw [q1, q2, q3, ← HB.out]
    have hB : Below w.heap.size w wr := bthen B6 hI.b
    have hown : w'.ownsRow (W6.heap.size + 1) 3 1 (.slice A ds.length c) ds.length (ds.map fun x => .int .i64 x) := hk.owns ((OwnS.mk hI.own).drewN _).own
    exact ⟨_, _, rfl, OwnS.row ⟨hown⟩, (below_drewN hB _).trans (hk.b.mono (by have := B6.size; omega))⟩
  · clear hI hK hk
    gi_wp2_with (refine ⟨trivial, ?_⟩; gi_at_call 61; refine (callsIn_wide.2 (pages_any g i _)).mono ?_; rintro e w7 ⟨rfl, rfl⟩)
    obtain ⟨W0, hW0⟩ : ∃ W0, (wr.alloc (.cells #[.pointer (some ⟨g, 0, none⟩)] 71)).alloc (.cells #[.int .i64 (i : Int)] 3) = W0 := ⟨_, rfl⟩
    have hsz : W0.heap.size = wr.heap.size + 2 := by rw [← hW0]; simp
    have cbs : W0.cell? ⟨wr.heap.size, 0, none⟩ = some (.pointer (some ⟨g, 0, none⟩)) := by
      rw [← hW0, World.cell?_alloc_past _ _ _ (by simp), World.cell?_alloc_at _ _ _ _ (by simp)]; rfl
    have cbf : W0.cell? ⟨wr.heap.size + 1, 0, none⟩ = some (.int .i64 (i : Int)) := by
      rw [← hW0, World.cell?_alloc_at _ _ _ _ (by simp)]; rfl
    have hI := HI.out
    have h6r : W6.heap.size < wr.heap.size := hI.t7.lt
    have hQ0 : InvB W6 i b8 A c ds Ds W0 := by
      rw [← hW0]
      exact ⟨(hI.b.alloc (by omega) _).alloc (by simp; omega) _, (hI.t7.alloc _).alloc _, (hI.own.alloc _).alloc _, (hI.t8.alloc _).alloc _, hI.ge, hI.ne, (hI.m.below ((Below.refl _ _).alloc (Nat.le_refl _) _)).below ((Below.refl _ _).alloc (Nat.le_refl _) _)⟩
    have hDs : ∀ D ∈ Ds, D < W0.heap.size := fun D hD => by have := hI.m.lt hD; omega
    have hS0 : SumR W0 W6.heap.size g AL AN AP cL cN cP P := hs6.below hQ0.b
    have hb8 := hI.t8.lt
    have hp := hat.p
    rw [hW0]
    clear hW0 HI hI e0 e8 e7 e6
    refine wpIn_rangeFunc_ownG rfl (by decide) (gf := 94) (lb := #[.pointer (some ⟨wr.heap.size + 1, 0, none⟩), .pointer (some ⟨wr.heap.size, 0, none⟩)]) rfl trivial eg94
      (pages_stops 4 (by decide) g i (wr.heap.size + 1) wr.heap.size W6.heap.size AL AN AP cL cN cP P F hin W0 (by omega) (by omega) (by omega) cbf cbs hS0) Kp2.trans (Kp2.putObj (by omega) (by omega) (by omega)) (Below.refl _ _) (fun _ => rfl)
      (fun (pre : List (PgE P i)) W => ((∀ k ∈ evs pre, okJ P i k = false) ∧ W0.heap.size ≤ W.heap.size) ∧ InvB W6 i b8 A c ds Ds W)
      (fun cd (pre : List (PgE P i)) W => cd = Code.exit 2 ∧ ∃ (ini : List Nat) (q : Nat) (A1 : Option Addr) (c1 : Nat), evs pre = ini ++ [q] ∧ (∀ k ∈ ini, okJ P i k = false) ∧ okJ P i q = true ∧ q ≤ P.lines.length ∧ i < q ∧ InvB W6 q b8 A1 c1 (ds ++ [(q : Int)]) Ds W)
      (fun s A B row hs hg hr => ⟨⟨hs.1.1, Nat.le_trans hs.1.2 hg.size⟩, hs.2.turn hg hr (by omega) hDs⟩)
      (fun cd s A B row hs hg hr => by
        obtain ⟨e1, ini, q, A1, c1, e2, e3, e4, e5, e6, hI⟩ := hs
        exact ⟨e1, ini, q, A1, c1, e2, e3, e4, e5, e6, hI.turn hg hr (by omega) hDs⟩)
      ⟨⟨fun k h => (by cases h), Nat.le_refl _⟩, hQ0⟩
      (fun x => { tmps := #[.agg #[.slice AL P.lines.length cL, .slice AN P.notes.length cN, .slice AP P.pens.length cP, .int .i64 P.height, .int .i64 P.gap], .pointer (some ⟨w.heap.size, 0, none⟩), .slice none 0 0, .int .i64 0, .int .i64 0, .pointer (some ⟨g, 0, none⟩), .pointer (some ⟨w3.heap.size, 0, none⟩), .pointer (some ⟨w3.heap.size + 1, 0, none⟩), .pointer (some ⟨b8, 0, none⟩), .int .i64 (x.1 : Int), .int .i64 (P.pageC i x.1), .agg #[.slice AL P.lines.length cL, .slice AN P.notes.length cN, .slice AP P.pens.length cP, .int .i64 P.height, .int .i64 P.gap], .int .i64 (chk P), .bool false, .agg #[.slice AL P.lines.length cL, .slice AN P.notes.length cN, .slice AP P.pens.length cP, .int .i64 P.height, .int .i64 P.gap], .pointer (some ⟨g, 0, none⟩), .pointer (some ⟨g, 0, none⟩), .slice (some ⟨w2.heap.size, 0, none⟩) (P.lines.length + 1) (P.lines.length + 1), .slice (some ⟨w2.heap.size, 0, none⟩) (P.lines.length + 1) (P.lines.length + 1), .pointer (some ⟨w2.heap.size, 0, none⟩), .int .i64 (pot P 0), .bool (decide (pot P 0 < 0)), .int .i64 (i : Int), .pointer (some ⟨w.heap.size, 0, none⟩), .slice AL P.lines.length cL, .int .i64 P.lines.length, .bool true, .pointer (some ⟨g, 0, none⟩), .int .i64 (i : Int), .func (.func 94) #[] #[.pointer (some ⟨wr.heap.size + 1, 0, none⟩), .pointer (some ⟨wr.heap.size, 0, none⟩)], .int .i64 (x.1 : Int), .int .i64 (P.pageC i x.1), undef, undef, undef, undef, undef, undef, undef, undef, undef, undef, undef, undef, undef, undef, undef, undef, undef, undef, undef, undef, undef, undef, undef, u55, undef, undef, undef, undef], defers := [] }) ?assign ?body ?done ?stop
    case assign =>
      intro l x W K hK
      gi_wp2
      exact hK
    case body =>
      rintro l pre x W ⟨⟨hpre, hW0s⟩, hI⟩ _
      obtain ⟨q, hq1, hq2, hq3⟩ := x
      have hV := pot_bd F q
      have hRb := pot_bd F i
      have hC := F.pageC_bd i q
      have d6 := kc hI.b c6
      have d8 : W.cell? ⟨b8, 0, none⟩ = some (.int .i64 (i : Int)) := hI.t8.cell (by decide)
      have d7 : W.cell? ⟨w3.heap.size + 1, 0, none⟩ = some (.slice A ds.length c) := by
        have := hI.t7.cell (i := 0) (by decide)
        rwa [hz6] at this
      have cq := kc hI.b (row6.cell (i := q) (by omega))
      have ci := kc hI.b (row6.cell (i := i) (by omega))
      obtain ⟨V, hVe⟩ : ∃ V, pot P q = V := ⟨_, rfl⟩
      obtain ⟨R, hRe⟩ : ∃ R, pot P i = R := ⟨_, rfl⟩
      rw [hVe] at cq hV
      rw [hRe] at ci hRb
      have HI := Lib.hid hI
      have HV := Lib.hid hVe
      have HR := Lib.hid hRe
      have HPRE := Lib.hid hpre
      have i1 : (0 : Int) ≤ (i : Int) := by omega
      have i2 : (i : Int) < (P.lines.length : Int) + 1 := by omega
      have j1 : (0 : Int) ≤ (q : Int) := by omega
      have j2 : (q : Int) < (P.lines.length : Int) + 1 := by omega
      have HSUM := Lib.hid (show IntKind.i64.wrap (P.pageC i q + V) = P.pageC i q + V by rw [IntKind.wrap_i64]; omega)
      have hskip : ∀ nq, okJ P i q = false → KeepsFrom W0.heap.size W (W.drewN nq) ∧ Kp2 W6.heap.size (wr.heap.size + 1) wr.heap.size W (W.drewN nq) ∧ ((∀ k ∈ evs (pre ++ [(⟨q, hq1, hq2, hq3⟩ : PgE P i)]), okJ P i k = false) ∧ W0.heap.size ≤ (W.drewN nq).heap.size) ∧ InvB W6 i b8 A c ds Ds (W.drewN nq) := by
        intro nq e
        have hb := below_drewN (Below.refl W.heap.size W) nq
        refine ⟨(KeepsOthers.of_grownBy (grownBy_of_below hb none) (fun j o e => by cases e)).from _, ⟨below_drewN (Below.refl _ W) nq, ?_, ?_⟩, ⟨fun k hk => ?_, Nat.le_trans hW0s hb.size⟩, ⟨below_drewN hI.b nq, rowBelow hI.t7 hb, ((OwnS.mk hI.own).drewN _).own, rowBelow hI.t8 hb, hI.ge, hI.ne, hI.m.below hb⟩⟩
        · exact hb.block _ (by omega)
        · exact hb.block _ (by omega)
        · rw [evs_snoc, List.mem_append, List.mem_singleton] at hk
          rcases hk with h | rfl
          · exact hpre k h
          · exact e
      have HK1 := Lib.hid hskip
      have hmx : Try.prog.follows .mixedOrders = true := by kernel_rfl
      clear hVe hRe hI hskip hpre hsz cbs cbf hS0 hQ0 hDs
      dsimp only
      by_cases hv : V < 0
      · have b1 : decide (0 ≤ V) = false := by simpa using hv
        have okf := Lib.hid (show okJ P i q = false by unfold okJ; rw [HV.out, b1]; simp)
        gi_wp2
        refine quiet_round (by kernel_rfl) (by kernel_rfl) (by kernel_rfl) ?_
        repeat (gi_big_quiet_step (fail))
        refine wpQuietIn_nil ?_
        intro _ hw'
        obtain ⟨nq, hw''⟩ := hw'
        subst hw''
        gi_wp2
        exact HK1.out _ okf.out
      have b1 : decide (0 ≤ V) = true := by simpa using hv
      by_cases he : P.pageC i q + V = R
      · have b2 : (P.pageC i q + V == R) = true := by simp [he]
        have okt := Lib.hid (show okJ P i q = true from okJ_iff.2 ⟨hq3, by rw [HV.out]; omega, by rw [HV.out, HR.out]; exact he⟩)
        clear he
        have hsum := HSUM.out
        gi_wp2
        refine quiet_round (by kernel_rfl) (by kernel_rfl) (by kernel_rfl) ?_
        repeat (gi_big_quiet_step (fail))
        refine wpQuietIn_nil ?_
        intro _ hw'
        obtain ⟨nq, hw''⟩ := hw'
        subst hw''
        clear hsum
        have hbn := below_drewN (Below.refl W.heap.size W) nq
        obtain ⟨W4, hW4⟩ : ∃ W4, W.drewN nq = W4 := ⟨_, rfl⟩
        rw [hW4] at hbn
        rw [hW4]
        have hI4 := HI.out.below hbn
        have HK4 := Lib.hid (KeepsOthers.of_grownBy (grownBy_of_below hbn none) (fun j o e => by cases e))
        have hlen := hat.len
        have hown4 := hI4.own
        have hsz4 := hI4.b.size
        have hl7 := hI4.t7.lt
        have k7 : W4.cell? ⟨w3.heap.size + 1, 0, none⟩ = some (.slice A ds.length c) := by
          have := hI4.t7.cell (i := 0) (by decide)
          rwa [hz6] at this
        clear hW4 hbn d6 d7 d8 cq ci
        gi_wp2_with (gi_at_builtin; refine wpListIn_append_own_at _ rfl _ _ 22 rfl (W6.heap.size + 1) 3 i0 (.int .i64 0) 1 8 Try.underlying22 hi hz0 hz1 hz2 rfl (by decide) _ ds.length _ rfl (hown4.alloc _) ⟨W4.heap.size, 0, none⟩ 1 1 [.int .i64 (q : Int)] rfl rfl (cell_one_new _ _ _) (by simp [Value.oneCell']) (by simp only [maxLen]; omega) (by omega) (by simp; omega) ?_; intro v' w8 hown' hgrow _ _; obtain ⟨g1, c1, rfl⟩ := ownsRow_succ hown'; have hxa := (Below.refl W4.heap.size W4).alloc (Nat.le_refl _) (.cells #[.int .i64 (q : Int)] 3); have r7 := rowIs_grown (rowBelow hI4.t7 hxa) hgrow (fun e => by have := hI4.own6 e.symm; omega); have r8 := rowIs_grown (rowBelow hI4.t8 hxa) hgrow (fun e => hI4.ne e.symm); rw [hz6] at r7; have m7 := r7.cell (i := 0) (by decide); have f7 := r7.frozen 0; have r9 := r8.setOther (a := ⟨w3.heap.size + 1, 0, none⟩) (by have := hI4.ge; show b8 ≠ w3.heap.size + 1; omega) (.slice (some ⟨g1, 0, none⟩) (ds.length + 1) c1); have m8 := r9.cell (i := 0) (by decide); have f8 := r9.frozen 0)
        obtain ⟨hI5, hK5⟩ := hI4.take hxa hq1 hown' hgrow
        rw [hz6] at hI5 hK5
        exact ⟨(HK4.out.trans hK5).from _, rfl, evs pre, q, _, c1, evs_snoc _ _, HPRE.out, okt.out, hq2, hq1, hI5⟩
      · have b2 : (P.pageC i q + V == R) = false := by simp [he]
        have okf := Lib.hid (show okJ P i q = false by unfold okJ; rw [HV.out, HR.out]; simp [he])
        clear he
        have hsum := HSUM.out
        gi_wp2
        refine quiet_round (by kernel_rfl) (by kernel_rfl) (by kernel_rfl) ?_
        repeat (gi_big_quiet_step (fail))
        refine wpQuietIn_nil ?_
        intro _ hw'
        obtain ⟨nq, hw''⟩ := hw'
        subst hw''
        clear hsum
        gi_wp2
        exact HK1.out _ okf.out
    case done =>
      rintro D ys W hD hys ⟨⟨hpre, _⟩, hI⟩ hk
      exact (none_of hin hp (fun k hk => hpre k (by rw [show evs ys = pgL P i (P.lines.length - i) from hys]; exact hk))).elim
    case stop =>
      rintro D cd pre W hD ⟨m, hm, hys⟩ ⟨rfl, ini, q, A1, c1, e1, e2, e3, e4, e5, hI⟩ hk
      have hnx : nextJ P i = some q := nextJ_of (show ini ++ [q] = pgL P i m by rw [← e1]; exact hys) e4 e2 e3
      have d8 : W.cell? ⟨b8, 0, none⟩ = some (.int .i64 (q : Int)) := hI.t8.cell (by decide)
      have HIN := Lib.hid hI
      have HNX := Lib.hid hnx
      clear hI hnx hys e1 e2 e3
      gi_wp2
      have hI := HIN.out
      refine HK.out (P.lines.length - q) _ _ (by have := Hk.out; omega) ⟨q, W.heap.size, A1, c1, ds ++ [(q : Int)], D :: Ds, _, _, _, _, _, _, _, _, _, rfl, hat.step hin HNX.out, ⟨hI.b.alloc hI.b.size _, hI.t7.alloc _, hI.own.alloc _, ?_, by have := hI.t7.lt; omega, ?_, ?_⟩, rfl⟩
      · exact World.rowIs_alloc W #[.int .i64 (q : Int)] 3 (fun _ => .int .i64 (q : Int)) (fun k hk => by
          obtain rfl : k = 0 := by simpa using hk
          rfl)
      · rcases hI.own.2 with ⟨e, _⟩ | ⟨g', cap, cur, e, _, hh, _⟩
        · rw [e]; simp [Value.ownBlock]
        · have := (Array.getElem?_eq_some_iff.1 hh).1
          rw [e]; simp [Value.ownBlock]; omega
      · have hDl := (Array.getElem?_eq_some_iff.1 hk).1
        refine ⟨List.nodup_cons.2 ⟨fun h => by have := hDs D h; omega, hI.m.nd⟩, fun D' hD' => ?_⟩
        rcases List.mem_cons.1 hD' with rfl | h
        · exact ⟨by omega, (Go.Deep.blk_alloc_lt _ _ _ hDl).trans hk⟩
        · exact ⟨(hI.m.m D' h).1, (Go.Deep.blk_alloc_lt _ _ _ (hI.m.lt h)).trans (hI.m.m D' h).2⟩
end Go.Proofs.Ytemlljgldkkkgaa
