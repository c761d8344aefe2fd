/- newSums: the sums of a page problem are made. Condition: the problem passes the check. -/
import Derived.Test.YtemlljgldkkkgaaSums
import Derived.Deep.OwnRows
import Derived.Deep.AppendLies
import Derived.Deep.RegionHeld3
import Derived.BigRegion
import Derived.Deep.RegionLaw
import Derived.Deep.DeepCutAuto
import Derived.Deep.CutRange
import Derived.StillTailTactics
import Derived.Test.YtemlljgldkkkgaaRef7
namespace Go.Proofs.Ytemlljgldkkkgaa
open Go.RowKit Go.Shelf
theorem rows_info : (Try.prog.info? 22).map (fun i => (i.zero, i.size, i.bytes)) = some (some (.slice none 0 0), 1, 24) := by kernel_rfl
def slT (P : PP) (n : Nat) : List Value := (List.range n).map fun j => .int .i64 (P.sl j)
def snT (P : PP) (q n : Nat) : List Value := (List.range n).map fun j => .int .i64 (P.sn q j)
theorem slT_succ (P : PP) (n : Nat) : slT P (n + 1) = slT P n ++ [.int .i64 (P.sl n)] := by simp [slT, List.range_succ]
theorem snT_succ (P : PP) (q n : Nat) : snT P q (n + 1) = snT P q n ++ [.int .i64 (P.sn q n)] := by simp [snT, List.range_succ]
theorem slT_at {P : PP} {n j : Nat} (h : j < n) : (slT P n)[j]? = some (.int .i64 (P.sl j)) := by simp [slT, h]
theorem snT_at {P : PP} {q n j : Nat} (h : j < n) : (snT P q n)[j]? = some (.int .i64 (P.sn q j)) := by simp [snT, h]
def pC (AL AN AP : Option Addr) (cL cN cP : Nat) (P : PP) : Nat → Value
  | 0 => .slice AL P.lines.length cL
  | 1 => .slice AN P.notes.length cN
  | 2 => .slice AP P.pens.length cP
  | 3 => .int .i64 P.height
  | _ => .int .i64 P.gap
def sC (AL AN AP : Option Addr) (cL cN cP : Nat) (P : PP) (v5 v6 : Value) : Nat → Value
  | 5 => v5
  | 6 => v6
  | 0 => .slice AL P.lines.length cL
  | 1 => .slice AN P.notes.length cN
  | 2 => .slice AP P.pens.length cP
  | 3 => .int .i64 P.height
  | _ => .int .i64 P.gap
abbrev sl0 (g n c : Nat) : Value := .slice (some ⟨g, 0, none⟩) n c
theorem grownBy_setCell (w : World) (a : Addr) (v : Value) : w.grownBy (w.setCell a v) (some a.block) := by
  refine ⟨rfl, rfl, rfl, by simp, fun k hk hne => Go.Deep.blk_setCell_other _ _ _ _ (fun e => hne (by rw [e]))⟩
theorem rowIs_grown {w w' : World} {b n : Nat} {t : TypeId} {f : Nat → Value} {row : Option Nat} (h : w.rowIs b t n f) (hg : w.grownBy w' row) (hne : some b ≠ row) : w'.rowIs b t n f := h.of_block (hg.block b h.lt hne)
theorem ownsRow_set {w : World} {base : Nat} {e : TypeId} {size n c g : Nat} {xs : List Value} (h : w.ownsRow base e size (sl0 g n c) n xs) (a : Addr) (v : Value) (hne : g ≠ a.block) : (w.setCell a v).ownsRow base e size (sl0 g n c) n xs :=
  h.kept (grownBy_setCell w a v) (.inr (by simp [Value.ownBlock, hne]))
theorem ownsRow_lt {w : World} {base : Nat} {e : TypeId} {size n c g : Nat} {xs : List Value} (h : w.ownsRow base e size (sl0 g n c) n xs) : base ≤ g ∧ g < w.heap.size := by
  rcases h.2 with ⟨hn, _⟩ | ⟨g', cap, cur, he, hb, hh, _⟩
  · cases hn
  · injection he with e1
    injection e1 with e1
    injection e1 with e1
    subst e1
    exact ⟨hb, (Array.getElem?_eq_some_iff.1 hh).1⟩
theorem keepA {w : World} {a : Addr} {v : Value} (o : Obj) (h : w.cell? a = some v ∧ w.frozen? a = false) : (w.alloc o).drew.cell? a = some v ∧ (w.alloc o).drew.frozen? a = false := by
  have hlt := World.block_lt_of_cell? w _ h.1
  have e := Go.Deep.blk_alloc_lt w o a.block hlt
  exact ⟨(World.cell?_of_block (w := w) (w' := w.alloc o) e).trans h.1, (World.frozen?_of_block (w := w) (w' := w.alloc o) e).trans h.2⟩
theorem keepB {w : World} {a : Addr} {v : Value} (o : Obj) (h : w.cell? a = some v ∧ w.frozen? a = false) : (w.drew.alloc o).cell? a = some v ∧ (w.drew.alloc o).frozen? a = false := keepA o h
theorem far_cell {w wx w1 : World} {row : Option Nat} {a : Addr} {v : Value} (hb : Below w.heap.size w wx) (hg : wx.grownBy w1 row) (hlt : a.block < w.heap.size) (hne : some a.block ≠ row) (hc : w.cell? a = some v) : w1.cell? a = some v :=
  (hg.cell_far a (by have := hb.size; omega) hne).trans ((hb.cell hlt).trans hc)
theorem far_frozen {w wx w1 : World} {row : Option Nat} {a : Addr} (hb : Below w.heap.size w wx) (hg : wx.grownBy w1 row) (hlt : a.block < w.heap.size) (hne : some a.block ≠ row) (hc : w.frozen? a = false) : w1.frozen? a = false :=
  (hg.frozen_far a (by have := hb.size; omega) hne).trans ((hb.frozen hlt).trans hc)
/-- the sums while they are made: block G holds the problem, G + 2 the sums, G + 3 the rows; gl is the block of the lines' sums, gb q that of block q's -/
structure SW (w0 wr : World) (G : Nat) (AL AN AP : Option Addr) (cL cN cP : Nat) (P : PP) (gl cl nl : Nat) (gb cb nb : Nat → Nat) : Prop where
  b : Below G w0 wr
  p : wr.rowIs G 25 5 (pC AL AN AP cL cN cP P)
  s : wr.rowIs (G + 2) 111 7 (sC AL AN AP cL cN cP P (sl0 gl nl cl) (sl0 (G + 3) (nbk P) (nbk P)))
  r : wr.rowIs (G + 3) 22 (nbk P) (fun q => sl0 (gb q) (nb q) (cb q))
  ol : wr.ownsRow (G + 1) 3 1 (sl0 gl nl cl) nl (slT P nl)
  ob : ∀ q, q < nbk P → wr.ownsRow (G + 1) 3 1 (sl0 (gb q) (nb q) (cb q)) (nb q) (snT P q (nb q))
  gl2 : gl ≠ G + 2
  gl3 : gl ≠ G + 3
  gb1 : ∀ q, q < nbk P → gb q ≠ G + 2 ∧ gb q ≠ G + 3 ∧ gb q ≠ gl
  inj : ∀ q c, q < nbk P → c < nbk P → q ≠ c → gb q ≠ gb c
section
variable {w0 wr : World} {G : Nat} {AL AN AP : Option Addr} {cL cN cP : Nat} {P : PP} {gl cl nl : Nat} {gb cb nb : Nat → Nat}
theorem SW.app_l (h : SW w0 wr G AL AN AP cL cN cP P gl cl nl gb cb nb) {wx w1 : World} (hb : Below wr.heap.size wr wx) (hg : wx.grownBy w1 (some gl)) {g1 c1 : Nat}
    (ho : w1.ownsRow (G + 1) 3 1 (sl0 g1 (nl + 1) c1) (nl + 1) (slT P (nl + 1))) (hat : some gl = some g1 ∨ g1 = wx.heap.size) :
    SW w0 (w1.setCell ⟨G + 2, 5, none⟩ (sl0 g1 (nl + 1) c1)) G AL AN AP cL cN cP P g1 c1 (nl + 1) gb cb nb := by
  have lt := fun (k : Nat) (hk : k < wr.heap.size) => Nat.lt_of_lt_of_le hk hb.size
  have hp := h.p.lt
  have hs := h.s.lt
  have hr := h.r.lt
  have hol := ownsRow_lt h.ol
  have hgl2 := h.gl2
  have hgl3 := h.gl3
  have hbs := hb.size
  have hg1 : g1 = gl ∨ wr.heap.size ≤ g1 := by
    rcases hat with e | e
    · left; injection e with e; exact e.symm
    · right; omega
  have hgx := grownBy_of_below hb (some gl)
  refine ⟨?_, ?_, ?_, ?_, ?_, ?_, ?_, ?_, ?_, h.inj⟩
  · exact (((h.b.trans (hb.mono (by omega))).grown hg (by omega) (fun k hk => by injection hk with hk; omega))).setCell (p := ⟨G + 2, 5, none⟩) (by simp) _
  · exact (rowIs_grown (rowBelow h.p hb) hg (by simp; omega)).setOther (by simp) _
  · refine ((rowIs_grown (rowBelow h.s hb) hg (by simp; omega)).set 5 (sl0 g1 (nl + 1) c1)).congr (fun i hi => ?_)
    match i, hi with
    | 0, _ => rfl
    | 1, _ => rfl
    | 2, _ => rfl
    | 3, _ => rfl
    | 4, _ => rfl
    | 5, _ => rfl
    | 6, _ => rfl
    | k + 7, hi => omega
  · exact (rowIs_grown (rowBelow h.r hb) hg (by simp; omega)).setOther (by simp) _
  · exact ownsRow_set ho _ _ (by show g1 ≠ G + 2; omega)
  · intro q hq
    have h1 := h.gb1 q hq
    have h2 := h.ob q hq
    have h3 := ownsRow_lt h2
    exact ownsRow_set (((h2.kept (grownBy_of_below hb none) (.inr (by simp [Value.ownBlock]))).kept hg (.inr (by simp [Value.ownBlock]; omega)))) _ _ h1.1
  · omega
  · omega
  · intro q hq
    have h1 := h.gb1 q hq
    have h3 := ownsRow_lt (h.ob q hq)
    refine ⟨h1.1, h1.2.1, ?_⟩
    omega
theorem SW.app_b (h : SW w0 wr G AL AN AP cL cN cP P gl cl nl gb cb nb) {q : Nat} (hq : q < nbk P) {wx w1 : World} (hb : Below wr.heap.size wr wx) (hg : wx.grownBy w1 (some (gb q))) {g1 c1 : Nat}
    (ho : w1.ownsRow (G + 1) 3 1 (sl0 g1 (nb q + 1) c1) (nb q + 1) (snT P q (nb q + 1))) (hat : some (gb q) = some g1 ∨ g1 = wx.heap.size) :
    SW w0 (w1.setCell ⟨G + 3, q, none⟩ (sl0 g1 (nb q + 1) c1)) G AL AN AP cL cN cP P gl cl nl (fun j => if j = q then g1 else gb j) (fun j => if j = q then c1 else cb j) (fun j => if j = q then nb q + 1 else nb j) := by
  have hp := h.p.lt
  have hs := h.s.lt
  have hr := h.r.lt
  have hol := ownsRow_lt h.ol
  have hgl2 := h.gl2
  have hgl3 := h.gl3
  have hbs := hb.size
  have hq0 := ownsRow_lt (h.ob q hq)
  have hq1 := h.gb1 q hq
  have hg1 : g1 = gb q ∨ wr.heap.size ≤ g1 := by
    rcases hat with e | e
    · left; injection e with e; exact e.symm
    · right; omega
  refine ⟨?_, ?_, ?_, ?_, ?_, ?_, hgl2, hgl3, ?_, ?_⟩
  · exact (((h.b.trans (hb.mono (by omega))).grown hg (by omega) (fun k hk => by injection hk with hk; omega))).setCell (p := ⟨G + 3, q, none⟩) (by simp) _
  · exact (rowIs_grown (rowBelow h.p hb) hg (by simp; omega)).setOther (by simp) _
  · exact (rowIs_grown (rowBelow h.s hb) hg (by simp; omega)).setOther (by simp) _
  · refine ((rowIs_grown (rowBelow h.r hb) hg (by simp; omega)).set q (sl0 g1 (nb q + 1) c1)).congr (fun i hi => ?_)
    by_cases e : i = q
    · simp [e]
    · simp [e]
  · exact ownsRow_set (((h.ol.kept (grownBy_of_below hb none) (.inr (by simp [Value.ownBlock]))).kept hg (.inr (by simp [Value.ownBlock]; omega)))) _ _ hgl3
  · intro j hj
    by_cases e : j = q
    · subst e
      simp only [if_true]
      exact ownsRow_set ho _ _ (by show g1 ≠ G + 3; omega)
    · simp only [if_neg e]
      have h2 := h.ob j hj
      have h4 := h.inj j q hj hq e
      exact ownsRow_set (((h2.kept (grownBy_of_below hb none) (.inr (by simp [Value.ownBlock]))).kept hg (.inr (by simp [Value.ownBlock]; omega)))) _ _ (h.gb1 j hj).2.1
  · intro j hj
    by_cases e : j = q
    · simp only [if_pos e]
      omega
    · simp only [if_neg e]
      exact h.gb1 j hj
  · intro j c hj hc hne
    have a1 := (ownsRow_lt (h.ob j hj)).2
    have a2 := (ownsRow_lt (h.ob c hc)).2
    by_cases e : j = q
    · have e2 : c ≠ q := fun e2 => hne (by rw [e, e2])
      have := h.inj q c hq hc (fun e3 => e2 e3.symm)
      simp only [if_pos e, if_neg e2]
      omega
    · by_cases e2 : c = q
      · have := h.inj j q hj hq e
        simp only [if_neg e, if_pos e2]
        omega
      · simp only [if_neg e, if_neg e2]
        exact h.inj j c hj hc hne
theorem SW.congr (h : SW w0 wr G AL AN AP cL cN cP P gl cl nl gb cb nb) {nb' : Nat → Nat} (e : ∀ q, q < nbk P → nb q = nb' q) : SW w0 wr G AL AN AP cL cN cP P gl cl nl gb cb nb' :=
  ⟨h.b, h.p, h.s, h.r.congr (fun q hq => by rw [e q hq]), h.ol, fun q hq => by have := h.ob q hq; rw [e q hq] at this; exact this, h.gl2, h.gl3, h.gb1, h.inj⟩
theorem SW.pcell (h : SW w0 wr G AL AN AP cL cN cP P gl cl nl gb cb nb) : wr.cell? ⟨G, 0, none⟩ = some (.slice AL P.lines.length cL) ∧ wr.cell? ⟨G, 1, none⟩ = some (.slice AN P.notes.length cN) :=
  ⟨h.p.cell (by decide), h.p.cell (by decide)⟩
theorem SW.scell (h : SW w0 wr G AL AN AP cL cN cP P gl cl nl gb cb nb) : wr.cell? ⟨G + 2, 5, none⟩ = some (sl0 gl nl cl) ∧ wr.cell? ⟨G + 2, 6, none⟩ = some (sl0 (G + 3) (nbk P) (nbk P)) :=
  ⟨h.s.cell (by decide), h.s.cell (by decide)⟩
theorem SW.lcell (h : SW w0 wr G AL AN AP cL cN cP P gl cl nl gb cb nb) {j : Nat} (hj : j < nl) : wr.cell? ⟨gl, j, none⟩ = some (.int .i64 (P.sl j)) := by
  have := h.ol.cells (g := gl) rfl j _ (slT_at hj)
  rwa [Addr.add_lit, Nat.zero_add] at this
theorem SW.bcell (h : SW w0 wr G AL AN AP cL cN cP P gl cl nl gb cb nb) {q j : Nat} (hq : q < nbk P) (hj : j < nb q) : wr.cell? ⟨gb q, j, none⟩ = some (.int .i64 (P.sn q j)) := by
  have := (h.ob q hq).cells (g := gb q) rfl j _ (snT_at hj)
  rwa [Addr.add_lit, Nat.zero_add] at this
theorem SW.done (h : SW w0 wr G AL AN AP cL cN cP P gl cl (P.lines.length + 1) gb cb nb) (hG : G = w0.heap.size) (hn : ∀ q, q < nbk P → nb q = P.lines.length + 1) (hp : PPR w0 w0.heap.size AL AN AP P) : SumR wr wr.heap.size (G + 2) AL AN AP cL cN cP P := by
  subst hG
  refine ⟨h.s.lt, h.s.cell (by decide), h.s.cell (by decide), h.s.cell (by decide), h.s.cell (by decide), h.s.cell (by decide), ?_, ?_, hp.to h.b h.b.size⟩
  · exact ⟨gl, 0, cl, h.scell.1, (ownsRow_lt h.ol).2, fun j hj => by rw [Nat.zero_add]; exact h.lcell (by omega)⟩
  · refine ⟨_, _, h.scell.2, fun q hq => ⟨_, 0, gb q, 0, cb q, rfl, h.r.lt, ?_, (ownsRow_lt (h.ob q hq)).2, fun j hj => by rw [Nat.zero_add]; exact h.bcell hq (by rw [hn q hq]; omega)⟩⟩
    have := h.r.cell (i := q) hq
    rw [Nat.zero_add, this, hn q hq]
end
/-- the rows while they are laid: q of them are there -/
structure S1 (w0 wr : World) (G : Nat) (AL AN AP : Option Addr) (cL cN cP : Nat) (P : PP) (q : Nat) : Prop where
  b : Below G w0 wr
  sz : wr.heap.size = G + 4 + q
  p : wr.rowIs G 25 5 (pC AL AN AP cL cN cP P)
  z0 : wr.heap[G + 1]? = some (.cells #[.int .i64 0] 3 (0, 0))
  s : wr.rowIs (G + 2) 111 7 (sC AL AN AP cL cN cP P (sl0 (G + 1) 1 1) (sl0 (G + 3) (nbk P) (nbk P)))
  r : wr.rowIs (G + 3) 22 (nbk P) (fun j => if j < q then sl0 (G + 4 + j) 1 1 else .slice none 0 0)
  z : ∀ j, j < q → wr.heap[G + 4 + j]? = some (.cells #[.int .i64 0] 3 (0, 0))
theorem owns_zero {w : World} {base g : Nat} (hb : base ≤ g) (h : w.heap[g]? = some (.cells #[.int .i64 0] 3 (0, 0))) : w.ownsRow base 3 1 (sl0 g 1 1) 1 [.int .i64 0] :=
  ⟨rfl, .inr ⟨g, 1, _, rfl, hb, h, Nat.le_refl _, by decide, rfl, rfl⟩⟩
section
variable {w0 wr : World} {G : Nat} {AL AN AP : Option Addr} {cL cN cP : Nat} {P : PP} {q : Nat}
theorem S1.step (h : S1 w0 wr G AL AN AP cL cN cP P q) : S1 w0 ((wr.setCell ⟨G + 3, q, none⟩ (sl0 wr.heap.size 1 1)).alloc (.cells #[.int .i64 0] 3)) G AL AN AP cL cN cP P (q + 1) := by
  have hs := h.sz
  refine ⟨(h.b.setCell (p := ⟨G + 3, q, none⟩) (by simp) _).alloc (by simp; omega) _, by simp; omega, (h.p.setOther (by simp) _).alloc _, ?_, (h.s.setOther (by simp) _).alloc _, ?_, ?_⟩
  · rw [Go.Deep.blk_alloc_lt _ _ _ (by simp; omega), Go.Deep.blk_setCell_other _ _ _ _ (by simp)]; exact h.z0
  · refine ((h.r.set q (sl0 wr.heap.size 1 1)).alloc _).congr (fun j hj => ?_)
    by_cases e : j = q
    · rw [if_pos e, if_pos (by omega), hs, e]
    · rw [if_neg e]
      by_cases e2 : j < q
      · rw [if_pos e2, if_pos (by omega)]
      · rw [if_neg e2, if_neg (by omega)]
  · intro j hj
    by_cases e : j = q
    · have := Go.Deep.blk_alloc_new (wr.setCell ⟨G + 3, q, none⟩ (sl0 wr.heap.size 1 1)) (.cells #[.int .i64 0] 3)
      rw [World.size_setCell, hs] at this
      rw [e, hs]; exact this
    · rw [Go.Deep.blk_alloc_lt _ _ _ (by simp; omega), Go.Deep.blk_setCell_other _ _ _ _ (by show G + 4 + j ≠ G + 3; omega)]; exact h.z j (by omega)
theorem S1.done (h : S1 w0 wr G AL AN AP cL cN cP P (nbk P)) : SW w0 wr G AL AN AP cL cN cP P (G + 1) 1 1 (fun j => G + 4 + j) (fun _ => 1) (fun j => if j < 0 then 2 else 1) := by
  refine ⟨h.b, h.p, h.s, h.r.congr (fun j hj => by rw [if_pos hj]; rfl), owns_zero (Nat.le_refl _) h.z0, fun j hj => owns_zero (by omega) (h.z j hj), by omega, by omega, fun j hj => ⟨by omega, by omega, by omega⟩, fun j c _ _ hne => by omega⟩
end
theorem S1.start {AL AN AP : Option Addr} {cL cN cP : Nat} {P : PP} (w : World) : S1 w ((((w.alloc (.cells #[.slice AL P.lines.length cL, .slice AN P.notes.length cN, .slice AP P.pens.length cP, .int .i64 P.height, .int .i64 P.gap] 25)).alloc (.cells #[.int .i64 0] 3)).alloc (.cells #[.slice AL P.lines.length cL, .slice AN P.notes.length cN, .slice AP P.pens.length cP, .int .i64 P.height, .int .i64 P.gap, .slice (some ⟨w.heap.size + 1, 0, none⟩) 1 1, .slice (some ⟨w.heap.size + 1 + 1 + 1, 0, none⟩) (nbk P) (nbk P)] 111)).alloc (.cells (madeCells #[.slice none 0 0] (nbk P)) 22)) w.heap.size AL AN AP cL cN cP P 0 := by
  refine ⟨((((Below.refl _ w).alloc (Nat.le_refl _) _).alloc (by simp) _).alloc (by simp; omega) _).alloc (by simp; omega) _, by simp, ?_, ?_, ?_, ?_, fun j hj => by omega⟩
  · have := World.rowIs_alloc w #[.slice AL P.lines.length cL, .slice AN P.notes.length cN, .slice AP P.pens.length cP, .int .i64 P.height, .int .i64 P.gap] 25 (pC AL AN AP cL cN cP P) (fun i hi => by
      match i, hi with
      | 0, _ => rfl
      | 1, _ => rfl
      | 2, _ => rfl
      | 3, _ => rfl
      | 4, _ => rfl
      | k + 5, hi => simp at hi; omega)
    exact ((this.alloc _).alloc _).alloc _
  · rw [Go.Deep.blk_alloc_lt _ _ _ (by simp), Go.Deep.blk_alloc_lt _ _ _ (by simp)]
    have := Go.Deep.blk_alloc_new (w.alloc (.cells #[.slice AL P.lines.length cL, .slice AN P.notes.length cN, .slice AP P.pens.length cP, .int .i64 P.height, .int .i64 P.gap] 25)) (.cells #[.int .i64 0] 3)
    simpa using this
  · have := World.rowIs_alloc ((w.alloc (.cells #[.slice AL P.lines.length cL, .slice AN P.notes.length cN, .slice AP P.pens.length cP, .int .i64 P.height, .int .i64 P.gap] 25)).alloc (.cells #[.int .i64 0] 3)) #[.slice AL P.lines.length cL, .slice AN P.notes.length cN, .slice AP P.pens.length cP, .int .i64 P.height, .int .i64 P.gap, .slice (some ⟨w.heap.size + 1, 0, none⟩) 1 1, .slice (some ⟨w.heap.size + 1 + 1 + 1, 0, none⟩) (nbk P) (nbk P)] 111 (sC AL AN AP cL cN cP P (sl0 (w.heap.size + 1) 1 1) (sl0 (w.heap.size + 3) (nbk P) (nbk P))) (fun i hi => by
      match i, hi with
      | 0, _ => rfl
      | 1, _ => rfl
      | 2, _ => rfl
      | 3, _ => rfl
      | 4, _ => rfl
      | 5, _ => rfl
      | 6, _ => rfl
      | k + 7, hi => simp at hi; omega)
    simp only [World.size_alloc] at this
    exact this.alloc _
  · have := World.rowIs_made (((w.alloc (.cells #[.slice AL P.lines.length cL, .slice AN P.notes.length cN, .slice AP P.pens.length cP, .int .i64 P.height, .int .i64 P.gap] 25)).alloc (.cells #[.int .i64 0] 3)).alloc (.cells #[.slice AL P.lines.length cL, .slice AN P.notes.length cN, .slice AP P.pens.length cP, .int .i64 P.height, .int .i64 P.gap, .slice (some ⟨w.heap.size + 1, 0, none⟩) 1 1, .slice (some ⟨w.heap.size + 1 + 1 + 1, 0, none⟩) (nbk P) (nbk P)] 111)) (.slice none 0 0) (nbk P) 22
    simp only [World.size_alloc] at this
    exact this.congr (fun j _ => by rw [if_neg (by omega)])
set_option maxRecDepth 100000 in
set_option maxHeartbeats 3200000 in
theorem newSums_any (AL AN AP : Option Addr) (cL cN cP : Nat) (P : PP) (w : World) (F : Fine P) (hR : PPR w w.heap.size AL AN AP P) :
    Calls Try.prog 59 #[.agg #[.slice AL P.lines.length cL, .slice AN P.notes.length cN, .slice AP P.pens.length cP, .int .i64 P.height, .int .i64 P.gap]] w fun e w' => (∃ g, e = .returned (.pointer (some ⟨g, 0, none⟩)) ∧ SumR w' w'.heap.size g AL AN AP cL cN cP P) ∧ Below w.heap.size w w' := by
  have hln := F.ln
  have hnl := F.nl
  have hB := F.blocks
  obtain ⟨i0, hi, hz0, hz1, hz2⟩ := info_parts int_info
  by_cases c0 : P.notes.length = 0
  · have n0 : ¬ 0 < P.notes.length := by omega
    have n1 : ¬ 0 < P.lines.length := by omega
    have HN := Lib.hid (show P.lines.length = 0 by omega)
    have HK := Lib.hid (show nbk P = 0 by unfold nbk; rw [List.eq_nil_of_length_eq_zero c0]; rfl)
    have hR3 := ((hR.alloc (.cells #[.slice AL P.lines.length cL, .slice AN P.notes.length cN, .slice AP P.pens.length cP, .int .i64 P.height, .int .i64 P.gap] 25)).alloc (.cells #[.int .i64 0] 3)).alloc (.cells #[.slice AL P.lines.length cL, .slice AN P.notes.length cN, .slice AP P.pens.length cP, .int .i64 P.height, .int .i64 P.gap, .slice (some ⟨w.heap.size + 1, 0, none⟩) 1 1, .slice none 0 0] 111)
    have B3 : Below w.heap.size w (((w.alloc (.cells #[.slice AL P.lines.length cL, .slice AN P.notes.length cN, .slice AP P.pens.length cP, .int .i64 P.height, .int .i64 P.gap] 25)).alloc (.cells #[.int .i64 0] 3)).alloc (.cells #[.slice AL P.lines.length cL, .slice AN P.notes.length cN, .slice AP P.pens.length cP, .int .i64 P.height, .int .i64 P.gap, .slice (some ⟨w.heap.size + 1, 0, none⟩) 1 1, .slice none 0 0] 111)) := ((((Below.refl _ w).alloc (Nat.le_refl _) _).alloc (by simp) _).alloc (by simp; omega) _)
    have S3 : SumR (((w.alloc (.cells #[.slice AL P.lines.length cL, .slice AN P.notes.length cN, .slice AP P.pens.length cP, .int .i64 P.height, .int .i64 P.gap] 25)).alloc (.cells #[.int .i64 0] 3)).alloc (.cells #[.slice AL P.lines.length cL, .slice AN P.notes.length cN, .slice AP P.pens.length cP, .int .i64 P.height, .int .i64 P.gap, .slice (some ⟨w.heap.size + 1, 0, none⟩) 1 1, .slice none 0 0] 111)) (w.heap.size + 3) (w.heap.size + 1 + 1) AL AN AP cL cN cP P := by
      have e5 := HN.out
      have e6 := HK.out
      refine ⟨by omega, ?_, ?_, ?_, ?_, ?_, ⟨w.heap.size + 1, 0, 1, ?_, by omega, fun j hj => ?_⟩, ⟨none, 0, ?_, fun q hq => by omega⟩, by simpa using hR3⟩
      · rw [World.cell?_alloc_at _ _ _ _ (by simp)]; rfl
      · rw [World.cell?_alloc_at _ _ _ _ (by simp)]; rfl
      · rw [World.cell?_alloc_at _ _ _ _ (by simp)]; rfl
      · rw [World.cell?_alloc_at _ _ _ _ (by simp)]; rfl
      · rw [World.cell?_alloc_at _ _ _ _ (by simp)]; rfl
      · rw [World.cell?_alloc_at _ _ _ _ (by simp), e5]; rfl
      · obtain rfl : j = 0 := by omega
        rw [World.cell?_alloc_past _ _ _ (by simp), World.cell?_alloc_at _ _ _ _ (by simp)]; rfl
      · rw [World.cell?_alloc_at _ _ _ _ (by simp), e6]; rfl
    obtain ⟨W3, hW3⟩ : ∃ W3, (((w.alloc (.cells #[.slice AL P.lines.length cL, .slice AN P.notes.length cN, .slice AP P.pens.length cP, .int .i64 P.height, .int .i64 P.gap] 25)).alloc (.cells #[.int .i64 0] 3)).alloc (.cells #[.slice AL P.lines.length cL, .slice AN P.notes.length cN, .slice AP P.pens.length cP, .int .i64 P.height, .int .i64 P.gap, .slice (some ⟨w.heap.size + 1, 0, none⟩) 1 1, .slice none 0 0] 111)) = W3 := ⟨_, rfl⟩
    have k0 : W3.cell? ⟨w.heap.size, 0, none⟩ = some (.slice AL P.lines.length cL) := by
      rw [← hW3, World.cell?_alloc_past _ _ _ (by simp; omega), World.cell?_alloc_past _ _ _ (by simp), World.cell?_alloc_at _ _ _ _ rfl]; rfl
    have sz : w.heap.size + 3 ≤ W3.heap.size := by rw [← hW3]; simp
    rw [hW3] at S3 B3
    have HW3 := Lib.hid hW3
    clear hW3 hR3 hR c0 hnl
    go_enter Try.func59, Try.ntmps59
    go_wp2_with fail
    rw [HW3.out]
    clear HW3
    go_loopw [31] (fun i wr => wr = W3 ∧ i = .int .i64 0) (fun _ _ => 0)
    case atStart => exact ⟨rfl, rfl⟩
    case round =>
      obtain ⟨rfl, rfl⟩ := hrel
      go_wp2_with fail
      go_loopw [45] (fun i w' => w' = wr ∧ i = .int .i64 0) (fun _ _ => 0)
      case atStart => exact ⟨rfl, rfl⟩
      case round =>
        obtain ⟨rfl, rfl⟩ := hrel
        go_wp2
        go_ret
        exact ⟨⟨_, rfl, S3.more sz⟩, B3⟩
  have n0 : 0 < P.notes.length := by omega
  have n1 : P.lines.length ≤ P.notes.length := by omega
  obtain ⟨bN, oN, AiN, ciN, hAN, hbN, hcN, _⟩ := hR.n 0 n0
  have hAN2 := hAN
  subst hAN
  rw [← nbk_eq n0] at hcN
  simp only [Nat.add_zero] at hcN
  have hmk := run_make_row' (P := Try.prog) 23 22 (.slice none 0 0) 24 Try.underlying23 rows_info rfl .i64 .i64 (nbk P) (by omega) (by omega)
  clear hAN2 hnl c0
  have hbN1 : bN < w.heap.size + 1 := by omega
  have hbN2 : bN < w.heap.size + 1 + 1 := by omega
  go_enter Try.func59, Try.ntmps59
  go_wp2_with fail
  have HS0 := S1.start (AL := AL) (AN := some ⟨bN, oN, none⟩) (AP := AP) (cL := cL) (cN := cN) (cP := cP) (P := P) w
  obtain ⟨W3, hW3⟩ : ∃ W3, (((w.alloc (.cells #[.slice AL P.lines.length cL, .slice (some ⟨bN, oN, none⟩) P.notes.length cN, .slice AP P.pens.length cP, .int .i64 P.height, .int .i64 P.gap] 25)).alloc (.cells #[.int .i64 0] 3)).alloc (.cells #[.slice AL P.lines.length cL, .slice (some ⟨bN, oN, none⟩) P.notes.length cN, .slice AP P.pens.length cP, .int .i64 P.height, .int .i64 P.gap, .slice (some ⟨w.heap.size + 1, 0, none⟩) 1 1, .slice (some ⟨w.heap.size + 1 + 1 + 1, 0, none⟩) (nbk P) (nbk P)] 111)).alloc (.cells (madeCells #[.slice none 0 0] (nbk P)) 22) = W3 := ⟨_, rfl⟩
  rw [hW3] at HS0 ⊢
  clear hW3 hmk hbN1 hbN2
  go_loopw [31] (fun i wr => ∃ q : Nat, i = .int .i64 q ∧ q ≤ nbk P ∧ S1 w wr w.heap.size AL (some ⟨bN, oN, none⟩) AP cL cN cP P q) (fun i _ => nbk P - (intOf i).toNat)
  case atStart => exact ⟨0, rfl, Nat.zero_le _, HS0⟩
  case round =>
    obtain ⟨q, rfl, hq, hS⟩ := hrel
    clear HS0
    have h6 : wr.cell? ⟨w.heap.size + 1 + 1, 6, none⟩ = some (.slice (some ⟨w.heap.size + 1 + 1 + 1, 0, none⟩) (nbk P) (nbk P)) := hS.s.cell (by decide)
    by_cases hqn : q < nbk P
    · have h7 : ∃ v, wr.cell? ⟨w.heap.size + 1 + 1 + 1, q, none⟩ = some v := ⟨_, hS.r.cell hqn⟩
      obtain ⟨v7, h7⟩ := h7
      have h8 : wr.frozen? ⟨w.heap.size + 1 + 1 + 1, q, none⟩ = false := hS.r.frozen q
      have hlt3 : w.heap.size + 1 + 1 + 1 < wr.heap.size := hS.r.lt
      have HS := Lib.hid hS.step
      clear hS
      go_wp2
      go_roundw
      case rel => exact ⟨q + 1, by go_num, by omega, HS.out⟩
      case measure => simp [intOf]; omega
    · obtain rfl : q = nbk P := by omega
      have HS := hS.done
      have p0 : wr.cell? ⟨w.heap.size, 0, none⟩ = some (.slice AL P.lines.length cL) := hS.p.cell (by decide)
      clear hS
      go_wp2_with fail
      clear h6 p0
      go_loopw [45] (fun i wr => ∃ (k gl cl : Nat) (gb cb : Nat → Nat), i = .int .i64 k ∧ k ≤ P.lines.length ∧ SW w wr w.heap.size AL (some ⟨bN, oN, none⟩) AP cL cN cP P gl cl (k + 1) gb cb (fun _ => k + 1)) (fun i _ => P.lines.length - (intOf i).toNat)
      case atStart => exact ⟨0, _, _, _, _, rfl, Nat.zero_le _, HS.congr (fun q _ => by simp)⟩
      case round =>
        clear HS
        obtain ⟨k, gl, cl, gb, cb, rfl, hk, hS⟩ := hrel
        by_cases hkn : k < P.lines.length
        · have s5 : wr.cell? ⟨w.heap.size + 1 + 1, 5, none⟩ = some (.slice (some ⟨gl, 0, none⟩) (k + 1) cl) := hS.scell.1
          have f5 : wr.frozen? ⟨w.heap.size + 1 + 1, 5, none⟩ = false := hS.s.frozen 5
          have hlk : wr.cell? ⟨gl, k, none⟩ = some (.int .i64 (P.sl k)) := hS.lcell (j := k) (by omega)
          have hlts : w.heap.size + 1 + 1 < wr.heap.size := hS.s.lt
          have hne2 : ¬ w.heap.size + 1 + 1 = gl := fun e => hS.gl2 e.symm
          obtain ⟨bL, oL, rfl, hbL, hcL⟩ := (hR.to hS.b hS.b.size).line_at hkn
          have l1 := F.line_bd k
          have l2 := F.sl_bd (i := k) (by omega)
          have ho := Lib.hid hS.ol
          have HW := Lib.hid (show IntKind.i64.wrap (P.sl k + P.line k) = P.sl (k + 1) by rw [IntKind.wrap_i64]; unfold PP.sl at *; simp only [sumTo]; omega)
          have i1 : (0 : Int) ≤ (k : Int) := by omega
          have i2 : (k : Int) < (k : Int) + 1 := by omega
          go_upto_region 12 with (fail)
          go_cut [45] from 45 to 101 (fun s45 wx => s45 = .int .i64 (k : Int) ∧ ∃ gl cl, SW w wx w.heap.size (some ⟨bL, oL, none⟩) (some ⟨bN, oN, none⟩) AP cL cN cP P gl cl (k + 1 + 1) gb cb (fun _ => k + 1))
          case first =>
            go_region_law (refine step_append_lies _ (by rfl) _ _ _ (by rfl) (w.heap.size + 1) 3 i0 (.int .i64 0) 1 8 Try.underlying22 hi hz0 hz1 hz2 rfl (by decide) _ (k + 1) (slT P (k + 1)) (by rfl) (World.ownsRow.alloc (w := wr) ho.out _) _ 1 1 [.int .i64 (IntKind.i64.wrap (P.sl k + P.line k))] (by rfl) (by rfl) (World.news_of_block (B := wr.heap.size) (cs := #[.int .i64 (IntKind.i64.wrap (P.sl k + P.line k))]) (t := 3) (fr := (0, 0)) (heap_alloc_new wr _)) (by simp [Value.oneCell']) (by decide) (by simp only [maxLen]; omega) (by omega) (by simp; omega) _ rfl ?_; intro g1 c1 w1 hown hgrow hat hlt; have hbx := ((Below.refl _ wr).alloc (Nat.le_refl _) (.cells #[.int .i64 (IntKind.i64.wrap (P.sl k + P.line k))] 3)).drew; have k5 := far_cell (w := wr) (a := ⟨w.heap.size + 1 + 1, 5, none⟩) hbx hgrow hlts (by simpa [Value.ownBlock] using hne2) s5; have kf := far_frozen (w := wr) (a := ⟨w.heap.size + 1 + 1, 5, none⟩) hbx hgrow hlts (by simpa [Value.ownBlock] using hne2) f5)
            all_goals (go_wp2_with fail; go_meet; exact ⟨rfl, g1, c1, hS.app_l hbx hgrow (by rw [slT_succ, ← HW.out]; exact hown) (by simpa [Value.ownBlock] using hat)⟩)
          case rest =>
          obtain ⟨rfl, gl2, cl2, HL5⟩ := hcut
          clear hS ho s5 f5 hlk hlts hne2 l1 l2 HW hcL i1 i2
          have k6 : wc.cell? ⟨w.heap.size + 1 + 1, 6, none⟩ = some (.slice (some ⟨w.heap.size + 1 + 1 + 1, 0, none⟩) (nbk P) (nbk P)) := HL5.scell.2
          go_wp2_with fail
          clear k6
          go_loopw [73] (fun j wr => ∃ (q gl cl : Nat) (gb cb : Nat → Nat), j = .int .i64 q ∧ q ≤ nbk P ∧ SW w wr w.heap.size (some ⟨bL, oL, none⟩) (some ⟨bN, oN, none⟩) AP cL cN cP P gl cl (k + 1 + 1) gb cb (fun j => if j < q then k + 1 + 1 else k + 1)) (fun j _ => nbk P - (intOf j).toNat)
          case atStart => exact ⟨0, _, _, _, _, rfl, Nat.zero_le _, HL5.congr (fun q _ => by simp)⟩
          case round =>
            clear HL5 gl2 cl2 gl cl gb cb
            obtain ⟨q, gl, cl, gb, cb, rfl, hq, hS⟩ := hrel
            by_cases hqn : q < nbk P
            · obtain ⟨bN', oN', A2, ci2, hA2, hbl2, hc2, hcells⟩ := hR.row_at F hkn
              injection hA2 with hA2
              injection hA2 with e1 e2
              subst e1 e2
              obtain ⟨b3, o3, rfl, hb3, hc3⟩ := hcells q hqn
              clear hcells
              have c1 : wr.cell? ⟨w.heap.size, 1, none⟩ = some (.slice (some ⟨bN, oN, none⟩) P.notes.length cN) := hS.p.cell (by decide)
              have c2 := (hS.b.cell (p := ⟨bN, oN + k, none⟩) hbl2).trans hc2
              have c3 := (hS.b.cell (p := ⟨b3, o3 + q, none⟩) hb3).trans hc3
              have c4 : wr.cell? ⟨w.heap.size + 1 + 1, 6, none⟩ = some (.slice (some ⟨w.heap.size + 1 + 1 + 1, 0, none⟩) (nbk P) (nbk P)) := hS.scell.2
              have c5 : wr.cell? ⟨w.heap.size + 1 + 1 + 1, q, none⟩ = some (.slice (some ⟨gb q, 0, none⟩) (k + 1) (cb q)) := by
                have := hS.r.cell hqn
                simpa using this
              have c6 : wr.cell? ⟨gb q, k, none⟩ = some (.int .i64 (P.sn q k)) := hS.bcell hqn (by simp)
              have f5 : wr.frozen? ⟨w.heap.size + 1 + 1 + 1, q, none⟩ = false := hS.r.frozen q
              have l1 := F.note_bd q k
              have l2 := F.sn_bd q (i := k) (by omega)
              have HW := Lib.hid (show IntKind.i64.wrap (P.sn q k + P.note q k) = P.sn q (k + 1) by rw [IntKind.wrap_i64]; unfold PP.sn at *; simp only [sumTo]; omega)
              have hb0 := hS.b.size
              have t1 := hS.p.lt
              have t2 := hS.s.lt
              have t3 := hS.r.lt
              have t4 := hS.gb1 q hqn
              have ho : Hid (wr.ownsRow (w.heap.size + 1) 3 1 (sl0 (gb q) (k + 1) (cb q)) (k + 1) (snT P q (k + 1))) := by
                have := hS.ob q hqn
                simpa [Hid] using this
              have t5 := ownsRow_lt ho.out
              have n1 : ¬ w.heap.size = gb q := by omega
              have n2 : ¬ bN = gb q := by omega
              have n3 : ¬ b3 = gb q := by omega
              have n4 : ¬ w.heap.size + 1 + 1 = gb q := by omega
              have n5 : ¬ w.heap.size + 1 + 1 + 1 = gb q := by omega
              have m2 : w.heap.size + 1 + 1 + 1 ≠ bN := by omega
              have m3 : w.heap.size + 1 + 1 + 1 ≠ b3 := by omega
              have m1 : w.heap.size + 1 + 1 + 1 ≠ w.heap.size := by omega
              have m4 : w.heap.size + 1 + 1 + 1 ≠ w.heap.size + 1 + 1 := by omega
              have r2 : bN < wr.heap.size := by omega
              have r3 : b3 < wr.heap.size := by omega
              have i1 : (0 : Int) ≤ (k : Int) := by omega
              have i2 : (k : Int) < (k : Int) + 1 := by omega
              have i3 : (k : Int) < (P.notes.length : Int) := by omega
              have i4 : (0 : Int) ≤ (q : Int) := by omega
              have i5 : (q : Int) < (nbk P : Int) := by omega
              go_wp2_with fail
              go_region_law (refine step_append_lies _ (by rfl) _ _ _ (by rfl) (w.heap.size + 1) 3 i0 (.int .i64 0) 1 8 Try.underlying22 hi hz0 hz1 hz2 rfl (by decide) _ (k + 1) (snT P q (k + 1)) (by rfl) (World.ownsRow.alloc (w := wr) ho.out _) _ 1 1 [.int .i64 (IntKind.i64.wrap (P.sn q k + P.note q k))] (by rfl) (by rfl) (World.news_of_block (B := wr.heap.size) (cs := #[.int .i64 (IntKind.i64.wrap (P.sn q k + P.note q k))]) (t := 3) (fr := (0, 0)) (heap_alloc_new wr _)) (by simp [Value.oneCell']) (by decide) (by simp only [maxLen]; omega) (by omega) (by simp; omega) _ rfl ?_; intro g1 c1' w1 hown hgrow hat hlt; have hbx := ((Below.refl _ wr).alloc (Nat.le_refl _) (.cells #[.int .i64 (IntKind.i64.wrap (P.sn q k + P.note q k))] 3)).drew; have q4 := far_cell (w := wr) hbx hgrow t2 (by simpa [Value.ownBlock] using n4) c4; have q5 := far_cell (w := wr) hbx hgrow t3 (by simpa [Value.ownBlock] using n5) c5; have q6 := far_frozen (w := wr) (a := ⟨w.heap.size + 1 + 1 + 1, q, none⟩) hbx hgrow t3 (by simpa [Value.ownBlock] using n5) f5)
              all_goals
                have HL := Lib.hid (SW.congr (nb' := fun j => if j < q + 1 then k + 1 + 1 else k + 1) (by have := hS.app_b hqn hbx hgrow (g1 := g1) (c1 := c1') (by simp only [Nat.lt_irrefl, if_false]; rw [snT_succ, ← HW.out]; exact hown) (by simpa [Value.ownBlock] using hat); simp only [Nat.lt_irrefl, if_false] at this; exact this) (fun j hj => by
                  by_cases e : j = q
                  · rw [if_pos e, if_pos (by omega)]
                  · rw [if_neg e]
                    by_cases e2 : j < q
                    · rw [if_pos e2, if_pos (by omega)]
                    · rw [if_neg e2, if_neg (by omega)]))
                clear hS ho c1 c2 c3 c4 c5 c6 f5 l1 l2 HW t1 t2 t3 t4 t5 n1 n2 n3 n4 n5 m1 m2 m3 m4 r2 r3 i1 i2 i3 i4 i5 q4 q5 q6 hown hgrow hat hlt hbx
                go_wp2
                go_roundw
                case rel => exact ⟨q + 1, _, _, _, _, by go_num, by omega, HL.out⟩
                case measure => simp [intOf]; omega
            · go_wp2
              go_roundw
              case rel => exact ⟨k + 1, _, _, _, _, by go_num, by omega, hS.congr (fun j hj => by rw [if_pos (by omega)])⟩
              case measure => simp [intOf]; omega
        · go_wp2
          go_ret
          obtain rfl : k = P.lines.length := by omega
          exact ⟨⟨_, rfl, hS.done rfl (fun _ _ => rfl) hR⟩, hS.b⟩
end Go.Proofs.Ytemlljgldkkkgaa
