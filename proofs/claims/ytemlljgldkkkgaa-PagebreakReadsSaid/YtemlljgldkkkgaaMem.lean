/- Small words for memory used by all contracts of this seat: a slice value reads as a list of values below a block number; kept by every world that agrees below it; append onto a row of the call's own. No condition. -/
import Derived.WalkKit
import Derived.WalkLawsBesides
import Derived.WalkSpells
import Derived.Lib.Hide
import Derived.Deep.Draws
import Derived.Deep.QuietTactic
import Derived.BigQuiet
import Derived.Deep.LoopGhost
import Derived.Deep.DeepFit
import Derived.Maps.AppendAt
import Derived.Deep.AppendLies
namespace Go.Proofs.Ytemlljgldkkkgaa
open Go.RowKit

/-- A slice with address A reads as the cells vs; all of them lie below block B. -/
def Row (w : World) (B : Nat) (A : Option Addr) (vs : List Value) : Prop :=
  ∀ k v, vs[k]? = some v → ∃ b o, A = some ⟨b, o, none⟩ ∧ b < B ∧ w.cell? ⟨b, o + k, none⟩ = some v

/-- A slice of ints. -/
def IntsR (w : World) (B : Nat) (A : Option Addr) (xs : List Int) : Prop := Row w B A (xs.map fun x => .int .i64 x)

/-- A slice of slices of ints. -/
def RowsR (w : World) (B : Nat) (A : Option Addr) (xss : List (List Int)) : Prop :=
  ∀ k (h : k < xss.length), ∃ b o Ai ci, A = some ⟨b, o, none⟩ ∧ b < B ∧ w.cell? ⟨b, o + k, none⟩ = some (.slice Ai (xss[k]'h).length ci) ∧ IntsR w B Ai (xss[k]'h)

section
variable {w w' : World} {B B' : Nat} {A : Option Addr} {vs : List Value} {xs : List Int} {xss : List (List Int)}
theorem Row.nil : Row w B A [] := fun k v h => by simp at h
theorem Row.keep (h : Row w B A vs) (hk : ∀ b o, b < B → w'.cell? ⟨b, o, none⟩ = w.cell? ⟨b, o, none⟩) : Row w' B A vs := fun k v hv => by
  obtain ⟨b, o, hA, hb, hc⟩ := h k v hv
  exact ⟨b, o, hA, hb, (hk b _ hb).trans hc⟩
theorem Row.more (h : Row w B A vs) (hB : B ≤ B') : Row w B' A vs := fun k v hv => by
  obtain ⟨b, o, hA, hb, hc⟩ := h k v hv
  exact ⟨b, o, hA, by omega, hc⟩
theorem Row.below (h : Row w B A vs) (hb : Below B w w') : Row w' B A vs := h.keep fun b o hlt => hb.cell (p := ⟨b, o, none⟩) hlt
theorem Row.to (h : Row w B A vs) (hb : Below B w w') (hs : B ≤ B') : Row w' B' A vs := (h.below hb).more hs
theorem Row.at_ (h : Row w B A vs) {k : Nat} (hk : k < vs.length) : ∃ b o, A = some ⟨b, o, none⟩ ∧ b < B ∧ w.cell? ⟨b, o + k, none⟩ = some vs[k] :=
  h k _ (List.getElem?_eq_getElem hk)
/-- The cells in the form that append asks for. -/
theorem Row.news (h : Row w B A vs) {ad : Addr} (hA : A = some ad) : ∀ j u, vs[j]? = some u → w.cell? (ad.add j) = some u := fun j u hu => by
  obtain ⟨b, o, hA', _, hc⟩ := h j u hu
  rw [hA] at hA'
  injection hA' with e
  subst e
  rw [Addr.add_lit]
  exact hc
theorem Row.none_nil (h : Row w B none vs) : vs = [] := by
  cases vs with
  | nil => rfl
  | cons v r =>
    obtain ⟨b, o, hA, _⟩ := h 0 v rfl
    cases hA
theorem IntsR.nil : IntsR w B A [] := Row.nil
theorem IntsR.keep (h : IntsR w B A xs) (hk : ∀ b o, b < B → w'.cell? ⟨b, o, none⟩ = w.cell? ⟨b, o, none⟩) : IntsR w' B A xs := Row.keep h hk
theorem IntsR.below (h : IntsR w B A xs) (hb : Below B w w') : IntsR w' B A xs := Row.below h hb
theorem IntsR.more (h : IntsR w B A xs) (hB : B ≤ B') : IntsR w B' A xs := Row.more h hB
theorem IntsR.to (h : IntsR w B A xs) (hb : Below B w w') (hs : B ≤ B') : IntsR w' B' A xs := Row.to h hb hs
theorem IntsR.at_ (h : IntsR w B A xs) {k : Nat} (hk : k < xs.length) : ∃ b o, A = some ⟨b, o, none⟩ ∧ b < B ∧ w.cell? ⟨b, o + k, none⟩ = some (.int .i64 xs[k]) := by
  have := Row.at_ h (k := k) (by simpa using hk)
  simpa using this
theorem IntsR.of (h : ∀ k (hk : k < xs.length), ∃ b o, A = some ⟨b, o, none⟩ ∧ b < B ∧ w.cell? ⟨b, o + k, none⟩ = some (.int .i64 xs[k])) : IntsR w B A xs := fun k v hv => by
  have hk : k < xs.length := by
    rcases Nat.lt_or_ge k xs.length with hlt | hge
    · exact hlt
    · rw [List.getElem?_eq_none (by simpa using hge)] at hv; cases hv
  obtain ⟨b, o, h1, h2, h3⟩ := h k hk
  refine ⟨b, o, h1, h2, h3.trans ?_⟩
  rw [← hv, List.getElem?_map, List.getElem?_eq_getElem hk]
  rfl
theorem RowsR.keep (h : RowsR w B A xss) (hk : ∀ b o, b < B → w'.cell? ⟨b, o, none⟩ = w.cell? ⟨b, o, none⟩) : RowsR w' B A xss := fun k hlt => by
  obtain ⟨b, o, Ai, ci, hA, hb, hc, hr⟩ := h k hlt
  exact ⟨b, o, Ai, ci, hA, hb, (hk b _ hb).trans hc, hr.keep hk⟩
theorem RowsR.more (h : RowsR w B A xss) (hB : B ≤ B') : RowsR w B' A xss := fun k hlt => by
  obtain ⟨b, o, Ai, ci, hA, hb, hc, hr⟩ := h k hlt
  exact ⟨b, o, Ai, ci, hA, by omega, hc, hr.more hB⟩
theorem RowsR.below (h : RowsR w B A xss) (hb : Below B w w') : RowsR w' B A xss := h.keep fun b o hlt => hb.cell (p := ⟨b, o, none⟩) hlt
theorem RowsR.to (h : RowsR w B A xss) (hb : Below B w w') (hs : B ≤ B') : RowsR w' B' A xss := (h.below hb).more hs
theorem RowsR.nil : RowsR w B A [] := fun k h => absurd h (by simp)
end
theorem bcell {W w1 : World} (hb : Below W.heap.size W w1) : (∀ b o, b < W.heap.size → w1.cell? ⟨b, o, none⟩ = W.cell? ⟨b, o, none⟩) ∧ (∀ b o, b < W.heap.size → w1.frozen? ⟨b, o, none⟩ = W.frozen? ⟨b, o, none⟩) :=
  ⟨fun b o h => hb.cell (p := ⟨b, o, none⟩) h, fun b o h => hb.frozen (p := ⟨b, o, none⟩) h⟩
/-- A known cell is still known in a world that agrees below. -/
theorem kc {w w' : World} {p : Addr} {v : Value} (hb : Below w.heap.size w w') (hc : w.cell? p = some v) : w'.cell? p = some v :=
  (hb.cell (World.block_lt_of_cell? w _ hc)).trans hc
theorem ret_int {k : IntKind} {a b : Int} (h : a = b) : Ending.returned (.int k a) = .returned (.int k b) := by rw [h]
theorem ret_bool {a b : Bool} (h : a = b) : Ending.returned (.bool a) = .returned (.bool b) := by rw [h]

/-- A predicate handed over as a function value: called in every world that agrees below w's size, it returns r, and leaves all that was there. -/
def Pred (P : Program) (g : Nat) (lb : Array Value) (w : World) (args : Array Value) (r : Bool) : Prop :=
  ∀ W : World, Below w.heap.size w W → Calls P g (args ++ lb) W fun e w' => e = .returned (.bool r) ∧ Below W.heap.size W w'

/-! ### rows of the call's own -/
/-- v is a slice that the call owns from block base on, holding the cells vs (size cells an element of type e). -/
structure OwnS (w : World) (base : Nat) (e : TypeId) (size : Nat) (A : Option Addr) (n c : Nat) (vs : List Value) : Prop where
  own : w.ownsRow base e size (.slice A n c) n vs

section
variable {w w' : World} {base : Nat} {e : TypeId} {size n c : Nat} {A : Option Addr} {vs : List Value}
theorem OwnS.nil (w : World) (base : Nat) (e : TypeId) (size : Nat) : OwnS w base e size none 0 0 [] := ⟨World.ownsRow_nil w base e size⟩
theorem OwnS.row (h : OwnS w base e size A n c vs) : Row w w.heap.size A vs := fun k v hv => by
  rcases h.own.2 with ⟨he, hn⟩ | ⟨g, cap, cur, he, hb, hh, _⟩
  · have := h.own.1
    subst hn
    have : vs = [] := List.eq_nil_of_length_eq_zero (by omega)
    subst this
    simp at hv
  · have hA : A = some ⟨g, 0, none⟩ := by injection he
    subst hA
    have hlt : g < w.heap.size := (Array.getElem?_eq_some_iff.1 hh).1
    have := h.own.cells (g := g) rfl k v hv
    rw [Addr.add_lit] at this
    exact ⟨g, 0, rfl, hlt, this⟩
theorem OwnS.form (h : OwnS w base e size A n c vs) : (A = none ∧ n = 0 ∧ c = 0) ∨ ∃ g, A = some ⟨g, 0, none⟩ ∧ base ≤ g ∧ g < w.heap.size ∧ n ≤ c := by
  rcases h.own.2 with ⟨he, hn⟩ | ⟨g, cap, cur, he, hb, hh, hc, _⟩
  · injection he with h1 h2 h3
    exact .inl ⟨h1, h2, h3⟩
  · injection he with h1 h2 h3
    subst h3
    exact .inr ⟨g, h1, hb, (Array.getElem?_eq_some_iff.1 hh).1, hc⟩
theorem OwnS.kept {row : Option Nat} (h : OwnS w base e size A n c vs) (hg : w.grownBy w' row) (hne : ∀ g, A = some ⟨g, 0, none⟩ → row ≠ some g) : OwnS w' base e size A n c vs := by
  refine ⟨h.own.kept hg ?_⟩
  rcases h.form with ⟨rfl, _⟩ | ⟨g, rfl, _⟩
  · exact .inl rfl
  · exact .inr (fun e => hne g rfl (by rw [← e]; rfl))
theorem OwnS.alloc (h : OwnS w base e size A n c vs) (o : Obj) : OwnS (w.alloc o) base e size A n c vs := ⟨h.own.alloc o⟩
theorem OwnS.drew (h : OwnS w base e size A n c vs) : OwnS w.drew base e size A n c vs := ⟨h.own⟩
theorem OwnS.drewN (h : OwnS w base e size A n c vs) (k : Nat) : OwnS (w.drewN k) base e size A n c vs := ⟨h.own⟩
theorem grownBy_of_below (h : Below w.heap.size w w') (row : Option Nat) : w.grownBy w' row := ⟨h.os, h.tape, h.output, h.size, fun i hi _ => h.block i hi⟩
theorem OwnS.below (h : OwnS w base e size A n c vs) (hb : Below w.heap.size w w') : OwnS w' base e size A n c vs :=
  h.kept (grownBy_of_below hb none) (fun g _ hh => by cases hh)
/-- What follows from an append's growth for what lay below. -/
theorem OwnS.belowGrown {w0 : World} {B0 : Nat} (h : OwnS w base e size A n c vs) (hb : Below B0 w0 w) (hB : B0 ≤ base) (hw : B0 ≤ w.heap.size) (hg : w.grownBy w' (Value.ownBlock (.slice A n c))) : Below B0 w0 w' :=
  hb.grown hg hw (fun k hk => by have := (h.own.lt k hk).1; omega)
end

section
variable {P : Program} (w : World)
theorem run_app_nil (base : Nat) (t ty e : TypeId) (i : TypeInfo) (size : Nat) (ht : P.underlying t = some (.slice e)) (hi : P.info? e = some i)
    (v : Value) (n : Nat) (xs : List Value) (hown : w.ownsRow base e size v n xs) (c : Nat) : (Builtin.append_ #[t, t] ty #[v, .slice none 0 c]).run P w = .ok v w := by
  rcases hown.2 with ⟨rfl, rfl⟩ | ⟨g, cap, cur, rfl, _, _, hnc, _⟩
  · simp [Builtin.append_, run_underlying ht, sizeOf, typeInfo, hi, Builtin.lenOf, Builtin.firstCells]
  · simp [Builtin.append_, run_underlying ht, sizeOf, typeInfo, hi, Builtin.lenOf, Builtin.firstCells, hnc, storeCells]

/-- append onto a row of the call's own; the source reads as news (nil too). -/
theorem run_app (base : Nat) (t ty e : TypeId) (i : TypeInfo) (z : Value) (size bytes : Nat) (ht : P.underlying t = some (.slice e)) (hi : P.info? e = some i) (hz : i.zero = some z)
    (hsize : i.size = size) (hby : i.bytes = bytes) (hzs : z.cells.size = size) (hsz : 0 < size)
    (A : Option Addr) (n c : Nat) (xs : List Value) (hown : OwnS w base e size A n c xs)
    (B : Nat) (A2 : Option Addr) (m c2 : Nat) (news : List Value) (hl : news.length = m * size) (hr : Row w B A2 news) (h1 : ∀ u ∈ news, u.oneCell' = true)
    (h63 : n + m ≤ maxLen) (hbytes : (n + m) * bytes ≤ 140737488355328) (hbase : base ≤ w.heap.size) :
    ∃ A' c' w', (Builtin.append_ #[t, t] ty #[.slice A n c, .slice A2 m c2]).run P w = .ok (.slice A' (n + m) c') w' ∧ OwnS w' base e size A' (n + m) c' (xs ++ news) ∧ w.grownBy w' (Value.ownBlock (.slice A n c)) ∧
      (A' = A ∨ A' = some ⟨w.heap.size, 0, none⟩) := by
  rcases A2 with _ | ad
  · have hn : news = [] := hr.none_nil
    subst hn
    have hm : m = 0 := by
      simp only [List.length_nil] at hl
      rcases Nat.eq_zero_or_pos m with h | h
      · exact h
      · have := Nat.mul_pos h hsz; omega
    subst hm
    exact ⟨A, c, w, run_app_nil w base t ty e i size ht hi _ n xs hown.own c2, by simpa using hown, World.grownBy.refl w _, .inl rfl⟩
  · obtain ⟨v', w', hrun, h2, h3, _, h5⟩ := run_append_own_at (P := P) w base t ty e i z size bytes ht hi hz hsize hby hzs hsz _ n xs hown.own ad m c2 news hl (hr.news rfl) h1 h63 hbytes hbase
    have hf : ∃ A' c', v' = .slice A' (n + m) c' := by
      rcases h2.2 with ⟨rfl, h0⟩ | ⟨g, cap, cur, rfl, _⟩
      · exact ⟨none, 0, by rw [h0]⟩
      · exact ⟨_, _, rfl⟩
    obtain ⟨A', c', rfl⟩ := hf
    refine ⟨A', c', w', hrun, ⟨h2⟩, h3, ?_⟩
    have hA' := (OwnS.mk h2).form
    have hA := hown.form
    rcases h5 with h5 | h5
    · left
      rcases hA' with ⟨rfl, _⟩ | ⟨g', rfl, _⟩ <;> rcases hA with ⟨rfl, _⟩ | ⟨g, rfl, _⟩
      · rfl
      · simp [Value.ownBlock] at h5
      · simp [Value.ownBlock] at h5
      · simp [Value.ownBlock] at h5; rw [h5]
    · right
      rcases hA' with ⟨rfl, _⟩ | ⟨g', rfl, _⟩
      · simp [Value.ownBlock] at h5
      · simp [Value.ownBlock] at h5; rw [h5]

theorem wp_app {o : Oper} {a : Act} {K : Act → World → Prop} {Q : Exit → Act → World → Prop} (s x : Operand) (t : TypeId)
    (ho : o.op = .call { callee := .builtin .append, args := #[s, x], argTypes := #[t, t] })
    (base : Nat) (e : TypeId) (i : TypeInfo) (z : Value) (size bytes : Nat) (ht : P.underlying t = some (.slice e)) (hi : P.info? e = some i) (hz : i.zero = some z)
    (hsize : i.size = size) (hby : i.bytes = bytes) (hzs : z.cells.size = size) (hsz : 0 < size)
    (A : Option Addr) (n c : Nat) (xs : List Value) (hs : a.eval s = .slice A n c) (hown : OwnS w base e size A n c xs)
    (B : Nat) (A2 : Option Addr) (m c2 : Nat) (news : List Value) (hx : a.eval x = .slice A2 m c2) (hl : news.length = m * size) (hr : Row w B A2 news) (h1 : ∀ u ∈ news, u.oneCell' = true)
    (h63 : n + m ≤ maxLen) (hbytes : (n + m) * bytes ≤ 140737488355328) (hbase : base ≤ w.heap.size)
    (h : ∀ A' c' w', OwnS w' base e size A' (n + m) c' (xs ++ news) → w.grownBy w' (Value.ownBlock (.slice A n c)) → (A' = A ∨ A' = some ⟨w.heap.size, 0, none⟩) → K (a.put o.dst (.slice A' (n + m) c')) w') : o.wp P a w K Q := by
  obtain ⟨A', c', w', hrun, h2, h3, h4⟩ := run_app (P := P) w base t o.type e i z size bytes ht hi hz hsize hby hzs hsz A n c xs hown B A2 m c2 news hl hr h1 h63 hbytes hbase
  unfold Oper.wp execOp
  simp only [ho, resolve, invoke, builtin, Sem.run_bind, Sem.run_pure, Result.andThen_ok, List.map_toArray, List.map_cons, List.map_nil, hs, hx, hrun]
  exact h A' c' w' h2 h3 h4

theorem wpList_app {ops : Array Oper} {rest : List Oper} {o : Oper} {a : Act} {Q : Exit → Act → World → Prop} (hgd : o.guard = none) (s x : Operand) (t : TypeId)
    (ho : o.op = .call { callee := .builtin .append, args := #[s, x], argTypes := #[t, t] })
    (base : Nat) (e : TypeId) (i : TypeInfo) (z : Value) (size bytes : Nat) (ht : P.underlying t = some (.slice e)) (hi : P.info? e = some i) (hz : i.zero = some z)
    (hsize : i.size = size) (hby : i.bytes = bytes) (hzs : z.cells.size = size) (hsz : 0 < size)
    (A : Option Addr) (n c : Nat) (xs : List Value) (hs : a.eval s = .slice A n c) (hown : OwnS w base e size A n c xs)
    (B : Nat) (A2 : Option Addr) (m c2 : Nat) (news : List Value) (hx : a.eval x = .slice A2 m c2) (hl : news.length = m * size) (hr : Row w B A2 news) (h1 : ∀ u ∈ news, u.oneCell' = true)
    (h63 : n + m ≤ maxLen) (hbytes : (n + m) * bytes ≤ 140737488355328) (hbase : base ≤ w.heap.size)
    (h : ∀ A' c' w', OwnS w' base e size A' (n + m) c' (xs ++ news) → w.grownBy w' (Value.ownBlock (.slice A n c)) → (A' = A ∨ A' = some ⟨w.heap.size, 0, none⟩) → wpList P ops Q rest (a.put o.dst (.slice A' (n + m) c')) w') : wpList P ops Q (o :: rest) a w :=
  wpList_plain hgd fun _ hK => wp_app w s x t ho base e i z size bytes ht hi hz hsize hby hzs hsz A n c xs hs hown B A2 m c2 news hx hl hr h1 h63 hbytes hbase fun A' c' w' h2 h3 h4 => hK _ _ (h A' c' w' h2 h3 h4)
end
/-- A new one-cell block read as a row. -/
theorem Row.one (w : World) (v : Value) (t : TypeId) (f : Nat × Nat) {B : Nat} (hB : w.heap.size < B) : Row (w.alloc (.cells #[v] t f)) B (some ⟨w.heap.size, 0, none⟩) [v] := fun k u hu => by
  have hk : k = 0 := by
    rcases k with _ | k
    · rfl
    · simp at hu
  subst hk
  have : v = u := by simpa using hu
  subst this
  refine ⟨_, _, rfl, hB, ?_⟩
  simp only [World.cell?, heap_alloc_new]
  simp
end Go.Proofs.Ytemlljgldkkkgaa
