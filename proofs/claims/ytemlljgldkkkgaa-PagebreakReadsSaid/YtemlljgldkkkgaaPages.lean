/- pages: the iterator over possible pages -/
import Derived.RangeFuncNested
import Derived.RangeFuncBound
import Derived.RangeFuncCalls
import Derived.RangeFuncLeaves
import Derived.Shelf.Abstract
import Derived.Shelf.RegionOpen
import Derived.WalkKit
import Derived.OwnWalkIn
import Derived.TacticsInMore
import Derived.LoopNIn
import Derived.LoopIn
import Derived.Test.YtemlljgldkkkgaaNewSums
import Derived.Test.YtemlljgldkkkgaaSpec4
namespace Go.Proofs.Ytemlljgldkkkgaa
open Go.RowKit Go.Shelf
attribute [local go_sem] Oper.semAt_some
/-- the ends of the possible pages among the first m lines behind i -/
def pgL (P : PP) (i : Nat) : Nat → List Nat
  | 0 => []
  | m + 1 => if P.pageE i (i + 1 + m) = 0 then pgL P i m ++ [i + 1 + m] else pgL P i m
theorem pgL_len (P : PP) (i : Nat) : ∀ m, (pgL P i m).length ≤ m
  | 0 => by simp [pgL]
  | m + 1 => by
    have := pgL_len P i m
    rw [pgL]
    split
    · simp; omega
    · omega
theorem pgL_high {P : PP} (F : Fine P) {i m : Nat} (h : P.pageE i (i + 1 + m) = 22) : ∀ d, pgL P i (m + d) = pgL P i m
  | 0 => rfl
  | d + 1 => by
    have := F.high (by omega) (show i + 1 + m ≤ i + 1 + (m + d) by omega) h
    rw [show m + (d + 1) = (m + d) + 1 by omega, pgL, if_neg (by rw [this]; decide), pgL_high F h d]
abbrev PgE (P : PP) (i : Nat) := { q : Nat // i < q ∧ q ≤ P.lines.length ∧ P.pageE i q = 0 }
structure Kp2 (n₀ bf bs : Nat) (A B : World) : Prop where
  b : Below n₀ A B
  f : B.heap[bf]? = A.heap[bf]?
  s : B.heap[bs]? = A.heap[bs]?
theorem Kp2.refl (n₀ bf bs : Nat) (A : World) : Kp2 n₀ bf bs A A := ⟨Below.refl _ _, rfl, rfl⟩
theorem Kp2.trans {n₀ bf bs : Nat} {A B C : World} (h : Kp2 n₀ bf bs A B) (k : Kp2 n₀ bf bs B C) : Kp2 n₀ bf bs A C := ⟨h.b.trans k.b, k.f.trans h.f, k.s.trans h.s⟩
theorem Kp2.of_below {n₀ bf bs : Nat} {A B : World} (h : Below A.heap.size A B) (hn : n₀ ≤ A.heap.size) (hf : bf < A.heap.size) (hs : bs < A.heap.size) : Kp2 n₀ bf bs A B := ⟨h.mono hn, h.block bf hf, h.block bs hs⟩
theorem Kp2.putObj {n₀ bf bs : Nat} {w : World} (hn : n₀ ≤ w.heap.size) (hf : bf < w.heap.size) (hs : bs < w.heap.size) (W : World) (l : Nat) (o o' : Obj) (hl : w.heap.size ≤ l) (h : W.heap[l]? = some o) (h1 : o.isCells = false) (h2 : o.isWalk = false) : Kp2 n₀ bf bs W (W.putObj l o') :=
  ⟨belowK_b hn W l o o' hl h h1 h2, World.putObj_heap_other (by omega), World.putObj_heap_other (by omega)⟩
theorem pages_any (g i : Nat) (w : World) : Calls Try.prog 61 #[.pointer (some ⟨g, 0, none⟩), .int .i64 (i : Int)] w fun e w' => e = .returned (.func (.func 94) #[] #[.pointer (some ⟨w.heap.size + 1, 0, none⟩), .pointer (some ⟨w.heap.size, 0, none⟩)]) ∧ w' = (w.alloc (.cells #[.pointer (some ⟨g, 0, none⟩)] 71)).alloc (.cells #[.int .i64 (i : Int)] 3) := by
  go_enter Try.func61, Try.ntmps61
  go_wp2
  go_ret
  exact ⟨rfl, rfl⟩
set_option maxRecDepth 100000 in
set_option maxHeartbeats 2000000 in
theorem pages1_in (n : Nat) (hn : 1 ≤ n) (l g i bf bs n₀ : Nat) (AL AN AP : Option Addr) (cL cN cP : Nat) (P : PP) (F : Fine P) (hi : i < P.lines.length) (J Jx : List (PgE P i) → World → Prop) (B0 : Nat) (hJ : AbidesFrom B0 J)
    (hY : ∀ pre (x : PgE P i) W, J pre W → pre.length < P.lines.length - i → YieldAt Fence.wide (n - 1) Try.prog l #[.int .i64 (x.1 : Int), .int .i64 (P.pageC i x.1)] W fun e W' =>
      (e = .returned (.bool true) ∧ J (pre ++ [x]) W' ∧ Kp2 n₀ bf bs W W') ∨ (e = .returned (.bool false) ∧ Jx (pre ++ [x]) W'))
    (W : World) (hbf : bf < W.heap.size) (hbs : bs < W.heap.size) (hn₀ : n₀ ≤ W.heap.size) (cf : W.cell? ⟨bf, 0, none⟩ = some (.int .i64 (i : Int))) (cs : W.cell? ⟨bs, 0, none⟩ = some (.pointer (some ⟨g, 0, none⟩))) (hS : SumR W n₀ g AL AN AP cL cN cP P) (h0 : J [] W) :
    CallsIn Fence.wide n Try.prog 94 #[.func (.yield l) #[] #[], .pointer (some ⟨bf, 0, none⟩), .pointer (some ⟨bs, 0, none⟩)] W fun e W' => (∃ v, e = .returned v) ∧
      ((∃ ys : List (PgE P i), ys.map (·.1) = pgL P i (P.lines.length - i) ∧ J ys W') ∨ (∃ pre : List (PgE P i), (∃ m, m ≤ P.lines.length - i ∧ pre.map (·.1) = pgL P i m) ∧ Jx pre W')) := by
  have hln := F.ln
  refine callsIn_of_wp Try.func94 rfl trivial ?_ rfl
  simp only [Try.ntmps94, List.size_toArray, List.length_cons, List.length_nil, Nat.reduceAdd, Nat.reduceSub, Array.replicate_succ, Array.replicate_zero, List.push_toArray, List.append_toArray, List.nil_append, List.cons_append]
  gi_wp2
  gi_loopw [4] (fun t wr => ∃ (m : Nat) (ys : List (PgE P i)), m ≤ P.lines.length - i ∧ t = .int .i64 ((i + 1 + m : Nat) : Int) ∧ ys.map (·.1) = pgL P i m ∧ J ys wr ∧ Kp2 n₀ bf bs W wr ∧ W.heap.size ≤ wr.heap.size)
    (fun t _ => P.lines.length + 1 - (intOf t).toNat)
  case atStart => exact ⟨0, [], Nat.zero_le _, by first | rfl | go_num, rfl, h0, Kp2.refl _ _ _ _, Nat.le_refl _⟩
  case round =>
    obtain ⟨m, ys, hm, rfl, hys, hJs, hk, hsz⟩ := hrel
    have kf : wr.cell? ⟨bf, 0, none⟩ = some (.int .i64 (i : Int)) := (World.cell?_of_block (a := ⟨bf, 0, none⟩) hk.f).trans cf
    have ks : wr.cell? ⟨bs, 0, none⟩ = some (.pointer (some ⟨g, 0, none⟩)) := (World.cell?_of_block (a := ⟨bs, 0, none⟩) hk.s).trans cs
    have hSr := hS.to hk.b (Nat.le_trans hn₀ hsz)
    have k0 := hSr.c0
    obtain ⟨q, hq⟩ : ∃ q, i + 1 + m = q := ⟨_, rfl⟩
    rw [hq]
    by_cases hqn : q ≤ P.lines.length
    · have HP := Lib.hid (page_any g AL AN AP cL cN cP P i q wr F hSr (by omega) hqn (by omega))
      have hYL := ys.length_map (f := fun x : PgE P i => x.1)
      rw [hys] at hYL
      have hlen : ys.length < P.lines.length - i := by have := pgL_len P i m; omega
      have hJb : ∀ w1, Below wr.heap.size wr w1 → J ys w1 := fun w1 hb => hJ ys wr w1 none hJs (grownBy_of_below hb none) (fun r e => by cases e)
      have HQ := Lib.hid hq
      have hiq : i < q := by omega
      clear hYL hq
      by_cases e22 : P.pageE i q = 22
      · have f22 : (P.pageE i q == 22) = true := by simp [e22]
        have HL := Lib.hid (show pgL P i m = pgL P i (P.lines.length - i) by
          obtain ⟨d, hd⟩ : ∃ d, P.lines.length - i = m + d := ⟨P.lines.length - i - m, by omega⟩
          rw [hd]; exact (pgL_high F (by rw [HQ.out]; exact e22) d).symm)
        clear e22
        gi_wp2_with (refine ⟨trivial, ?_⟩; gi_at_call 65; refine (callsIn_wide.2 HP.out).mono ?_; rintro e w1 ⟨rfl, hb1⟩)
        refine bodyPost_ret (results_none rfl _ _ _) rfl ?_
        exact ⟨⟨_, rfl⟩, .inl ⟨ys, hys.trans HL.out, hJb _ hb1⟩⟩
      have f22 : (P.pageE i q == 22) = false := by simp [e22]
      by_cases e0 : P.pageE i q = 0
      · have f0 : (P.pageE i q == 0) = true := by simp [e0]
        obtain ⟨x, hx⟩ : ∃ x : PgE P i, x.1 = q := ⟨⟨q, hiq, hqn, e0⟩, rfl⟩
        have HM := Lib.hid (show (ys ++ [x]).map (·.1) = pgL P i (m + 1) by
          rw [pgL, HQ.out, if_pos e0, List.map_append, hys]; simp [hx])
        have HY := Lib.hid (show ∀ w1, Below wr.heap.size wr w1 → YieldAt Fence.wide (n - 1) Try.prog l #[.int .i64 (q : Int), .int .i64 (P.pageC i q)] w1 (fun e W' => (e = .returned (.bool true) ∧ J (ys ++ [x]) W' ∧ Kp2 n₀ bf bs w1 W') ∨ (e = .returned (.bool false) ∧ Jx (ys ++ [x]) W')) from fun w1 hb => by
          have := hY ys x w1 (hJb w1 hb) hlen
          rw [hx] at this; exact this)
        clear e0 e22 hx
        gi_wp2_with (refine ⟨trivial, ?_⟩; gi_at_call 65; refine (callsIn_wide.2 HP.out).mono ?_; rintro e w1 ⟨rfl, hb1⟩; obtain ⟨fn, tmps, assign, body, hy, hR⟩ := HY.out w1 hb1)
        refine hR.mono ?_
        rintro e W3 (⟨rfl, hJ3, hk3⟩ | ⟨rfl, hJx3⟩)
        · gi_wp2
          go_roundw
          case rel => exact ⟨m + 1, ys ++ [x], by have := HQ.out; omega, by have := HQ.out; first | rfl | (go_num; omega) | go_num, HM.out, hJ3, (hk.trans (Kp2.of_below hb1 (by omega) (by omega) (by omega))).trans hk3, by have := hb1.size; have := hk3.b.size; omega⟩
          case measure => simp [intOf]; omega
        · gi_wp2
          refine bodyPost_ret (results_none rfl _ _ _) rfl ?_
          exact ⟨⟨_, rfl⟩, .inr ⟨_, ⟨m + 1, by have := HQ.out; omega, HM.out⟩, hJx3⟩⟩
      have f0 : (P.pageE i q == 0) = false := by simp [e0]
      have HM := Lib.hid (show ys.map (·.1) = pgL P i (m + 1) by rw [pgL, HQ.out, if_neg e0]; exact hys)
      clear e0 e22
      gi_wp2_with (refine ⟨trivial, ?_⟩; gi_at_call 65; refine (callsIn_wide.2 HP.out).mono ?_; rintro e w1 ⟨rfl, hb1⟩)
      refine ⟨fun _ h => (by cases h), ?_⟩
      gi_wp2
      go_roundw
      case rel => exact ⟨m + 1, ys, by have := HQ.out; omega, by have := HQ.out; first | rfl | (go_num; omega) | go_num, HM.out, hJb _ hb1, hk.trans (Kp2.of_below hb1 (by omega) (by omega) (by omega)), by have := hb1.size; omega⟩
      case measure => simp [intOf]; omega
    · obtain rfl : m = P.lines.length - i := by omega
      gi_wp2
      go_end0
      exact ⟨⟨_, rfl⟩, .inl ⟨ys, hys, hJs⟩⟩
theorem eg94 : ∀ args w, (callFunc 94 args).run Try.prog w = .ok (.enter 94 args) w := enters_of Try.func94 (by kernel_rfl) rfl
/-- what 'range s.pages(i)' gives -/
theorem pages_stops (n : Nat) (hn : 1 ≤ n) (g i bf bs n₀ : Nat) (AL AN AP : Option Addr) (cL cN cP : Nat) (P : PP) (F : Fine P) (hi : i < P.lines.length) (w : World) (hbf : bf < w.heap.size) (hbs : bs < w.heap.size) (hn₀ : n₀ ≤ w.heap.size) (cf : w.cell? ⟨bf, 0, none⟩ = some (.int .i64 (i : Int))) (cs : w.cell? ⟨bs, 0, none⟩ = some (.pointer (some ⟨g, 0, none⟩))) (hS : SumR w n₀ g AL AN AP cL cN cP P) :
    SeqStopsK Fence.wide n Try.prog 94 #[.pointer (some ⟨bf, 0, none⟩), .pointer (some ⟨bs, 0, none⟩)] (fun x : PgE P i => #[.int .i64 (x.1 : Int), .int .i64 (P.pageC i x.1)]) (Kp2 n₀ bf bs)
      (fun ys => ys.map (·.1) = pgL P i (P.lines.length - i)) (fun pre => ∃ m, m ≤ P.lines.length - i ∧ pre.map (·.1) = pgL P i m) (P.lines.length - i) w := fun l J Jx W hW hJ _ hY h0 =>
  pages1_in n hn l g i bf bs n₀ AL AN AP cL cN cP P F hi J Jx _ hJ hY W (Nat.lt_of_lt_of_le hbf hW.size) (Nat.lt_of_lt_of_le hbs hW.size) (Nat.le_trans hn₀ hW.size) ((hW.cell (p := ⟨bf, 0, none⟩) hbf).trans cf) ((hW.cell (p := ⟨bs, 0, none⟩) hbs).trans cs) (hS.below (hW.mono hn₀)) h0
end Go.Proofs.Ytemlljgldkkkgaa
