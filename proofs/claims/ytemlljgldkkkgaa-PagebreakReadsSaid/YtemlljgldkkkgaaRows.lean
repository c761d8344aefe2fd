/-
  No cell of these rows narrows 'for every input' (looked for: loops, veiled, ifaces, maps, wideKeys, modest, calm, conditions, laid).
  DERIVED. THE GIVEN ROWS OF THIS SEAT. 12 by the template 'for every input the law returns true; each argument reads behind the call as it read before'; 0 by the template 'total and deterministic' (their statements: YtemlljgldkkkgaaTotals.lean).
  GIVEN WITH THE SEED: the statements are not yours to turn. If you find one false, say at which input.
  Laid BY PROGRAM, IN A SANDBOX (cutbox-rows.mjs): the forced cells as the released guide's own fill.sh prints them over the translation e8fe19ec4e3c8c48… (all of the seat's roots in one cut). By AI agents, Wed Nov 11 2026. No macro, syntax, notation, axiom, sorry.
-/
import Derived.Test.YtemlljgldkkkgaaChecked
import GoSem.Claim
import GoSem.ClaimJoined
import GoSem.ClaimMapViews
import Derived.JoinedTies
import Derived.KernelRfl
namespace Go.Proofs.Ytemlljgldkkkgaa
/- THE CELL 'sum', in the pinned program and in every row, IS THE sha256 OF THE DUMP (.gsa) THAT YtemlljgldkkkgaaProg.lean LOADS. Nothing in Lean hashes anything: it is a label: what it is worth is what the hold of that sum in a sandbox is worth. -/
noncomputable def Try.pinned : Pinned := { name := "ytemlljgldkkkgaa", sum := "e8fe19ec4e3c8c480c9aa747a2f02be7a925ab92e1f148e509ab6628776e4aea", checked := Try.checked }
namespace Rows
def none {H : Type} : Left H := { results := [], args := [] }

/-- 'apographlaw51.PagebreakBreaks': WHATEVER THE INPUT: true; the input reads as it did. -/
def pagebreakBreaksSpec : ChangeSpec := { name := "pagebreakBreaks", fn := fun _ => fun
  | [d1, d2, d3] => { results := [.lit (.bool true)], args := [d1, d2, d3] }
  | _ => none }
def pagebreakBreaksRow : OpenClaim := { program := "ytemlljgldkkkgaa", sum := "e8fe19ec4e3c8c480c9aa747a2f02be7a925ab92e1f148e509ab6628776e4aea", func := "apograph/apographlaw51.PagebreakBreaks", spec := "pagebreakBreaks", unfollowed := true, recurses := true, apart := false }
def PagebreakBreaksSaid : Prop := pagebreakBreaksRow.holds Try.pinned (OpenSpec.ofChange pagebreakBreaksSpec)

/-- ITS FALSE NEIGHBOUR: 'it returns false'. Refute it at one input. -/
def pagebreakBreaksWrong : ChangeSpec := { name := "pagebreakBreaks", fn := fun _ => fun
  | [d1, d2, d3] => { results := [.lit (.bool false)], args := [d1, d2, d3] }
  | _ => none }
def PagebreakBreaksWrongFalsely : Prop := pagebreakBreaksRow.holds Try.pinned (OpenSpec.ofChange pagebreakBreaksWrong)

/-- 'apographlaw51.PagebreakBest': WHATEVER THE INPUT: true; the input reads as it did. -/
def pagebreakBestSpec : ChangeSpec := { name := "pagebreakBest", fn := fun _ => fun
  | [d1, d2] => { results := [.lit (.bool true)], args := [d1, d2] }
  | _ => none }
def pagebreakBestRow : OpenClaim := { program := "ytemlljgldkkkgaa", sum := "e8fe19ec4e3c8c480c9aa747a2f02be7a925ab92e1f148e509ab6628776e4aea", func := "apograph/apographlaw51.PagebreakBest", spec := "pagebreakBest", unfollowed := true, recurses := true, apart := false }
def PagebreakBestSaid : Prop := pagebreakBestRow.holds Try.pinned (OpenSpec.ofChange pagebreakBestSpec)

/-- ITS FALSE NEIGHBOUR: 'it returns false'. Refute it at one input. -/
def pagebreakBestWrong : ChangeSpec := { name := "pagebreakBest", fn := fun _ => fun
  | [d1, d2] => { results := [.lit (.bool false)], args := [d1, d2] }
  | _ => none }
def PagebreakBestWrongFalsely : Prop := pagebreakBestRow.holds Try.pinned (OpenSpec.ofChange pagebreakBestWrong)

/-- 'apographlaw51.PagebreakProved': WHATEVER THE INPUT: true; the input reads as it did. -/
def pagebreakProvedSpec : ChangeSpec := { name := "pagebreakProved", fn := fun _ => fun
  | [d1, d2, d3, d4] => { results := [.lit (.bool true)], args := [d1, d2, d3, d4] }
  | _ => none }
def pagebreakProvedRow : OpenClaim := { program := "ytemlljgldkkkgaa", sum := "e8fe19ec4e3c8c480c9aa747a2f02be7a925ab92e1f148e509ab6628776e4aea", func := "apograph/apographlaw51.PagebreakProved", spec := "pagebreakProved", unfollowed := true, recurses := true, apart := false }
def PagebreakProvedSaid : Prop := pagebreakProvedRow.holds Try.pinned (OpenSpec.ofChange pagebreakProvedSpec)

/-- ITS FALSE NEIGHBOUR: 'it returns false'. Refute it at one input. -/
def pagebreakProvedWrong : ChangeSpec := { name := "pagebreakProved", fn := fun _ => fun
  | [d1, d2, d3, d4] => { results := [.lit (.bool false)], args := [d1, d2, d3, d4] }
  | _ => none }
def PagebreakProvedWrongFalsely : Prop := pagebreakProvedRow.holds Try.pinned (OpenSpec.ofChange pagebreakProvedWrong)

/-- 'apographlaw51.PagebreakReads': WHATEVER THE INPUT: true; the input reads as it did. -/
def pagebreakReadsSpec : ChangeSpec := { name := "pagebreakReads", fn := fun _ => fun
  | [d1, d2, d3, d4, d5, d6, d7] => { results := [.lit (.bool true)], args := [d1, d2, d3, d4, d5, d6, d7] }
  | _ => none }
def pagebreakReadsRow : OpenClaim := { program := "ytemlljgldkkkgaa", sum := "e8fe19ec4e3c8c480c9aa747a2f02be7a925ab92e1f148e509ab6628776e4aea", func := "apograph/apographlaw51.PagebreakReads", spec := "pagebreakReads", unfollowed := true, recurses := true, apart := false }
def PagebreakReadsSaid : Prop := pagebreakReadsRow.holds Try.pinned (OpenSpec.ofChange pagebreakReadsSpec)

/-- ITS FALSE NEIGHBOUR: 'it returns false'. Refute it at one input. -/
def pagebreakReadsWrong : ChangeSpec := { name := "pagebreakReads", fn := fun _ => fun
  | [d1, d2, d3, d4, d5, d6, d7] => { results := [.lit (.bool false)], args := [d1, d2, d3, d4, d5, d6, d7] }
  | _ => none }
def PagebreakReadsWrongFalsely : Prop := pagebreakReadsRow.holds Try.pinned (OpenSpec.ofChange pagebreakReadsWrong)

/-- 'apographlaw52.FacingBreaks': WHATEVER THE INPUT: true; the input reads as it did. -/
def facingBreaksSpec : ChangeSpec := { name := "facingBreaks", fn := fun _ => fun
  | [d] => { results := [.lit (.bool true)], args := [d] }
  | _ => none }
def facingBreaksRow : OpenClaim := { program := "ytemlljgldkkkgaa", sum := "e8fe19ec4e3c8c480c9aa747a2f02be7a925ab92e1f148e509ab6628776e4aea", func := "apograph/apographlaw52.FacingBreaks", spec := "facingBreaks", unfollowed := true, recurses := true, apart := false }
def FacingBreaksSaid : Prop := facingBreaksRow.holds Try.pinned (OpenSpec.ofChange facingBreaksSpec)

/-- ITS FALSE NEIGHBOUR: 'it returns false'. Refute it at one input. -/
def facingBreaksWrong : ChangeSpec := { name := "facingBreaks", fn := fun _ => fun
  | [d] => { results := [.lit (.bool false)], args := [d] }
  | _ => none }
def FacingBreaksWrongFalsely : Prop := facingBreaksRow.holds Try.pinned (OpenSpec.ofChange facingBreaksWrong)

/-- 'apographlaw52.FacingAnchors': WHATEVER THE INPUT: true; the input reads as it did. -/
def facingAnchorsSpec : ChangeSpec := { name := "facingAnchors", fn := fun _ => fun
  | [d] => { results := [.lit (.bool true)], args := [d] }
  | _ => none }
def facingAnchorsRow : OpenClaim := { program := "ytemlljgldkkkgaa", sum := "e8fe19ec4e3c8c480c9aa747a2f02be7a925ab92e1f148e509ab6628776e4aea", func := "apograph/apographlaw52.FacingAnchors", spec := "facingAnchors", unfollowed := true, recurses := true, apart := false }
def FacingAnchorsSaid : Prop := facingAnchorsRow.holds Try.pinned (OpenSpec.ofChange facingAnchorsSpec)

/-- ITS FALSE NEIGHBOUR: 'it returns false'. Refute it at one input. -/
def facingAnchorsWrong : ChangeSpec := { name := "facingAnchors", fn := fun _ => fun
  | [d] => { results := [.lit (.bool false)], args := [d] }
  | _ => none }
def FacingAnchorsWrongFalsely : Prop := facingAnchorsRow.holds Try.pinned (OpenSpec.ofChange facingAnchorsWrong)

/-- 'apographlaw52.FacingExchanges': WHATEVER THE INPUT: true; the input reads as it did. -/
def facingExchangesSpec : ChangeSpec := { name := "facingExchanges", fn := fun _ => fun
  | [d] => { results := [.lit (.bool true)], args := [d] }
  | _ => none }
def facingExchangesRow : OpenClaim := { program := "ytemlljgldkkkgaa", sum := "e8fe19ec4e3c8c480c9aa747a2f02be7a925ab92e1f148e509ab6628776e4aea", func := "apograph/apographlaw52.FacingExchanges", spec := "facingExchanges", unfollowed := true, recurses := true, apart := false }
def FacingExchangesSaid : Prop := facingExchangesRow.holds Try.pinned (OpenSpec.ofChange facingExchangesSpec)

/-- ITS FALSE NEIGHBOUR: 'it returns false'. Refute it at one input. -/
def facingExchangesWrong : ChangeSpec := { name := "facingExchanges", fn := fun _ => fun
  | [d] => { results := [.lit (.bool false)], args := [d] }
  | _ => none }
def FacingExchangesWrongFalsely : Prop := facingExchangesRow.holds Try.pinned (OpenSpec.ofChange facingExchangesWrong)

/-- 'apographlaw52.FacingRests': WHATEVER THE INPUT: true; the input reads as it did. -/
def facingRestsSpec : ChangeSpec := { name := "facingRests", fn := fun _ => fun
  | [d1, d2] => { results := [.lit (.bool true)], args := [d1, d2] }
  | _ => none }
def facingRestsRow : OpenClaim := { program := "ytemlljgldkkkgaa", sum := "e8fe19ec4e3c8c480c9aa747a2f02be7a925ab92e1f148e509ab6628776e4aea", func := "apograph/apographlaw52.FacingRests", spec := "facingRests", unfollowed := true, recurses := true, apart := false }
def FacingRestsSaid : Prop := facingRestsRow.holds Try.pinned (OpenSpec.ofChange facingRestsSpec)

/-- ITS FALSE NEIGHBOUR: 'it returns false'. Refute it at one input. -/
def facingRestsWrong : ChangeSpec := { name := "facingRests", fn := fun _ => fun
  | [d1, d2] => { results := [.lit (.bool false)], args := [d1, d2] }
  | _ => none }
def FacingRestsWrongFalsely : Prop := facingRestsRow.holds Try.pinned (OpenSpec.ofChange facingRestsWrong)

/-- 'apographlaw52.FacingAlone': WHATEVER THE INPUT: true; the input reads as it did. -/
def facingAloneSpec : ChangeSpec := { name := "facingAlone", fn := fun _ => fun
  | [d] => { results := [.lit (.bool true)], args := [d] }
  | _ => none }
def facingAloneRow : OpenClaim := { program := "ytemlljgldkkkgaa", sum := "e8fe19ec4e3c8c480c9aa747a2f02be7a925ab92e1f148e509ab6628776e4aea", func := "apograph/apographlaw52.FacingAlone", spec := "facingAlone", unfollowed := true, recurses := true, apart := false }
def FacingAloneSaid : Prop := facingAloneRow.holds Try.pinned (OpenSpec.ofChange facingAloneSpec)

/-- ITS FALSE NEIGHBOUR: 'it returns false'. Refute it at one input. -/
def facingAloneWrong : ChangeSpec := { name := "facingAlone", fn := fun _ => fun
  | [d] => { results := [.lit (.bool false)], args := [d] }
  | _ => none }
def FacingAloneWrongFalsely : Prop := facingAloneRow.holds Try.pinned (OpenSpec.ofChange facingAloneWrong)

/-- 'apographlaw52.FacingCosts': WHATEVER THE INPUT: true; the input reads as it did. -/
def facingCostsSpec : ChangeSpec := { name := "facingCosts", fn := fun _ => fun
  | [d1, d2, d3] => { results := [.lit (.bool true)], args := [d1, d2, d3] }
  | _ => none }
def facingCostsRow : OpenClaim := { program := "ytemlljgldkkkgaa", sum := "e8fe19ec4e3c8c480c9aa747a2f02be7a925ab92e1f148e509ab6628776e4aea", func := "apograph/apographlaw52.FacingCosts", spec := "facingCosts", unfollowed := true, recurses := true, apart := false }
def FacingCostsSaid : Prop := facingCostsRow.holds Try.pinned (OpenSpec.ofChange facingCostsSpec)

/-- ITS FALSE NEIGHBOUR: 'it returns false'. Refute it at one input. -/
def facingCostsWrong : ChangeSpec := { name := "facingCosts", fn := fun _ => fun
  | [d1, d2, d3] => { results := [.lit (.bool false)], args := [d1, d2, d3] }
  | _ => none }
def FacingCostsWrongFalsely : Prop := facingCostsRow.holds Try.pinned (OpenSpec.ofChange facingCostsWrong)

/-- 'apographlaw52.FacingProofs': WHATEVER THE INPUT: true; the input reads as it did. -/
def facingProofsSpec : ChangeSpec := { name := "facingProofs", fn := fun _ => fun
  | [d1, d2, d3] => { results := [.lit (.bool true)], args := [d1, d2, d3] }
  | _ => none }
def facingProofsRow : OpenClaim := { program := "ytemlljgldkkkgaa", sum := "e8fe19ec4e3c8c480c9aa747a2f02be7a925ab92e1f148e509ab6628776e4aea", func := "apograph/apographlaw52.FacingProofs", spec := "facingProofs", unfollowed := true, recurses := true, apart := false }
def FacingProofsSaid : Prop := facingProofsRow.holds Try.pinned (OpenSpec.ofChange facingProofsSpec)

/-- ITS FALSE NEIGHBOUR: 'it returns false'. Refute it at one input. -/
def facingProofsWrong : ChangeSpec := { name := "facingProofs", fn := fun _ => fun
  | [d1, d2, d3] => { results := [.lit (.bool false)], args := [d1, d2, d3] }
  | _ => none }
def FacingProofsWrongFalsely : Prop := facingProofsRow.holds Try.pinned (OpenSpec.ofChange facingProofsWrong)

/-- 'apographlaw52.FacingLeast': WHATEVER THE INPUT: true; the input reads as it did. -/
def facingLeastSpec : ChangeSpec := { name := "facingLeast", fn := fun _ => fun
  | [d1, d2] => { results := [.lit (.bool true)], args := [d1, d2] }
  | _ => none }
def facingLeastRow : OpenClaim := { program := "ytemlljgldkkkgaa", sum := "e8fe19ec4e3c8c480c9aa747a2f02be7a925ab92e1f148e509ab6628776e4aea", func := "apograph/apographlaw52.FacingLeast", spec := "facingLeast", unfollowed := true, recurses := true, apart := false }
def FacingLeastSaid : Prop := facingLeastRow.holds Try.pinned (OpenSpec.ofChange facingLeastSpec)

/-- ITS FALSE NEIGHBOUR: 'it returns false'. Refute it at one input. -/
def facingLeastWrong : ChangeSpec := { name := "facingLeast", fn := fun _ => fun
  | [d1, d2] => { results := [.lit (.bool false)], args := [d1, d2] }
  | _ => none }
def FacingLeastWrongFalsely : Prop := facingLeastRow.holds Try.pinned (OpenSpec.ofChange facingLeastWrong)

/- THE SECOND FORM. 'bulk': how many values and letters a reading holds, each counted each time it is reached (what is shared counts as often as it is met; a slice's spare places count too). A statement '..UptoSaid' is the law's where the arguments, and the package variables that the reading takes, are together of bulk at most 1048576: NARROWER than '..Said'. Prove '..Said' where nothing that the law and all that it calls make is longer than what came in: it says more and counts as full. Else prove '..UptoSaid'. A law counts once. -/
mutual
def uptoBulk {H : Type} : DataW H → Nat
  | .lit (.string bytes) => bytes.length + 1
  | .lit _ => 1
  | .nil => 1
  | .ptr d => uptoBulk d + 1
  | .slice elems spare => uptoBulkAll elems + uptoBulkAll spare + 1
  | .agg parts => uptoBulkAll parts + 1
  | .iface _ d => uptoBulk d + 1
  | .map entries => uptoBulkEntries entries + 1
  | .held _ => 1
def uptoBulkAll {H : Type} : List (DataW H) → Nat
  | [] => 0
  | d :: r => uptoBulk d + uptoBulkAll r
def uptoBulkEntries {H : Type} : List (Lit × DataW H) → Nat
  | [] => 0
  | x :: r => uptoBulkEntry x + uptoBulkEntries r
def uptoBulkEntry {H : Type} : Lit × DataW H → Nat
  | (.string bytes, d) => bytes.length + uptoBulk d + 1
  | (_, d) => uptoBulk d + 1
 end
def uptoSmall : (H : Type) → List (DataW H) → Bool := fun _ ds => decide (uptoBulkAll ds ≤ 1048576)
def OpenSpec.upto (s : _root_.Go.ChangeSpec) : _root_.Go.OpenSpec := { _root_.Go.OpenSpec.ofChange s with cond := some uptoSmall }

/-- 'apographlaw51.PagebreakBreaks', WHERE WHAT IT READS IS OF BULK AT MOST 1048576: true; the input reads as it did. -/
def pagebreakBreaksUptoRow : OpenClaim := { program := "ytemlljgldkkkgaa", sum := "e8fe19ec4e3c8c480c9aa747a2f02be7a925ab92e1f148e509ab6628776e4aea", func := "apograph/apographlaw51.PagebreakBreaks", spec := "pagebreakBreaks", unfollowed := true, recurses := true, apart := false, narrowed := true }
def PagebreakBreaksUptoSaid : Prop := pagebreakBreaksUptoRow.holds Try.pinned (OpenSpec.upto pagebreakBreaksSpec)

/-- 'apographlaw51.PagebreakBest', WHERE WHAT IT READS IS OF BULK AT MOST 1048576: true; the input reads as it did. -/
def pagebreakBestUptoRow : OpenClaim := { program := "ytemlljgldkkkgaa", sum := "e8fe19ec4e3c8c480c9aa747a2f02be7a925ab92e1f148e509ab6628776e4aea", func := "apograph/apographlaw51.PagebreakBest", spec := "pagebreakBest", unfollowed := true, recurses := true, apart := false, narrowed := true }
def PagebreakBestUptoSaid : Prop := pagebreakBestUptoRow.holds Try.pinned (OpenSpec.upto pagebreakBestSpec)

/-- 'apographlaw51.PagebreakProved', WHERE WHAT IT READS IS OF BULK AT MOST 1048576: true; the input reads as it did. -/
def pagebreakProvedUptoRow : OpenClaim := { program := "ytemlljgldkkkgaa", sum := "e8fe19ec4e3c8c480c9aa747a2f02be7a925ab92e1f148e509ab6628776e4aea", func := "apograph/apographlaw51.PagebreakProved", spec := "pagebreakProved", unfollowed := true, recurses := true, apart := false, narrowed := true }
def PagebreakProvedUptoSaid : Prop := pagebreakProvedUptoRow.holds Try.pinned (OpenSpec.upto pagebreakProvedSpec)

/-- 'apographlaw51.PagebreakReads', WHERE WHAT IT READS IS OF BULK AT MOST 1048576: true; the input reads as it did. -/
def pagebreakReadsUptoRow : OpenClaim := { program := "ytemlljgldkkkgaa", sum := "e8fe19ec4e3c8c480c9aa747a2f02be7a925ab92e1f148e509ab6628776e4aea", func := "apograph/apographlaw51.PagebreakReads", spec := "pagebreakReads", unfollowed := true, recurses := true, apart := false, narrowed := true }
def PagebreakReadsUptoSaid : Prop := pagebreakReadsUptoRow.holds Try.pinned (OpenSpec.upto pagebreakReadsSpec)

/-- 'apographlaw52.FacingBreaks', WHERE WHAT IT READS IS OF BULK AT MOST 1048576: true; the input reads as it did. -/
def facingBreaksUptoRow : OpenClaim := { program := "ytemlljgldkkkgaa", sum := "e8fe19ec4e3c8c480c9aa747a2f02be7a925ab92e1f148e509ab6628776e4aea", func := "apograph/apographlaw52.FacingBreaks", spec := "facingBreaks", unfollowed := true, recurses := true, apart := false, narrowed := true }
def FacingBreaksUptoSaid : Prop := facingBreaksUptoRow.holds Try.pinned (OpenSpec.upto facingBreaksSpec)

/-- 'apographlaw52.FacingAnchors', WHERE WHAT IT READS IS OF BULK AT MOST 1048576: true; the input reads as it did. -/
def facingAnchorsUptoRow : OpenClaim := { program := "ytemlljgldkkkgaa", sum := "e8fe19ec4e3c8c480c9aa747a2f02be7a925ab92e1f148e509ab6628776e4aea", func := "apograph/apographlaw52.FacingAnchors", spec := "facingAnchors", unfollowed := true, recurses := true, apart := false, narrowed := true }
def FacingAnchorsUptoSaid : Prop := facingAnchorsUptoRow.holds Try.pinned (OpenSpec.upto facingAnchorsSpec)

/-- 'apographlaw52.FacingExchanges', WHERE WHAT IT READS IS OF BULK AT MOST 1048576: true; the input reads as it did. -/
def facingExchangesUptoRow : OpenClaim := { program := "ytemlljgldkkkgaa", sum := "e8fe19ec4e3c8c480c9aa747a2f02be7a925ab92e1f148e509ab6628776e4aea", func := "apograph/apographlaw52.FacingExchanges", spec := "facingExchanges", unfollowed := true, recurses := true, apart := false, narrowed := true }
def FacingExchangesUptoSaid : Prop := facingExchangesUptoRow.holds Try.pinned (OpenSpec.upto facingExchangesSpec)

/-- 'apographlaw52.FacingRests', WHERE WHAT IT READS IS OF BULK AT MOST 1048576: true; the input reads as it did. -/
def facingRestsUptoRow : OpenClaim := { program := "ytemlljgldkkkgaa", sum := "e8fe19ec4e3c8c480c9aa747a2f02be7a925ab92e1f148e509ab6628776e4aea", func := "apograph/apographlaw52.FacingRests", spec := "facingRests", unfollowed := true, recurses := true, apart := false, narrowed := true }
def FacingRestsUptoSaid : Prop := facingRestsUptoRow.holds Try.pinned (OpenSpec.upto facingRestsSpec)

/-- 'apographlaw52.FacingAlone', WHERE WHAT IT READS IS OF BULK AT MOST 1048576: true; the input reads as it did. -/
def facingAloneUptoRow : OpenClaim := { program := "ytemlljgldkkkgaa", sum := "e8fe19ec4e3c8c480c9aa747a2f02be7a925ab92e1f148e509ab6628776e4aea", func := "apograph/apographlaw52.FacingAlone", spec := "facingAlone", unfollowed := true, recurses := true, apart := false, narrowed := true }
def FacingAloneUptoSaid : Prop := facingAloneUptoRow.holds Try.pinned (OpenSpec.upto facingAloneSpec)

/-- 'apographlaw52.FacingCosts', WHERE WHAT IT READS IS OF BULK AT MOST 1048576: true; the input reads as it did. -/
def facingCostsUptoRow : OpenClaim := { program := "ytemlljgldkkkgaa", sum := "e8fe19ec4e3c8c480c9aa747a2f02be7a925ab92e1f148e509ab6628776e4aea", func := "apograph/apographlaw52.FacingCosts", spec := "facingCosts", unfollowed := true, recurses := true, apart := false, narrowed := true }
def FacingCostsUptoSaid : Prop := facingCostsUptoRow.holds Try.pinned (OpenSpec.upto facingCostsSpec)

/-- 'apographlaw52.FacingProofs', WHERE WHAT IT READS IS OF BULK AT MOST 1048576: true; the input reads as it did. -/
def facingProofsUptoRow : OpenClaim := { program := "ytemlljgldkkkgaa", sum := "e8fe19ec4e3c8c480c9aa747a2f02be7a925ab92e1f148e509ab6628776e4aea", func := "apograph/apographlaw52.FacingProofs", spec := "facingProofs", unfollowed := true, recurses := true, apart := false, narrowed := true }
def FacingProofsUptoSaid : Prop := facingProofsUptoRow.holds Try.pinned (OpenSpec.upto facingProofsSpec)

/-- 'apographlaw52.FacingLeast', WHERE WHAT IT READS IS OF BULK AT MOST 1048576: true; the input reads as it did. -/
def facingLeastUptoRow : OpenClaim := { program := "ytemlljgldkkkgaa", sum := "e8fe19ec4e3c8c480c9aa747a2f02be7a925ab92e1f148e509ab6628776e4aea", func := "apograph/apographlaw52.FacingLeast", spec := "facingLeast", unfollowed := true, recurses := true, apart := false, narrowed := true }
def FacingLeastUptoSaid : Prop := facingLeastUptoRow.holds Try.pinned (OpenSpec.upto facingLeastSpec)

end Rows
end Go.Proofs.Ytemlljgldkkkgaa
