/-
  No cell of these rows narrows 'for every input' (looked for: loops, veiled, ifaces, maps, wideKeys, modest, calm, conditions, laid).
  DERIVED. THE GIVEN ROWS OF THIS SEAT. 10 by the template 'for every input the law returns true; each argument reads behind the call as it read before'; 0 by the template 'total and deterministic' (their statements: YthhnmanhehbbhaaTotals.lean).
  GIVEN WITH THE SEED: the statements are not yours to turn. If you find one false, say at which input.
  Laid BY PROGRAM, IN A SANDBOX (cutbox-rows.mjs): the forced cells as the released guide's own fill.sh prints them over the translation 8a4ed4bbf68f5300… (all of the seat's roots in one cut). By AI agents, Wed Nov 11 2026. No macro, syntax, notation, axiom, sorry.
-/
import Derived.Test.YthhnmanhehbbhaaChecked
import GoSem.Claim
import GoSem.ClaimJoined
import GoSem.ClaimMapViews
import Derived.JoinedTies
import Derived.KernelRfl
namespace Go.Proofs.Ythhnmanhehbbhaa
/- THE CELL 'sum', in the pinned program and in every row, IS THE sha256 OF THE DUMP (.gsa) THAT YthhnmanhehbbhaaProg.lean LOADS. Nothing in Lean hashes anything: it is a label: what it is worth is what the hold of that sum in a sandbox is worth. -/
noncomputable def Try.pinned : Pinned := { name := "ythhnmanhehbbhaa", sum := "8a4ed4bbf68f530043183f05ff7f44e7b0827bfa8bc6ca4743f4cd5ee4b8c8d3", checked := Try.checked }
namespace Rows
def none {H : Type} : Left H := { results := [], args := [] }

/-- 'corntop.TopMoves': WHATEVER THE INPUT: true; the input reads as it did. -/
def topMovesSpec : ChangeSpec := { name := "topMoves", fn := fun _ => fun
  | [d1, d2, d3] => { results := [.lit (.bool true)], args := [d1, d2, d3] }
  | _ => none }
def topMovesRow : OpenClaim := { program := "ythhnmanhehbbhaa", sum := "8a4ed4bbf68f530043183f05ff7f44e7b0827bfa8bc6ca4743f4cd5ee4b8c8d3", func := "corncrib/corntop.TopMoves", spec := "topMoves", plainKeys := false, apart := false }
def TopMovesSaid : Prop := topMovesRow.holds Try.pinned (OpenSpec.ofChange topMovesSpec)

/-- ITS FALSE NEIGHBOUR: 'it returns false'. Refute it at one input. -/
def topMovesWrong : ChangeSpec := { name := "topMoves", fn := fun _ => fun
  | [d1, d2, d3] => { results := [.lit (.bool false)], args := [d1, d2, d3] }
  | _ => none }
def TopMovesWrongFalsely : Prop := topMovesRow.holds Try.pinned (OpenSpec.ofChange topMovesWrong)

/-- 'cornkeep1.RoomEdits': WHATEVER THE INPUT: true; the input reads as it did. -/
def roomEditsSpec : ChangeSpec := { name := "roomEdits", fn := fun _ => fun
  | [d1, d2, d3, d4, d5] => { results := [.lit (.bool true)], args := [d1, d2, d3, d4, d5] }
  | _ => none }
def roomEditsRow : OpenClaim := { program := "ythhnmanhehbbhaa", sum := "8a4ed4bbf68f530043183f05ff7f44e7b0827bfa8bc6ca4743f4cd5ee4b8c8d3", func := "corncrib/cornkeep1.RoomEdits", spec := "roomEdits", plainKeys := false, apart := false }
def RoomEditsSaid : Prop := roomEditsRow.holds Try.pinned (OpenSpec.ofChange roomEditsSpec)

/-- ITS FALSE NEIGHBOUR: 'it returns false'. Refute it at one input. -/
def roomEditsWrong : ChangeSpec := { name := "roomEdits", fn := fun _ => fun
  | [d1, d2, d3, d4, d5] => { results := [.lit (.bool false)], args := [d1, d2, d3, d4, d5] }
  | _ => none }
def RoomEditsWrongFalsely : Prop := roomEditsRow.holds Try.pinned (OpenSpec.ofChange roomEditsWrong)

/-- 'cornlaw2.WatchLarge': WHATEVER THE INPUT: true; the input reads as it did. -/
def watchLargeSpec : ChangeSpec := { name := "watchLarge", fn := fun _ => fun
  | [d1, d2] => { results := [.lit (.bool true)], args := [d1, d2] }
  | _ => none }
def watchLargeRow : OpenClaim := { program := "ythhnmanhehbbhaa", sum := "8a4ed4bbf68f530043183f05ff7f44e7b0827bfa8bc6ca4743f4cd5ee4b8c8d3", func := "corncrib/cornlaw2.WatchLarge", spec := "watchLarge", unfollowed := true, recurses := true, plainKeys := false, apart := false }
def WatchLargeSaid : Prop := watchLargeRow.holds Try.pinned (OpenSpec.ofChange watchLargeSpec)

/-- ITS FALSE NEIGHBOUR: 'it returns false'. Refute it at one input. -/
def watchLargeWrong : ChangeSpec := { name := "watchLarge", fn := fun _ => fun
  | [d1, d2] => { results := [.lit (.bool false)], args := [d1, d2] }
  | _ => none }
def WatchLargeWrongFalsely : Prop := watchLargeRow.holds Try.pinned (OpenSpec.ofChange watchLargeWrong)

/-- 'cornlaw2.WatchSlices': WHATEVER THE INPUT: true; the input reads as it did. -/
def watchSlicesSpec : ChangeSpec := { name := "watchSlices", fn := fun _ => fun
  | [d1, d2] => { results := [.lit (.bool true)], args := [d1, d2] }
  | _ => none }
def watchSlicesRow : OpenClaim := { program := "ythhnmanhehbbhaa", sum := "8a4ed4bbf68f530043183f05ff7f44e7b0827bfa8bc6ca4743f4cd5ee4b8c8d3", func := "corncrib/cornlaw2.WatchSlices", spec := "watchSlices", unfollowed := true, recurses := true, plainKeys := false, apart := false }
def WatchSlicesSaid : Prop := watchSlicesRow.holds Try.pinned (OpenSpec.ofChange watchSlicesSpec)

/-- ITS FALSE NEIGHBOUR: 'it returns false'. Refute it at one input. -/
def watchSlicesWrong : ChangeSpec := { name := "watchSlices", fn := fun _ => fun
  | [d1, d2] => { results := [.lit (.bool false)], args := [d1, d2] }
  | _ => none }
def WatchSlicesWrongFalsely : Prop := watchSlicesRow.holds Try.pinned (OpenSpec.ofChange watchSlicesWrong)

/-- 'corntop.TopArena': WHATEVER THE INPUT: true; the input reads as it did. -/
def topArenaSpec : ChangeSpec := { name := "topArena", fn := fun _ => fun
  | [d1, d2, d3, d4] => { results := [.lit (.bool true)], args := [d1, d2, d3, d4] }
  | _ => none }
def topArenaRow : OpenClaim := { program := "ythhnmanhehbbhaa", sum := "8a4ed4bbf68f530043183f05ff7f44e7b0827bfa8bc6ca4743f4cd5ee4b8c8d3", func := "corncrib/corntop.TopArena", spec := "topArena", unfollowed := true, recurses := true, plainKeys := false, apart := false }
def TopArenaSaid : Prop := topArenaRow.holds Try.pinned (OpenSpec.ofChange topArenaSpec)

/-- ITS FALSE NEIGHBOUR: 'it returns false'. Refute it at one input. -/
def topArenaWrong : ChangeSpec := { name := "topArena", fn := fun _ => fun
  | [d1, d2, d3, d4] => { results := [.lit (.bool false)], args := [d1, d2, d3, d4] }
  | _ => none }
def TopArenaWrongFalsely : Prop := topArenaRow.holds Try.pinned (OpenSpec.ofChange topArenaWrong)

/-- 'cornkeep2.SharePacked': WHATEVER THE INPUT: true; the input reads as it did. -/
def sharePackedSpec : ChangeSpec := { name := "sharePacked", fn := fun _ => fun
  | [d1, d2, d3] => { results := [.lit (.bool true)], args := [d1, d2, d3] }
  | _ => none }
def sharePackedRow : OpenClaim := { program := "ythhnmanhehbbhaa", sum := "8a4ed4bbf68f530043183f05ff7f44e7b0827bfa8bc6ca4743f4cd5ee4b8c8d3", func := "corncrib/cornkeep2.SharePacked", spec := "sharePacked", unfollowed := true, recurses := true, plainKeys := false, apart := false }
def SharePackedSaid : Prop := sharePackedRow.holds Try.pinned (OpenSpec.ofChange sharePackedSpec)

/-- ITS FALSE NEIGHBOUR: 'it returns false'. Refute it at one input. -/
def sharePackedWrong : ChangeSpec := { name := "sharePacked", fn := fun _ => fun
  | [d1, d2, d3] => { results := [.lit (.bool false)], args := [d1, d2, d3] }
  | _ => none }
def SharePackedWrongFalsely : Prop := sharePackedRow.holds Try.pinned (OpenSpec.ofChange sharePackedWrong)

/-- 'cornkeep2.TopSlab': WHATEVER THE INPUT: true; the input reads as it did. -/
def topSlabSpec : ChangeSpec := { name := "topSlab", fn := fun _ => fun
  | [d1, d2, d3] => { results := [.lit (.bool true)], args := [d1, d2, d3] }
  | _ => none }
def topSlabRow : OpenClaim := { program := "ythhnmanhehbbhaa", sum := "8a4ed4bbf68f530043183f05ff7f44e7b0827bfa8bc6ca4743f4cd5ee4b8c8d3", func := "corncrib/cornkeep2.TopSlab", spec := "topSlab", unfollowed := true, recurses := true, plainKeys := false, apart := false }
def TopSlabSaid : Prop := topSlabRow.holds Try.pinned (OpenSpec.ofChange topSlabSpec)

/-- ITS FALSE NEIGHBOUR: 'it returns false'. Refute it at one input. -/
def topSlabWrong : ChangeSpec := { name := "topSlab", fn := fun _ => fun
  | [d1, d2, d3] => { results := [.lit (.bool false)], args := [d1, d2, d3] }
  | _ => none }
def TopSlabWrongFalsely : Prop := topSlabRow.holds Try.pinned (OpenSpec.ofChange topSlabWrong)

/-- 'cornkeep2.TopRope': WHATEVER THE INPUT: true; the input reads as it did. -/
def topRopeSpec : ChangeSpec := { name := "topRope", fn := fun _ => fun
  | [d1, d2, d3] => { results := [.lit (.bool true)], args := [d1, d2, d3] }
  | _ => none }
def topRopeRow : OpenClaim := { program := "ythhnmanhehbbhaa", sum := "8a4ed4bbf68f530043183f05ff7f44e7b0827bfa8bc6ca4743f4cd5ee4b8c8d3", func := "corncrib/cornkeep2.TopRope", spec := "topRope", unfollowed := true, recurses := true, plainKeys := false, apart := false }
def TopRopeSaid : Prop := topRopeRow.holds Try.pinned (OpenSpec.ofChange topRopeSpec)

/-- ITS FALSE NEIGHBOUR: 'it returns false'. Refute it at one input. -/
def topRopeWrong : ChangeSpec := { name := "topRope", fn := fun _ => fun
  | [d1, d2, d3] => { results := [.lit (.bool false)], args := [d1, d2, d3] }
  | _ => none }
def TopRopeWrongFalsely : Prop := topRopeRow.holds Try.pinned (OpenSpec.ofChange topRopeWrong)

/-- 'corntop.TopRing': WHATEVER THE INPUT: true; the input reads as it did. -/
def topRingSpec : ChangeSpec := { name := "topRing", fn := fun _ => fun
  | [d1, d2, d3] => { results := [.lit (.bool true)], args := [d1, d2, d3] }
  | _ => none }
def topRingRow : OpenClaim := { program := "ythhnmanhehbbhaa", sum := "8a4ed4bbf68f530043183f05ff7f44e7b0827bfa8bc6ca4743f4cd5ee4b8c8d3", func := "corncrib/corntop.TopRing", spec := "topRing", unfollowed := true, recurses := true, plainKeys := false, apart := false }
def TopRingSaid : Prop := topRingRow.holds Try.pinned (OpenSpec.ofChange topRingSpec)

/-- ITS FALSE NEIGHBOUR: 'it returns false'. Refute it at one input. -/
def topRingWrong : ChangeSpec := { name := "topRing", fn := fun _ => fun
  | [d1, d2, d3] => { results := [.lit (.bool false)], args := [d1, d2, d3] }
  | _ => none }
def TopRingWrongFalsely : Prop := topRingRow.holds Try.pinned (OpenSpec.ofChange topRingWrong)

/-- 'cornkeep2.TopCompact': WHATEVER THE INPUT: true; the input reads as it did. -/
def topCompactSpec : ChangeSpec := { name := "topCompact", fn := fun _ => fun
  | [d1, d2] => { results := [.lit (.bool true)], args := [d1, d2] }
  | _ => none }
def topCompactRow : OpenClaim := { program := "ythhnmanhehbbhaa", sum := "8a4ed4bbf68f530043183f05ff7f44e7b0827bfa8bc6ca4743f4cd5ee4b8c8d3", func := "corncrib/cornkeep2.TopCompact", spec := "topCompact", unfollowed := true, recurses := true, plainKeys := false, apart := false }
def TopCompactSaid : Prop := topCompactRow.holds Try.pinned (OpenSpec.ofChange topCompactSpec)

/-- ITS FALSE NEIGHBOUR: 'it returns false'. Refute it at one input. -/
def topCompactWrong : ChangeSpec := { name := "topCompact", fn := fun _ => fun
  | [d1, d2] => { results := [.lit (.bool false)], args := [d1, d2] }
  | _ => none }
def TopCompactWrongFalsely : Prop := topCompactRow.holds Try.pinned (OpenSpec.ofChange topCompactWrong)

/- THE SECOND FORM. 'bulk': how many values and letters a reading holds, each counted each time it is reached (what is shared counts as often as it is met; a slice's spare places count too). A statement '..UptoSaid' is the law's where the arguments, and the package variables that the reading takes, are together of bulk at most 1048576: NARROWER than '..Said'. Prove '..Said' where nothing that the law and all that it calls make is longer than what came in: it says more and counts as full. Else prove '..UptoSaid'. A law counts once. -/
mutual
def uptoBulk {H : Type} : DataW H → Nat
  | .lit (.string bytes) => bytes.length + 1
  | .lit _ => 1
  | .nil => 1
  | .ptr d => uptoBulk d + 1
  | .slice elems spare => uptoBulkAll elems + uptoBulkAll spare + 1
  | .agg parts => uptoBulkAll parts + 1
  | .iface _ d => uptoBulk d + 1
  | .map entries => uptoBulkEntries entries + 1
  | .held _ => 1
def uptoBulkAll {H : Type} : List (DataW H) → Nat
  | [] => 0
  | d :: r => uptoBulk d + uptoBulkAll r
def uptoBulkEntries {H : Type} : List (Lit × DataW H) → Nat
  | [] => 0
  | x :: r => uptoBulkEntry x + uptoBulkEntries r
def uptoBulkEntry {H : Type} : Lit × DataW H → Nat
  | (.string bytes, d) => bytes.length + uptoBulk d + 1
  | (_, d) => uptoBulk d + 1
 end
def uptoSmall : (H : Type) → List (DataW H) → Bool := fun _ ds => decide (uptoBulkAll ds ≤ 1048576)
def OpenSpec.upto (s : _root_.Go.ChangeSpec) : _root_.Go.OpenSpec := { _root_.Go.OpenSpec.ofChange s with cond := some uptoSmall }

/-- 'corntop.TopMoves', WHERE WHAT IT READS IS OF BULK AT MOST 1048576: true; the input reads as it did. -/
def topMovesUptoRow : OpenClaim := { program := "ythhnmanhehbbhaa", sum := "8a4ed4bbf68f530043183f05ff7f44e7b0827bfa8bc6ca4743f4cd5ee4b8c8d3", func := "corncrib/corntop.TopMoves", spec := "topMoves", plainKeys := false, apart := false, narrowed := true }
def TopMovesUptoSaid : Prop := topMovesUptoRow.holds Try.pinned (OpenSpec.upto topMovesSpec)

/-- 'cornkeep1.RoomEdits', WHERE WHAT IT READS IS OF BULK AT MOST 1048576: true; the input reads as it did. -/
def roomEditsUptoRow : OpenClaim := { program := "ythhnmanhehbbhaa", sum := "8a4ed4bbf68f530043183f05ff7f44e7b0827bfa8bc6ca4743f4cd5ee4b8c8d3", func := "corncrib/cornkeep1.RoomEdits", spec := "roomEdits", plainKeys := false, apart := false, narrowed := true }
def RoomEditsUptoSaid : Prop := roomEditsUptoRow.holds Try.pinned (OpenSpec.upto roomEditsSpec)

/-- 'cornlaw2.WatchLarge', WHERE WHAT IT READS IS OF BULK AT MOST 1048576: true; the input reads as it did. -/
def watchLargeUptoRow : OpenClaim := { program := "ythhnmanhehbbhaa", sum := "8a4ed4bbf68f530043183f05ff7f44e7b0827bfa8bc6ca4743f4cd5ee4b8c8d3", func := "corncrib/cornlaw2.WatchLarge", spec := "watchLarge", unfollowed := true, recurses := true, plainKeys := false, apart := false, narrowed := true }
def WatchLargeUptoSaid : Prop := watchLargeUptoRow.holds Try.pinned (OpenSpec.upto watchLargeSpec)

/-- 'cornlaw2.WatchSlices', WHERE WHAT IT READS IS OF BULK AT MOST 1048576: true; the input reads as it did. -/
def watchSlicesUptoRow : OpenClaim := { program := "ythhnmanhehbbhaa", sum := "8a4ed4bbf68f530043183f05ff7f44e7b0827bfa8bc6ca4743f4cd5ee4b8c8d3", func := "corncrib/cornlaw2.WatchSlices", spec := "watchSlices", unfollowed := true, recurses := true, plainKeys := false, apart := false, narrowed := true }
def WatchSlicesUptoSaid : Prop := watchSlicesUptoRow.holds Try.pinned (OpenSpec.upto watchSlicesSpec)

/-- 'corntop.TopArena', WHERE WHAT IT READS IS OF BULK AT MOST 1048576: true; the input reads as it did. -/
def topArenaUptoRow : OpenClaim := { program := "ythhnmanhehbbhaa", sum := "8a4ed4bbf68f530043183f05ff7f44e7b0827bfa8bc6ca4743f4cd5ee4b8c8d3", func := "corncrib/corntop.TopArena", spec := "topArena", unfollowed := true, recurses := true, plainKeys := false, apart := false, narrowed := true }
def TopArenaUptoSaid : Prop := topArenaUptoRow.holds Try.pinned (OpenSpec.upto topArenaSpec)

/-- 'cornkeep2.SharePacked', WHERE WHAT IT READS IS OF BULK AT MOST 1048576: true; the input reads as it did. -/
def sharePackedUptoRow : OpenClaim := { program := "ythhnmanhehbbhaa", sum := "8a4ed4bbf68f530043183f05ff7f44e7b0827bfa8bc6ca4743f4cd5ee4b8c8d3", func := "corncrib/cornkeep2.SharePacked", spec := "sharePacked", unfollowed := true, recurses := true, plainKeys := false, apart := false, narrowed := true }
def SharePackedUptoSaid : Prop := sharePackedUptoRow.holds Try.pinned (OpenSpec.upto sharePackedSpec)

/-- 'cornkeep2.TopSlab', WHERE WHAT IT READS IS OF BULK AT MOST 1048576: true; the input reads as it did. -/
def topSlabUptoRow : OpenClaim := { program := "ythhnmanhehbbhaa", sum := "8a4ed4bbf68f530043183f05ff7f44e7b0827bfa8bc6ca4743f4cd5ee4b8c8d3", func := "corncrib/cornkeep2.TopSlab", spec := "topSlab", unfollowed := true, recurses := true, plainKeys := false, apart := false, narrowed := true }
def TopSlabUptoSaid : Prop := topSlabUptoRow.holds Try.pinned (OpenSpec.upto topSlabSpec)

/-- 'cornkeep2.TopRope', WHERE WHAT IT READS IS OF BULK AT MOST 1048576: true; the input reads as it did. -/
def topRopeUptoRow : OpenClaim := { program := "ythhnmanhehbbhaa", sum := "8a4ed4bbf68f530043183f05ff7f44e7b0827bfa8bc6ca4743f4cd5ee4b8c8d3", func := "corncrib/cornkeep2.TopRope", spec := "topRope", unfollowed := true, recurses := true, plainKeys := false, apart := false, narrowed := true }
def TopRopeUptoSaid : Prop := topRopeUptoRow.holds Try.pinned (OpenSpec.upto topRopeSpec)

/-- 'corntop.TopRing', WHERE WHAT IT READS IS OF BULK AT MOST 1048576: true; the input reads as it did. -/
def topRingUptoRow : OpenClaim := { program := "ythhnmanhehbbhaa", sum := "8a4ed4bbf68f530043183f05ff7f44e7b0827bfa8bc6ca4743f4cd5ee4b8c8d3", func := "corncrib/corntop.TopRing", spec := "topRing", unfollowed := true, recurses := true, plainKeys := false, apart := false, narrowed := true }
def TopRingUptoSaid : Prop := topRingUptoRow.holds Try.pinned (OpenSpec.upto topRingSpec)

/-- 'cornkeep2.TopCompact', WHERE WHAT IT READS IS OF BULK AT MOST 1048576: true; the input reads as it did. -/
def topCompactUptoRow : OpenClaim := { program := "ythhnmanhehbbhaa", sum := "8a4ed4bbf68f530043183f05ff7f44e7b0827bfa8bc6ca4743f4cd5ee4b8c8d3", func := "corncrib/cornkeep2.TopCompact", spec := "topCompact", unfollowed := true, recurses := true, plainKeys := false, apart := false, narrowed := true }
def TopCompactUptoSaid : Prop := topCompactUptoRow.holds Try.pinned (OpenSpec.upto topCompactSpec)

end Rows
end Go.Proofs.Ythhnmanhehbbhaa
