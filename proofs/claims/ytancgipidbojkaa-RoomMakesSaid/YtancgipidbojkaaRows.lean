/-
  No cell of these rows narrows 'for every input' (looked for: loops, veiled, ifaces, maps, wideKeys, modest, calm, conditions, laid).
  DERIVED. THE GIVEN ROWS OF THIS SEAT. 12 by the template 'for every input the law returns true; each argument reads behind the call as it read before'; 0 by the template 'total and deterministic' (their statements: YtancgipidbojkaaTotals.lean).
  GIVEN WITH THE SEED: the statements are not yours to turn. If you find one false, say at which input.
  Laid BY PROGRAM, IN A SANDBOX (cutbox-rows.mjs): the forced cells as the released guide's own fill.sh prints them over the translation a7ee79824dea5bfd… (all of the seat's roots in one cut). By AI agents, Wed Nov 11 2026. No macro, syntax, notation, axiom, sorry.
-/
import Derived.Test.YtancgipidbojkaaChecked
import GoSem.Claim
import GoSem.ClaimJoined
import GoSem.ClaimMapViews
import Derived.JoinedTies
import Derived.KernelRfl
namespace Go.Proofs.Ytancgipidbojkaa
/- THE CELL 'sum', in the pinned program and in every row, IS THE sha256 OF THE DUMP (.gsa) THAT YtancgipidbojkaaProg.lean LOADS. Nothing in Lean hashes anything: it is a label: what it is worth is what the hold of that sum in a sandbox is worth. -/
noncomputable def Try.pinned : Pinned := { name := "ytancgipidbojkaa", sum := "a7ee79824dea5bfd436cd7a123ba77a8ef745e5be75b6fe9ff35c59f3f6a7b9c", checked := Try.checked }
namespace Rows
def none {H : Type} : Left H := { results := [], args := [] }

/-- 'cornlaw1.RoomPieces': WHATEVER THE INPUT: true; the input reads as it did. -/
def roomPiecesSpec : ChangeSpec := { name := "roomPieces", fn := fun _ => fun
  | [d1, d2] => { results := [.lit (.bool true)], args := [d1, d2] }
  | _ => none }
def roomPiecesRow : OpenClaim := { program := "ytancgipidbojkaa", sum := "a7ee79824dea5bfd436cd7a123ba77a8ef745e5be75b6fe9ff35c59f3f6a7b9c", func := "corncrib/cornlaw1.RoomPieces", spec := "roomPieces", apart := false }
def RoomPiecesSaid : Prop := roomPiecesRow.holds Try.pinned (OpenSpec.ofChange roomPiecesSpec)

/-- ITS FALSE NEIGHBOUR: 'it returns false'. Refute it at one input. -/
def roomPiecesWrong : ChangeSpec := { name := "roomPieces", fn := fun _ => fun
  | [d1, d2] => { results := [.lit (.bool false)], args := [d1, d2] }
  | _ => none }
def RoomPiecesWrongFalsely : Prop := roomPiecesRow.holds Try.pinned (OpenSpec.ofChange roomPiecesWrong)

/-- 'cornlaw1.RoomMakes': WHATEVER THE INPUT: true; the input reads as it did. -/
def roomMakesSpec : ChangeSpec := { name := "roomMakes", fn := fun _ => fun
  | [d1, d2, d3, d4] => { results := [.lit (.bool true)], args := [d1, d2, d3, d4] }
  | _ => none }
def roomMakesRow : OpenClaim := { program := "ytancgipidbojkaa", sum := "a7ee79824dea5bfd436cd7a123ba77a8ef745e5be75b6fe9ff35c59f3f6a7b9c", func := "corncrib/cornlaw1.RoomMakes", spec := "roomMakes", apart := false }
def RoomMakesSaid : Prop := roomMakesRow.holds Try.pinned (OpenSpec.ofChange roomMakesSpec)

/-- ITS FALSE NEIGHBOUR: 'it returns false'. Refute it at one input. -/
def roomMakesWrong : ChangeSpec := { name := "roomMakes", fn := fun _ => fun
  | [d1, d2, d3, d4] => { results := [.lit (.bool false)], args := [d1, d2, d3, d4] }
  | _ => none }
def RoomMakesWrongFalsely : Prop := roomMakesRow.holds Try.pinned (OpenSpec.ofChange roomMakesWrong)

/-- 'cornkeep1.FairShares': WHATEVER THE INPUT: true; the input reads as it did. -/
def fairSharesSpec : ChangeSpec := { name := "fairShares", fn := fun _ => fun
  | [d1, d2] => { results := [.lit (.bool true)], args := [d1, d2] }
  | _ => none }
def fairSharesRow : OpenClaim := { program := "ytancgipidbojkaa", sum := "a7ee79824dea5bfd436cd7a123ba77a8ef745e5be75b6fe9ff35c59f3f6a7b9c", func := "corncrib/cornkeep1.FairShares", spec := "fairShares", unfollowed := true, recurses := true, apart := false }
def FairSharesSaid : Prop := fairSharesRow.holds Try.pinned (OpenSpec.ofChange fairSharesSpec)

/-- ITS FALSE NEIGHBOUR: 'it returns false'. Refute it at one input. -/
def fairSharesWrong : ChangeSpec := { name := "fairShares", fn := fun _ => fun
  | [d1, d2] => { results := [.lit (.bool false)], args := [d1, d2] }
  | _ => none }
def FairSharesWrongFalsely : Prop := fairSharesRow.holds Try.pinned (OpenSpec.ofChange fairSharesWrong)

/-- 'cornlaw1.RoomClasses': WHATEVER THE INPUT: true; the input reads as it did. -/
def roomClassesSpec : ChangeSpec := { name := "roomClasses", fn := fun _ => fun
  | [d] => { results := [.lit (.bool true)], args := [d] }
  | _ => none }
def roomClassesRow : OpenClaim := { program := "ytancgipidbojkaa", sum := "a7ee79824dea5bfd436cd7a123ba77a8ef745e5be75b6fe9ff35c59f3f6a7b9c", func := "corncrib/cornlaw1.RoomClasses", spec := "roomClasses", apart := false }
def RoomClassesSaid : Prop := roomClassesRow.holds Try.pinned (OpenSpec.ofChange roomClassesSpec)

/-- ITS FALSE NEIGHBOUR: 'it returns false'. Refute it at one input. -/
def roomClassesWrong : ChangeSpec := { name := "roomClasses", fn := fun _ => fun
  | [d] => { results := [.lit (.bool false)], args := [d] }
  | _ => none }
def RoomClassesWrongFalsely : Prop := roomClassesRow.holds Try.pinned (OpenSpec.ofChange roomClassesWrong)

/-- 'cornlaw1.LedgerFair': WHATEVER THE INPUT: true; the input reads as it did. -/
def ledgerFairSpec : ChangeSpec := { name := "ledgerFair", fn := fun _ => fun
  | [d1, d2] => { results := [.lit (.bool true)], args := [d1, d2] }
  | _ => none }
def ledgerFairRow : OpenClaim := { program := "ytancgipidbojkaa", sum := "a7ee79824dea5bfd436cd7a123ba77a8ef745e5be75b6fe9ff35c59f3f6a7b9c", func := "corncrib/cornlaw1.LedgerFair", spec := "ledgerFair", unfollowed := true, recurses := true, apart := false }
def LedgerFairSaid : Prop := ledgerFairRow.holds Try.pinned (OpenSpec.ofChange ledgerFairSpec)

/-- ITS FALSE NEIGHBOUR: 'it returns false'. Refute it at one input. -/
def ledgerFairWrong : ChangeSpec := { name := "ledgerFair", fn := fun _ => fun
  | [d1, d2] => { results := [.lit (.bool false)], args := [d1, d2] }
  | _ => none }
def LedgerFairWrongFalsely : Prop := ledgerFairRow.holds Try.pinned (OpenSpec.ofChange ledgerFairWrong)

/-- 'cornlaw2.MoveMade': WHATEVER THE INPUT: true; the input reads as it did. -/
def moveMadeSpec : ChangeSpec := { name := "moveMade", fn := fun _ => fun
  | [d1, d2] => { results := [.lit (.bool true)], args := [d1, d2] }
  | _ => none }
def moveMadeRow : OpenClaim := { program := "ytancgipidbojkaa", sum := "a7ee79824dea5bfd436cd7a123ba77a8ef745e5be75b6fe9ff35c59f3f6a7b9c", func := "corncrib/cornlaw2.MoveMade", spec := "moveMade", apart := false }
def MoveMadeSaid : Prop := moveMadeRow.holds Try.pinned (OpenSpec.ofChange moveMadeSpec)

/-- ITS FALSE NEIGHBOUR: 'it returns false'. Refute it at one input. -/
def moveMadeWrong : ChangeSpec := { name := "moveMade", fn := fun _ => fun
  | [d1, d2] => { results := [.lit (.bool false)], args := [d1, d2] }
  | _ => none }
def MoveMadeWrongFalsely : Prop := moveMadeRow.holds Try.pinned (OpenSpec.ofChange moveMadeWrong)

/-- 'cornlaw2.RopeMade': WHATEVER THE INPUT: true; the input reads as it did. -/
def ropeMadeSpec : ChangeSpec := { name := "ropeMade", fn := fun _ => fun
  | [d1, d2, d3] => { results := [.lit (.bool true)], args := [d1, d2, d3] }
  | _ => none }
def ropeMadeRow : OpenClaim := { program := "ytancgipidbojkaa", sum := "a7ee79824dea5bfd436cd7a123ba77a8ef745e5be75b6fe9ff35c59f3f6a7b9c", func := "corncrib/cornlaw2.RopeMade", spec := "ropeMade", apart := false }
def RopeMadeSaid : Prop := ropeMadeRow.holds Try.pinned (OpenSpec.ofChange ropeMadeSpec)

/-- ITS FALSE NEIGHBOUR: 'it returns false'. Refute it at one input. -/
def ropeMadeWrong : ChangeSpec := { name := "ropeMade", fn := fun _ => fun
  | [d1, d2, d3] => { results := [.lit (.bool false)], args := [d1, d2, d3] }
  | _ => none }
def RopeMadeWrongFalsely : Prop := ropeMadeRow.holds Try.pinned (OpenSpec.ofChange ropeMadeWrong)

/-- 'cornlaw2.SlabMade': WHATEVER THE INPUT: true; the input reads as it did. -/
def slabMadeSpec : ChangeSpec := { name := "slabMade", fn := fun _ => fun
  | [d1, d2, d3] => { results := [.lit (.bool true)], args := [d1, d2, d3] }
  | _ => none }
def slabMadeRow : OpenClaim := { program := "ytancgipidbojkaa", sum := "a7ee79824dea5bfd436cd7a123ba77a8ef745e5be75b6fe9ff35c59f3f6a7b9c", func := "corncrib/cornlaw2.SlabMade", spec := "slabMade", apart := false }
def SlabMadeSaid : Prop := slabMadeRow.holds Try.pinned (OpenSpec.ofChange slabMadeSpec)

/-- ITS FALSE NEIGHBOUR: 'it returns false'. Refute it at one input. -/
def slabMadeWrong : ChangeSpec := { name := "slabMade", fn := fun _ => fun
  | [d1, d2, d3] => { results := [.lit (.bool false)], args := [d1, d2, d3] }
  | _ => none }
def SlabMadeWrongFalsely : Prop := slabMadeRow.holds Try.pinned (OpenSpec.ofChange slabMadeWrong)

/-- 'cornlaw1.RoomGrows': WHATEVER THE INPUT: true; the input reads as it did. -/
def roomGrowsSpec : ChangeSpec := { name := "roomGrows", fn := fun _ => fun
  | [d1, d2, d3] => { results := [.lit (.bool true)], args := [d1, d2, d3] }
  | _ => none }
def roomGrowsRow : OpenClaim := { program := "ytancgipidbojkaa", sum := "a7ee79824dea5bfd436cd7a123ba77a8ef745e5be75b6fe9ff35c59f3f6a7b9c", func := "corncrib/cornlaw1.RoomGrows", spec := "roomGrows", apart := false }
def RoomGrowsSaid : Prop := roomGrowsRow.holds Try.pinned (OpenSpec.ofChange roomGrowsSpec)

/-- ITS FALSE NEIGHBOUR: 'it returns false'. Refute it at one input. -/
def roomGrowsWrong : ChangeSpec := { name := "roomGrows", fn := fun _ => fun
  | [d1, d2, d3] => { results := [.lit (.bool false)], args := [d1, d2, d3] }
  | _ => none }
def RoomGrowsWrongFalsely : Prop := roomGrowsRow.holds Try.pinned (OpenSpec.ofChange roomGrowsWrong)

/-- 'cornkeep1.RoomTurns': WHATEVER THE INPUT: true; the input reads as it did. -/
def roomTurnsSpec : ChangeSpec := { name := "roomTurns", fn := fun _ => fun
  | [d1, d2, d3] => { results := [.lit (.bool true)], args := [d1, d2, d3] }
  | _ => none }
def roomTurnsRow : OpenClaim := { program := "ytancgipidbojkaa", sum := "a7ee79824dea5bfd436cd7a123ba77a8ef745e5be75b6fe9ff35c59f3f6a7b9c", func := "corncrib/cornkeep1.RoomTurns", spec := "roomTurns", apart := false }
def RoomTurnsSaid : Prop := roomTurnsRow.holds Try.pinned (OpenSpec.ofChange roomTurnsSpec)

/-- ITS FALSE NEIGHBOUR: 'it returns false'. Refute it at one input. -/
def roomTurnsWrong : ChangeSpec := { name := "roomTurns", fn := fun _ => fun
  | [d1, d2, d3] => { results := [.lit (.bool false)], args := [d1, d2, d3] }
  | _ => none }
def RoomTurnsWrongFalsely : Prop := roomTurnsRow.holds Try.pinned (OpenSpec.ofChange roomTurnsWrong)

/-- 'cornkeep1.OctetsRound': WHATEVER THE INPUT: true; the input reads as it did. -/
def octetsRoundSpec : ChangeSpec := { name := "octetsRound", fn := fun _ => fun
  | [d] => { results := [.lit (.bool true)], args := [d] }
  | _ => none }
def octetsRoundRow : OpenClaim := { program := "ytancgipidbojkaa", sum := "a7ee79824dea5bfd436cd7a123ba77a8ef745e5be75b6fe9ff35c59f3f6a7b9c", func := "corncrib/cornkeep1.OctetsRound", spec := "octetsRound", inPlace := ["internal/abi.NoEscape", "internal/bytealg.IndexByteString"], apart := false }
def OctetsRoundSaid : Prop := octetsRoundRow.holds Try.pinned (OpenSpec.ofChange octetsRoundSpec)

/-- ITS FALSE NEIGHBOUR: 'it returns false'. Refute it at one input. -/
def octetsRoundWrong : ChangeSpec := { name := "octetsRound", fn := fun _ => fun
  | [d] => { results := [.lit (.bool false)], args := [d] }
  | _ => none }
def OctetsRoundWrongFalsely : Prop := octetsRoundRow.holds Try.pinned (OpenSpec.ofChange octetsRoundWrong)

/-- 'cornlaw2.RopeOthers': WHATEVER THE INPUT: true; the input reads as it did. -/
def ropeOthersSpec : ChangeSpec := { name := "ropeOthers", fn := fun _ => fun
  | [d1, d2, d3, d4] => { results := [.lit (.bool true)], args := [d1, d2, d3, d4] }
  | _ => none }
def ropeOthersRow : OpenClaim := { program := "ytancgipidbojkaa", sum := "a7ee79824dea5bfd436cd7a123ba77a8ef745e5be75b6fe9ff35c59f3f6a7b9c", func := "corncrib/cornlaw2.RopeOthers", spec := "ropeOthers", unfollowed := true, recurses := true, apart := false }
def RopeOthersSaid : Prop := ropeOthersRow.holds Try.pinned (OpenSpec.ofChange ropeOthersSpec)

/-- ITS FALSE NEIGHBOUR: 'it returns false'. Refute it at one input. -/
def ropeOthersWrong : ChangeSpec := { name := "ropeOthers", fn := fun _ => fun
  | [d1, d2, d3, d4] => { results := [.lit (.bool false)], args := [d1, d2, d3, d4] }
  | _ => none }
def RopeOthersWrongFalsely : Prop := ropeOthersRow.holds Try.pinned (OpenSpec.ofChange ropeOthersWrong)

/- THE SECOND FORM. 'bulk': how many values and letters a reading holds, each counted each time it is reached (what is shared counts as often as it is met; a slice's spare places count too). A statement '..UptoSaid' is the law's where the arguments, and the package variables that the reading takes, are together of bulk at most 1048576: NARROWER than '..Said'. Prove '..Said' where nothing that the law and all that it calls make is longer than what came in: it says more and counts as full. Else prove '..UptoSaid'. A law counts once. -/
mutual
def uptoBulk {H : Type} : DataW H → Nat
  | .lit (.string bytes) => bytes.length + 1
  | .lit _ => 1
  | .nil => 1
  | .ptr d => uptoBulk d + 1
  | .slice elems spare => uptoBulkAll elems + uptoBulkAll spare + 1
  | .agg parts => uptoBulkAll parts + 1
  | .iface _ d => uptoBulk d + 1
  | .map entries => uptoBulkEntries entries + 1
  | .held _ => 1
def uptoBulkAll {H : Type} : List (DataW H) → Nat
  | [] => 0
  | d :: r => uptoBulk d + uptoBulkAll r
def uptoBulkEntries {H : Type} : List (Lit × DataW H) → Nat
  | [] => 0
  | x :: r => uptoBulkEntry x + uptoBulkEntries r
def uptoBulkEntry {H : Type} : Lit × DataW H → Nat
  | (.string bytes, d) => bytes.length + uptoBulk d + 1
  | (_, d) => uptoBulk d + 1
 end
def uptoSmall : (H : Type) → List (DataW H) → Bool := fun _ ds => decide (uptoBulkAll ds ≤ 1048576)
def OpenSpec.upto (s : _root_.Go.ChangeSpec) : _root_.Go.OpenSpec := { _root_.Go.OpenSpec.ofChange s with cond := some uptoSmall }

/-- 'cornlaw1.RoomPieces', WHERE WHAT IT READS IS OF BULK AT MOST 1048576: true; the input reads as it did. -/
def roomPiecesUptoRow : OpenClaim := { program := "ytancgipidbojkaa", sum := "a7ee79824dea5bfd436cd7a123ba77a8ef745e5be75b6fe9ff35c59f3f6a7b9c", func := "corncrib/cornlaw1.RoomPieces", spec := "roomPieces", apart := false, narrowed := true }
def RoomPiecesUptoSaid : Prop := roomPiecesUptoRow.holds Try.pinned (OpenSpec.upto roomPiecesSpec)

/-- 'cornlaw1.RoomMakes', WHERE WHAT IT READS IS OF BULK AT MOST 1048576: true; the input reads as it did. -/
def roomMakesUptoRow : OpenClaim := { program := "ytancgipidbojkaa", sum := "a7ee79824dea5bfd436cd7a123ba77a8ef745e5be75b6fe9ff35c59f3f6a7b9c", func := "corncrib/cornlaw1.RoomMakes", spec := "roomMakes", apart := false, narrowed := true }
def RoomMakesUptoSaid : Prop := roomMakesUptoRow.holds Try.pinned (OpenSpec.upto roomMakesSpec)

/-- 'cornkeep1.FairShares', WHERE WHAT IT READS IS OF BULK AT MOST 1048576: true; the input reads as it did. -/
def fairSharesUptoRow : OpenClaim := { program := "ytancgipidbojkaa", sum := "a7ee79824dea5bfd436cd7a123ba77a8ef745e5be75b6fe9ff35c59f3f6a7b9c", func := "corncrib/cornkeep1.FairShares", spec := "fairShares", unfollowed := true, recurses := true, apart := false, narrowed := true }
def FairSharesUptoSaid : Prop := fairSharesUptoRow.holds Try.pinned (OpenSpec.upto fairSharesSpec)

/-- 'cornlaw1.RoomClasses', WHERE WHAT IT READS IS OF BULK AT MOST 1048576: true; the input reads as it did. -/
def roomClassesUptoRow : OpenClaim := { program := "ytancgipidbojkaa", sum := "a7ee79824dea5bfd436cd7a123ba77a8ef745e5be75b6fe9ff35c59f3f6a7b9c", func := "corncrib/cornlaw1.RoomClasses", spec := "roomClasses", apart := false, narrowed := true }
def RoomClassesUptoSaid : Prop := roomClassesUptoRow.holds Try.pinned (OpenSpec.upto roomClassesSpec)

/-- 'cornlaw1.LedgerFair', WHERE WHAT IT READS IS OF BULK AT MOST 1048576: true; the input reads as it did. -/
def ledgerFairUptoRow : OpenClaim := { program := "ytancgipidbojkaa", sum := "a7ee79824dea5bfd436cd7a123ba77a8ef745e5be75b6fe9ff35c59f3f6a7b9c", func := "corncrib/cornlaw1.LedgerFair", spec := "ledgerFair", unfollowed := true, recurses := true, apart := false, narrowed := true }
def LedgerFairUptoSaid : Prop := ledgerFairUptoRow.holds Try.pinned (OpenSpec.upto ledgerFairSpec)

/-- 'cornlaw2.MoveMade', WHERE WHAT IT READS IS OF BULK AT MOST 1048576: true; the input reads as it did. -/
def moveMadeUptoRow : OpenClaim := { program := "ytancgipidbojkaa", sum := "a7ee79824dea5bfd436cd7a123ba77a8ef745e5be75b6fe9ff35c59f3f6a7b9c", func := "corncrib/cornlaw2.MoveMade", spec := "moveMade", apart := false, narrowed := true }
def MoveMadeUptoSaid : Prop := moveMadeUptoRow.holds Try.pinned (OpenSpec.upto moveMadeSpec)

/-- 'cornlaw2.RopeMade', WHERE WHAT IT READS IS OF BULK AT MOST 1048576: true; the input reads as it did. -/
def ropeMadeUptoRow : OpenClaim := { program := "ytancgipidbojkaa", sum := "a7ee79824dea5bfd436cd7a123ba77a8ef745e5be75b6fe9ff35c59f3f6a7b9c", func := "corncrib/cornlaw2.RopeMade", spec := "ropeMade", apart := false, narrowed := true }
def RopeMadeUptoSaid : Prop := ropeMadeUptoRow.holds Try.pinned (OpenSpec.upto ropeMadeSpec)

/-- 'cornlaw2.SlabMade', WHERE WHAT IT READS IS OF BULK AT MOST 1048576: true; the input reads as it did. -/
def slabMadeUptoRow : OpenClaim := { program := "ytancgipidbojkaa", sum := "a7ee79824dea5bfd436cd7a123ba77a8ef745e5be75b6fe9ff35c59f3f6a7b9c", func := "corncrib/cornlaw2.SlabMade", spec := "slabMade", apart := false, narrowed := true }
def SlabMadeUptoSaid : Prop := slabMadeUptoRow.holds Try.pinned (OpenSpec.upto slabMadeSpec)

/-- 'cornlaw1.RoomGrows', WHERE WHAT IT READS IS OF BULK AT MOST 1048576: true; the input reads as it did. -/
def roomGrowsUptoRow : OpenClaim := { program := "ytancgipidbojkaa", sum := "a7ee79824dea5bfd436cd7a123ba77a8ef745e5be75b6fe9ff35c59f3f6a7b9c", func := "corncrib/cornlaw1.RoomGrows", spec := "roomGrows", apart := false, narrowed := true }
def RoomGrowsUptoSaid : Prop := roomGrowsUptoRow.holds Try.pinned (OpenSpec.upto roomGrowsSpec)

/-- 'cornkeep1.RoomTurns', WHERE WHAT IT READS IS OF BULK AT MOST 1048576: true; the input reads as it did. -/
def roomTurnsUptoRow : OpenClaim := { program := "ytancgipidbojkaa", sum := "a7ee79824dea5bfd436cd7a123ba77a8ef745e5be75b6fe9ff35c59f3f6a7b9c", func := "corncrib/cornkeep1.RoomTurns", spec := "roomTurns", apart := false, narrowed := true }
def RoomTurnsUptoSaid : Prop := roomTurnsUptoRow.holds Try.pinned (OpenSpec.upto roomTurnsSpec)

/-- 'cornkeep1.OctetsRound', WHERE WHAT IT READS IS OF BULK AT MOST 1048576: true; the input reads as it did. -/
def octetsRoundUptoRow : OpenClaim := { program := "ytancgipidbojkaa", sum := "a7ee79824dea5bfd436cd7a123ba77a8ef745e5be75b6fe9ff35c59f3f6a7b9c", func := "corncrib/cornkeep1.OctetsRound", spec := "octetsRound", inPlace := ["internal/abi.NoEscape", "internal/bytealg.IndexByteString"], apart := false, narrowed := true }
def OctetsRoundUptoSaid : Prop := octetsRoundUptoRow.holds Try.pinned (OpenSpec.upto octetsRoundSpec)

/-- 'cornlaw2.RopeOthers', WHERE WHAT IT READS IS OF BULK AT MOST 1048576: true; the input reads as it did. -/
def ropeOthersUptoRow : OpenClaim := { program := "ytancgipidbojkaa", sum := "a7ee79824dea5bfd436cd7a123ba77a8ef745e5be75b6fe9ff35c59f3f6a7b9c", func := "corncrib/cornlaw2.RopeOthers", spec := "ropeOthers", unfollowed := true, recurses := true, apart := false, narrowed := true }
def RopeOthersUptoSaid : Prop := ropeOthersUptoRow.holds Try.pinned (OpenSpec.upto ropeOthersSpec)

end Rows
end Go.Proofs.Ytancgipidbojkaa
