/-
  No cell of these rows narrows 'for every input' (looked for: loops, veiled, ifaces, maps, wideKeys, modest, calm, conditions, laid).
  DERIVED. THE GIVEN ROWS OF THIS SEAT. 2 by the template 'for every input the law returns true; each argument reads behind the call as it read before'; 0 by the template 'total and deterministic' (their statements: YtghdeoeajbnfkaaTotals.lean).
  GIVEN WITH THE SEED: the statements are not yours to turn. If you find one false, say at which input.
  Laid BY PROGRAM, IN A SANDBOX (cutbox-rows.mjs): the forced cells as the released guide's own fill.sh prints them over the translation 211f653cf76eb51d… (all of the seat's roots in one cut). By AI agents, Wed Nov 11 2026. No macro, syntax, notation, axiom, sorry.
-/
import Derived.Test.YtghdeoeajbnfkaaChecked
import GoSem.Claim
import GoSem.ClaimJoined
import GoSem.ClaimMapViews
import Derived.JoinedTies
import Derived.KernelRfl
namespace Go.Proofs.Ytghdeoeajbnfkaa
/- THE CELL 'sum', in the pinned program and in every row, IS THE sha256 OF THE DUMP (.gsa) THAT YtghdeoeajbnfkaaProg.lean LOADS. Nothing in Lean hashes anything: it is a label: what it is worth is what the hold of that sum in a sandbox is worth. -/
noncomputable def Try.pinned : Pinned := { name := "ytghdeoeajbnfkaa", sum := "211f653cf76eb51d7c6bfcb5934417a462eafa652b3eb63aa665bdd6f8f55d24", checked := Try.checked }
namespace Rows
def none {H : Type} : Left H := { results := [], args := [] }

/-- 'cornlaw2.WatchLarge': WHATEVER THE INPUT: true; the input reads as it did. -/
def watchLargeSpec : ChangeSpec := { name := "watchLarge", fn := fun _ => fun
  | [d1, d2] => { results := [.lit (.bool true)], args := [d1, d2] }
  | _ => none }
def watchLargeRow : OpenClaim := { program := "ytghdeoeajbnfkaa", sum := "211f653cf76eb51d7c6bfcb5934417a462eafa652b3eb63aa665bdd6f8f55d24", func := "corncrib/cornlaw2.WatchLarge", spec := "watchLarge", unfollowed := true, recurses := true, plainKeys := false, apart := false }
def WatchLargeSaid : Prop := watchLargeRow.holds Try.pinned (OpenSpec.ofChange watchLargeSpec)

/-- ITS FALSE NEIGHBOUR: 'it returns false'. Refute it at one input. -/
def watchLargeWrong : ChangeSpec := { name := "watchLarge", fn := fun _ => fun
  | [d1, d2] => { results := [.lit (.bool false)], args := [d1, d2] }
  | _ => none }
def WatchLargeWrongFalsely : Prop := watchLargeRow.holds Try.pinned (OpenSpec.ofChange watchLargeWrong)

/-- 'cornlaw2.WatchSlices': WHATEVER THE INPUT: true; the input reads as it did. -/
def watchSlicesSpec : ChangeSpec := { name := "watchSlices", fn := fun _ => fun
  | [d1, d2] => { results := [.lit (.bool true)], args := [d1, d2] }
  | _ => none }
def watchSlicesRow : OpenClaim := { program := "ytghdeoeajbnfkaa", sum := "211f653cf76eb51d7c6bfcb5934417a462eafa652b3eb63aa665bdd6f8f55d24", func := "corncrib/cornlaw2.WatchSlices", spec := "watchSlices", unfollowed := true, recurses := true, plainKeys := false, apart := false }
def WatchSlicesSaid : Prop := watchSlicesRow.holds Try.pinned (OpenSpec.ofChange watchSlicesSpec)

/-- ITS FALSE NEIGHBOUR: 'it returns false'. Refute it at one input. -/
def watchSlicesWrong : ChangeSpec := { name := "watchSlices", fn := fun _ => fun
  | [d1, d2] => { results := [.lit (.bool false)], args := [d1, d2] }
  | _ => none }
def WatchSlicesWrongFalsely : Prop := watchSlicesRow.holds Try.pinned (OpenSpec.ofChange watchSlicesWrong)

/- THE SECOND FORM. 'bulk': how many values and letters a reading holds, each counted each time it is reached (what is shared counts as often as it is met; a slice's spare places count too). A statement '..UptoSaid' is the law's where the arguments, and the package variables that the reading takes, are together of bulk at most 1048576: NARROWER than '..Said'. Prove '..Said' where nothing that the law and all that it calls make is longer than what came in: it says more and counts as full. Else prove '..UptoSaid'. A law counts once. -/
mutual
def uptoBulk {H : Type} : DataW H → Nat
  | .lit (.string bytes) => bytes.length + 1
  | .lit _ => 1
  | .nil => 1
  | .ptr d => uptoBulk d + 1
  | .slice elems spare => uptoBulkAll elems + uptoBulkAll spare + 1
  | .agg parts => uptoBulkAll parts + 1
  | .iface _ d => uptoBulk d + 1
  | .map entries => uptoBulkEntries entries + 1
  | .held _ => 1
def uptoBulkAll {H : Type} : List (DataW H) → Nat
  | [] => 0
  | d :: r => uptoBulk d + uptoBulkAll r
def uptoBulkEntries {H : Type} : List (Lit × DataW H) → Nat
  | [] => 0
  | x :: r => uptoBulkEntry x + uptoBulkEntries r
def uptoBulkEntry {H : Type} : Lit × DataW H → Nat
  | (.string bytes, d) => bytes.length + uptoBulk d + 1
  | (_, d) => uptoBulk d + 1
 end
def uptoSmall : (H : Type) → List (DataW H) → Bool := fun _ ds => decide (uptoBulkAll ds ≤ 1048576)
def OpenSpec.upto (s : _root_.Go.ChangeSpec) : _root_.Go.OpenSpec := { _root_.Go.OpenSpec.ofChange s with cond := some uptoSmall }

/-- 'cornlaw2.WatchLarge', WHERE WHAT IT READS IS OF BULK AT MOST 1048576: true; the input reads as it did. -/
def watchLargeUptoRow : OpenClaim := { program := "ytghdeoeajbnfkaa", sum := "211f653cf76eb51d7c6bfcb5934417a462eafa652b3eb63aa665bdd6f8f55d24", func := "corncrib/cornlaw2.WatchLarge", spec := "watchLarge", unfollowed := true, recurses := true, plainKeys := false, apart := false, narrowed := true }
def WatchLargeUptoSaid : Prop := watchLargeUptoRow.holds Try.pinned (OpenSpec.upto watchLargeSpec)

/-- 'cornlaw2.WatchSlices', WHERE WHAT IT READS IS OF BULK AT MOST 1048576: true; the input reads as it did. -/
def watchSlicesUptoRow : OpenClaim := { program := "ytghdeoeajbnfkaa", sum := "211f653cf76eb51d7c6bfcb5934417a462eafa652b3eb63aa665bdd6f8f55d24", func := "corncrib/cornlaw2.WatchSlices", spec := "watchSlices", unfollowed := true, recurses := true, plainKeys := false, apart := false, narrowed := true }
def WatchSlicesUptoSaid : Prop := watchSlicesUptoRow.holds Try.pinned (OpenSpec.upto watchSlicesSpec)

end Rows
end Go.Proofs.Ytghdeoeajbnfkaa
