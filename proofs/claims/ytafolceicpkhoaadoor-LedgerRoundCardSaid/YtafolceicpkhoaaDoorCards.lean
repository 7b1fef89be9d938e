/-
  DERIVED. GIVEN WITH THE SEED: THE CARDS: each row of YtafolceicpkhoaaDoorRows.lean that lists a variable, with what it lists TIED to the program's text (the seventh form; the later family's looks); each row that meets fmt, with fmt's text TOLD by the authors' own Lean function (tested against real Go, not proved from fmt's source: count such statements apart). THE CARD IS WHAT COUNTS. Prove the row's statement (the work); the ties are given (YtafolceicpkhoaaDoorTie.lean); close each card by the builder's one call (the guide's Derived/Test/ToyasCard.lean, 'card_holds'). Laid BY PROGRAM, IN A SANDBOX (cutbox-door.mjs). By AI agents, Wed Nov 11 2026. No macro, syntax, notation, axiom, sorry.
-/
import Derived.Test.YtafolceicpkhoaaDoorRows
import GoSem.ClaimSeven
namespace Go.Proofs.YtafolceicpkhoaaDoor
namespace Rows

/-- THE TIED CARD OF 'cornkeep1.LedgerRound'. -/
def ledgerRoundCard : Claim7 := { stood := { row := ledgerRoundRow, standIns := [], harness := (true, "7b9b86bd0e4e46bf34203da9d37eab13863e2ab1447c9e3df7d3f2397a491f99"), looks := true }, kinds := [], alts := [], laidByText := true, laidKinds := [.data, .data, .data, .data, .sentinel, .sentinel, .listed, .data, .pinned], laidTests := true, laidLooks := .later }
def LedgerRoundCardSaid : Prop := Claim7.holds Tryd.pinned (.plain (OpenSpec.ofChange ledgerRoundSpec)) ledgerRoundCard

/-- THE TIED CARD OF 'cornlaw1.LedgerReads'. -/
def ledgerReadsCard : Claim7 := { stood := { row := ledgerReadsRow, standIns := [], harness := (true, "7b9b86bd0e4e46bf34203da9d37eab13863e2ab1447c9e3df7d3f2397a491f99"), looks := true }, kinds := [], alts := [], laidByText := true, laidKinds := [.data, .data, .data, .data, .sentinel, .sentinel, .listed, .data, .widerDeep, .pinned], laidTests := true, laidLooks := .later }
def LedgerReadsCardSaid : Prop := Claim7.holds Tryd.pinned (.plain (OpenSpec.ofChange ledgerReadsSpec)) ledgerReadsCard

/-- THE SECOND FORM's CARD OF 'cornkeep1.LedgerRound'. -/
def ledgerRoundUptoCard : Claim7 := { stood := { row := ledgerRoundUptoRow, standIns := [], harness := (true, "7b9b86bd0e4e46bf34203da9d37eab13863e2ab1447c9e3df7d3f2397a491f99"), looks := true }, kinds := [], alts := [], laidByText := true, laidKinds := [.data, .data, .data, .data, .sentinel, .sentinel, .listed, .data, .pinned], laidTests := true, laidLooks := .later }
def LedgerRoundUptoCardSaid : Prop := Claim7.holds Tryd.pinned (.plain (OpenSpec.upto ledgerRoundSpec)) ledgerRoundUptoCard

/-- THE SECOND FORM's CARD OF 'cornlaw1.LedgerReads'. -/
def ledgerReadsUptoCard : Claim7 := { stood := { row := ledgerReadsUptoRow, standIns := [], harness := (true, "7b9b86bd0e4e46bf34203da9d37eab13863e2ab1447c9e3df7d3f2397a491f99"), looks := true }, kinds := [], alts := [], laidByText := true, laidKinds := [.data, .data, .data, .data, .sentinel, .sentinel, .listed, .data, .widerDeep, .pinned], laidTests := true, laidLooks := .later }
def LedgerReadsUptoCardSaid : Prop := Claim7.holds Tryd.pinned (.plain (OpenSpec.upto ledgerReadsSpec)) ledgerReadsUptoCard
end Rows
end Go.Proofs.YtafolceicpkhoaaDoor
