/-
  DERIVED. GIVEN WITH THE SEED: THE CARDS: each row of YtnikkejfpnnmcaaDoorRows.lean that lists a variable, with what it lists TIED to the program's text (the seventh form; the later family's looks); each row that meets fmt, with fmt's text TOLD by the authors' own Lean function (tested against real Go, not proved from fmt's source: count such statements apart). THE CARD IS WHAT COUNTS. Prove the row's statement (the work); the ties are given (YtnikkejfpnnmcaaDoorTie.lean); close each card by the builder's one call (the guide's Derived/Test/ToyasCard.lean, 'card_holds'). Laid BY PROGRAM, IN A SANDBOX (cutbox-door.mjs). By AI agents, Wed Nov 11 2026. No macro, syntax, notation, axiom, sorry.
-/
import Derived.Test.YtnikkejfpnnmcaaDoorRows
import GoSem.ClaimSeven
namespace Go.Proofs.YtnikkejfpnnmcaaDoor
namespace Rows

/-- THE TIED CARD OF 'cornlaw1.RoomPolicies'. -/
def roomPoliciesCard : Claim7 := { stood := { row := roomPoliciesRow, standIns := [], harness := (true, "08ddf5661042af94a2664162f7f73739441d59735a4ea5ad76a459364c248d48"), looks := true }, kinds := [], alts := [], laidByText := true, laidKinds := [.data, .data, .data, .listed, .data, .widerDeep], laidTests := true, laidLooks := .later }
def RoomPoliciesCardSaid : Prop := Claim7.holds Tryd.pinned (.plain (OpenSpec.ofChange roomPoliciesSpec)) roomPoliciesCard

/-- THE TIED CARD OF 'cornlaw1.RoomReads'. -/
def roomReadsCard : Claim7 := { stood := { row := roomReadsRow, standIns := [], harness := (true, "08ddf5661042af94a2664162f7f73739441d59735a4ea5ad76a459364c248d48"), looks := true }, kinds := [], alts := [], laidByText := true, laidKinds := [.data, .data, .data, .data, .sentinel, .sentinel, .listed, .data, .widerDeep, .pinned], laidTests := true, laidLooks := .later }
def RoomReadsCardSaid : Prop := Claim7.holds Tryd.pinned (.plain (OpenSpec.ofChange roomReadsSpec)) roomReadsCard

/-- THE TIED CARD OF 'cornkeep1.PolicyRound'. -/
def policyRoundCard : Claim7 := { stood := { row := policyRoundRow, standIns := [], harness := (true, "08ddf5661042af94a2664162f7f73739441d59735a4ea5ad76a459364c248d48"), looks := true }, kinds := [], alts := [], laidByText := true, laidKinds := [.data, .data, .data, .data, .sentinel, .sentinel, .listed, .data, .pinned], laidTests := true, laidLooks := .later }
def PolicyRoundCardSaid : Prop := Claim7.holds Tryd.pinned (.plain (OpenSpec.ofChange policyRoundSpec)) policyRoundCard

/-- THE TIED CARD OF 'cornlaw1.ScriptOctets'. -/
def scriptOctetsCard : Claim7 := { stood := { row := scriptOctetsRow, standIns := [], harness := (true, "08ddf5661042af94a2664162f7f73739441d59735a4ea5ad76a459364c248d48"), looks := true }, kinds := [], alts := [], laidByText := true, laidKinds := [.data, .data, .data, .sentinel, .sentinel], laidTests := true, laidLooks := .later }
def ScriptOctetsCardSaid : Prop := Claim7.holds Tryd.pinned (.plain (OpenSpec.ofChange scriptOctetsSpec)) scriptOctetsCard

/-- THE SECOND FORM's CARD OF 'cornlaw1.RoomPolicies'. -/
def roomPoliciesUptoCard : Claim7 := { stood := { row := roomPoliciesUptoRow, standIns := [], harness := (true, "08ddf5661042af94a2664162f7f73739441d59735a4ea5ad76a459364c248d48"), looks := true }, kinds := [], alts := [], laidByText := true, laidKinds := [.data, .data, .data, .listed, .data, .widerDeep], laidTests := true, laidLooks := .later }
def RoomPoliciesUptoCardSaid : Prop := Claim7.holds Tryd.pinned (.plain (OpenSpec.upto roomPoliciesSpec)) roomPoliciesUptoCard

/-- THE SECOND FORM's CARD OF 'cornlaw1.RoomReads'. -/
def roomReadsUptoCard : Claim7 := { stood := { row := roomReadsUptoRow, standIns := [], harness := (true, "08ddf5661042af94a2664162f7f73739441d59735a4ea5ad76a459364c248d48"), looks := true }, kinds := [], alts := [], laidByText := true, laidKinds := [.data, .data, .data, .data, .sentinel, .sentinel, .listed, .data, .widerDeep, .pinned], laidTests := true, laidLooks := .later }
def RoomReadsUptoCardSaid : Prop := Claim7.holds Tryd.pinned (.plain (OpenSpec.upto roomReadsSpec)) roomReadsUptoCard

/-- THE SECOND FORM's CARD OF 'cornkeep1.PolicyRound'. -/
def policyRoundUptoCard : Claim7 := { stood := { row := policyRoundUptoRow, standIns := [], harness := (true, "08ddf5661042af94a2664162f7f73739441d59735a4ea5ad76a459364c248d48"), looks := true }, kinds := [], alts := [], laidByText := true, laidKinds := [.data, .data, .data, .data, .sentinel, .sentinel, .listed, .data, .pinned], laidTests := true, laidLooks := .later }
def PolicyRoundUptoCardSaid : Prop := Claim7.holds Tryd.pinned (.plain (OpenSpec.upto policyRoundSpec)) policyRoundUptoCard

/-- THE SECOND FORM's CARD OF 'cornlaw1.ScriptOctets'. -/
def scriptOctetsUptoCard : Claim7 := { stood := { row := scriptOctetsUptoRow, standIns := [], harness := (true, "08ddf5661042af94a2664162f7f73739441d59735a4ea5ad76a459364c248d48"), looks := true }, kinds := [], alts := [], laidByText := true, laidKinds := [.data, .data, .data, .sentinel, .sentinel], laidTests := true, laidLooks := .later }
def ScriptOctetsUptoCardSaid : Prop := Claim7.holds Tryd.pinned (.plain (OpenSpec.upto scriptOctetsSpec)) scriptOctetsUptoCard
end Rows
end Go.Proofs.YtnikkejfpnnmcaaDoor
