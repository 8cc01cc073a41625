/-
  DERIVED. GIVEN WITH THE SEED: THE CARDS: each row of YtbfolflejhkehaaGreatDoorRows.lean that lists a variable, with what it lists TIED to the program's text (the seventh form; the later family's looks); each row that meets fmt, with fmt's text TOLD by the authors' own Lean function (tested against real Go, not proved from fmt's source: count such statements apart). THE CARD IS WHAT COUNTS. Prove the row's statement (the work); the ties are given (YtbfolflejhkehaaGreatDoorTie.lean); close each card by the builder's one call (the guide's Derived/Test/ToyasCard.lean, 'card_holds'). Laid BY PROGRAM, IN A SANDBOX (cutbox-door.mjs). By AI agents, Wed Nov 11 2026. No macro, syntax, notation, axiom, sorry.
-/
import Derived.Test.YtbfolflejhkehaaGreatDoorRows
import GoSem.ClaimSeven
namespace Go.Proofs.YtbfolflejhkehaaGreatDoor
namespace Rows

/-- THE TIED CARD OF 'rootstocklaw25.ScriptLimits'. -/
def scriptLimitsCard : Claim7 := { stood := { row := scriptLimitsRow, standIns := [], harness := (true, "d79a08b3e8c2066481702df943db20c5f9b53f3eb9f4632d1218fe2fd3305918"), looks := true }, kinds := [], alts := [], laidByText := true, laidKinds := [.pinned, .data, .sentinel, .sentinel, .data, .data, .data, .data, .pinned, .pinned, .pinned, .pinned, .pinned], laidTests := true, laidLooks := .later }
def ScriptLimitsCardSaid : Prop := Claim7.holds Tryz.pinned (.plain (OpenSpec.ofChange scriptLimitsSpec)) scriptLimitsCard

/-- THE TIED CARD OF 'rootstocklaw25.ScriptFaults'. -/
def scriptFaultsCard : Claim7 := { stood := { row := scriptFaultsRow, standIns := [], harness := (true, "d79a08b3e8c2066481702df943db20c5f9b53f3eb9f4632d1218fe2fd3305918"), looks := true }, kinds := [], alts := [], laidByText := true, laidKinds := [.pinned, .data, .sentinel, .sentinel, .data, .data, .data, .data, .pinned, .pinned, .pinned, .pinned, .pinned], laidTests := true, laidLooks := .later }
def ScriptFaultsCardSaid : Prop := Claim7.holds Tryz.pinned (.plain (OpenSpec.ofChange scriptFaultsSpec)) scriptFaultsCard

/-- THE SECOND FORM's CARD OF 'rootstocklaw25.ScriptLimits'. -/
def scriptLimitsUptoCard : Claim7 := { stood := { row := scriptLimitsUptoRow, standIns := [], harness := (true, "d79a08b3e8c2066481702df943db20c5f9b53f3eb9f4632d1218fe2fd3305918"), looks := true }, kinds := [], alts := [], laidByText := true, laidKinds := [.pinned, .data, .sentinel, .sentinel, .data, .data, .data, .data, .pinned, .pinned, .pinned, .pinned, .pinned], laidTests := true, laidLooks := .later }
def ScriptLimitsUptoCardSaid : Prop := Claim7.holds Tryz.pinned (.plain (OpenSpec.upto scriptLimitsSpec)) scriptLimitsUptoCard

/-- THE SECOND FORM's CARD OF 'rootstocklaw25.ScriptFaults'. -/
def scriptFaultsUptoCard : Claim7 := { stood := { row := scriptFaultsUptoRow, standIns := [], harness := (true, "d79a08b3e8c2066481702df943db20c5f9b53f3eb9f4632d1218fe2fd3305918"), looks := true }, kinds := [], alts := [], laidByText := true, laidKinds := [.pinned, .data, .sentinel, .sentinel, .data, .data, .data, .data, .pinned, .pinned, .pinned, .pinned, .pinned], laidTests := true, laidLooks := .later }
def ScriptFaultsUptoCardSaid : Prop := Claim7.holds Tryz.pinned (.plain (OpenSpec.upto scriptFaultsSpec)) scriptFaultsUptoCard
end Rows
end Go.Proofs.YtbfolflejhkehaaGreatDoor
