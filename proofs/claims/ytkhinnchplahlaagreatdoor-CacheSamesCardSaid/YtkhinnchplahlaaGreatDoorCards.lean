/-
  DERIVED. GIVEN WITH THE SEED: THE CARDS: each row of YtkhinnchplahlaaGreatDoorRows.lean that lists a variable, with what it lists TIED to the program's text (the seventh form; the later family's looks); each row that meets fmt, with fmt's text TOLD by the authors' own Lean function (tested against real Go, not proved from fmt's source: count such statements apart). THE CARD IS WHAT COUNTS. Prove the row's statement (the work); the ties are given (YtkhinnchplahlaaGreatDoorTie.lean); close each card by the builder's one call (the guide's Derived/Test/ToyasCard.lean, 'card_holds'). Laid BY PROGRAM, IN A SANDBOX (cutbox-door.mjs). By AI agents, Wed Nov 11 2026. No macro, syntax, notation, axiom, sorry.
-/
import Derived.Test.YtkhinnchplahlaaGreatDoorRows
import GoSem.ClaimSeven
namespace Go.Proofs.YtkhinnchplahlaaGreatDoor
namespace Rows

/-- THE TIED CARD OF 'rootstocklaw11.LsmFull'. -/
def lsmFullCard : Claim7 := { stood := { row := lsmFullRow, standIns := [], harness := (true, "b0456bd7b81a16e39d005bdbccbbd9bee20290474f2f694d23d53243411ab068"), looks := true }, kinds := [], alts := [], laidByText := true, laidKinds := [.data, .data, .data, .sentinel, .sentinel], laidTests := true, laidLooks := .later }
def LsmFullCardSaid : Prop := Claim7.holds Tryz.pinned (.plain (OpenSpec.ofChange lsmFullSpec)) lsmFullCard

/-- THE TIED CARD OF 'rootstocklaw11.LsmAgain'. -/
def lsmAgainCard : Claim7 := { stood := { row := lsmAgainRow, standIns := [], harness := (true, "b0456bd7b81a16e39d005bdbccbbd9bee20290474f2f694d23d53243411ab068"), looks := true }, kinds := [], alts := [], laidByText := true, laidKinds := [.data, .data, .data, .sentinel, .sentinel], laidTests := true, laidLooks := .later }
def LsmAgainCardSaid : Prop := Claim7.holds Tryz.pinned (.plain (OpenSpec.ofChange lsmAgainSpec)) lsmAgainCard

/-- THE TIED CARD OF 'rootstocklaw11.LsmParts'. -/
def lsmPartsCard : Claim7 := { stood := { row := lsmPartsRow, standIns := [], harness := (true, "b0456bd7b81a16e39d005bdbccbbd9bee20290474f2f694d23d53243411ab068"), looks := true }, kinds := [], alts := [], laidByText := true, laidKinds := [.data, .data, .data, .sentinel, .sentinel], laidTests := true, laidLooks := .later }
def LsmPartsCardSaid : Prop := Claim7.holds Tryz.pinned (.plain (OpenSpec.ofChange lsmPartsSpec)) lsmPartsCard

/-- THE TIED CARD OF 'rootstocklaw11.LsmDoes'. -/
def lsmDoesCard : Claim7 := { stood := { row := lsmDoesRow, standIns := [], harness := (true, "b0456bd7b81a16e39d005bdbccbbd9bee20290474f2f694d23d53243411ab068"), looks := true }, kinds := [], alts := [], laidByText := true, laidKinds := [.data, .data, .data, .sentinel, .sentinel], laidTests := true, laidLooks := .later }
def LsmDoesCardSaid : Prop := Claim7.holds Tryz.pinned (.plain (OpenSpec.ofChange lsmDoesSpec)) lsmDoesCard

/-- THE TIED CARD OF 'rootstocklaw13.CacheSames'. -/
def cacheSamesCard : Claim7 := { stood := { row := cacheSamesRow, standIns := [], harness := (true, "b0456bd7b81a16e39d005bdbccbbd9bee20290474f2f694d23d53243411ab068"), looks := true }, kinds := [], alts := [], laidByText := true, laidKinds := [.data, .data, .data, .sentinel, .sentinel], laidTests := true, laidLooks := .later }
def CacheSamesCardSaid : Prop := Claim7.holds Tryz.pinned (.plain (OpenSpec.ofChange cacheSamesSpec)) cacheSamesCard

/-- THE SECOND FORM's CARD OF 'rootstocklaw11.LsmFull'. -/
def lsmFullUptoCard : Claim7 := { stood := { row := lsmFullUptoRow, standIns := [], harness := (true, "b0456bd7b81a16e39d005bdbccbbd9bee20290474f2f694d23d53243411ab068"), looks := true }, kinds := [], alts := [], laidByText := true, laidKinds := [.data, .data, .data, .sentinel, .sentinel], laidTests := true, laidLooks := .later }
def LsmFullUptoCardSaid : Prop := Claim7.holds Tryz.pinned (.plain (OpenSpec.upto lsmFullSpec)) lsmFullUptoCard

/-- THE SECOND FORM's CARD OF 'rootstocklaw11.LsmAgain'. -/
def lsmAgainUptoCard : Claim7 := { stood := { row := lsmAgainUptoRow, standIns := [], harness := (true, "b0456bd7b81a16e39d005bdbccbbd9bee20290474f2f694d23d53243411ab068"), looks := true }, kinds := [], alts := [], laidByText := true, laidKinds := [.data, .data, .data, .sentinel, .sentinel], laidTests := true, laidLooks := .later }
def LsmAgainUptoCardSaid : Prop := Claim7.holds Tryz.pinned (.plain (OpenSpec.upto lsmAgainSpec)) lsmAgainUptoCard

/-- THE SECOND FORM's CARD OF 'rootstocklaw11.LsmParts'. -/
def lsmPartsUptoCard : Claim7 := { stood := { row := lsmPartsUptoRow, standIns := [], harness := (true, "b0456bd7b81a16e39d005bdbccbbd9bee20290474f2f694d23d53243411ab068"), looks := true }, kinds := [], alts := [], laidByText := true, laidKinds := [.data, .data, .data, .sentinel, .sentinel], laidTests := true, laidLooks := .later }
def LsmPartsUptoCardSaid : Prop := Claim7.holds Tryz.pinned (.plain (OpenSpec.upto lsmPartsSpec)) lsmPartsUptoCard

/-- THE SECOND FORM's CARD OF 'rootstocklaw11.LsmDoes'. -/
def lsmDoesUptoCard : Claim7 := { stood := { row := lsmDoesUptoRow, standIns := [], harness := (true, "b0456bd7b81a16e39d005bdbccbbd9bee20290474f2f694d23d53243411ab068"), looks := true }, kinds := [], alts := [], laidByText := true, laidKinds := [.data, .data, .data, .sentinel, .sentinel], laidTests := true, laidLooks := .later }
def LsmDoesUptoCardSaid : Prop := Claim7.holds Tryz.pinned (.plain (OpenSpec.upto lsmDoesSpec)) lsmDoesUptoCard

/-- THE SECOND FORM's CARD OF 'rootstocklaw13.CacheSames'. -/
def cacheSamesUptoCard : Claim7 := { stood := { row := cacheSamesUptoRow, standIns := [], harness := (true, "b0456bd7b81a16e39d005bdbccbbd9bee20290474f2f694d23d53243411ab068"), looks := true }, kinds := [], alts := [], laidByText := true, laidKinds := [.data, .data, .data, .sentinel, .sentinel], laidTests := true, laidLooks := .later }
def CacheSamesUptoCardSaid : Prop := Claim7.holds Tryz.pinned (.plain (OpenSpec.upto cacheSamesSpec)) cacheSamesUptoCard
end Rows
end Go.Proofs.YtkhinnchplahlaaGreatDoor
