/-
  DERIVED. GIVEN WITH THE SEED: THE CARDS: each row of YtcihjdalokaokaaGreatDoorRows.lean that lists a variable, with what it lists TIED to the program's text (the seventh form; the later family's looks); each row that meets fmt, with fmt's text TOLD by the authors' own Lean function (tested against real Go, not proved from fmt's source: count such statements apart). THE CARD IS WHAT COUNTS. Prove the row's statement (the work); the ties are given (YtcihjdalokaokaaGreatDoorTie.lean); close each card by the builder's one call (the guide's Derived/Test/ToyasCard.lean, 'card_holds'). Laid BY PROGRAM, IN A SANDBOX (cutbox-door.mjs). By AI agents, Wed Nov 11 2026. No macro, syntax, notation, axiom, sorry.
-/
import Derived.Test.YtcihjdalokaokaaGreatDoorRows
import GoSem.ClaimSeven
namespace Go.Proofs.YtcihjdalokaokaaGreatDoor
namespace Rows

/-- THE TIED CARD OF 'rootstocklaw11.LsmFull'. -/
def lsmFullCard : Claim7 := { stood := { row := lsmFullRow, standIns := [], harness := (true, "43936ff6fb6cce3836ec2ebdbff395c0d1318bfa2053cb89adceed35436dfaea"), looks := true }, kinds := [], alts := [], laidByText := true, laidKinds := [.data, .data, .data, .sentinel, .sentinel], laidTests := true, laidLooks := .later }
def LsmFullCardSaid : Prop := Claim7.holds Tryz.pinned (.plain (OpenSpec.ofChange lsmFullSpec)) lsmFullCard

/-- THE TIED CARD OF 'rootstocklaw11.LsmAgain'. -/
def lsmAgainCard : Claim7 := { stood := { row := lsmAgainRow, standIns := [], harness := (true, "43936ff6fb6cce3836ec2ebdbff395c0d1318bfa2053cb89adceed35436dfaea"), looks := true }, kinds := [], alts := [], laidByText := true, laidKinds := [.data, .data, .data, .sentinel, .sentinel], laidTests := true, laidLooks := .later }
def LsmAgainCardSaid : Prop := Claim7.holds Tryz.pinned (.plain (OpenSpec.ofChange lsmAgainSpec)) lsmAgainCard

/-- THE TIED CARD OF 'rootstocklaw11.LsmParts'. -/
def lsmPartsCard : Claim7 := { stood := { row := lsmPartsRow, standIns := [], harness := (true, "43936ff6fb6cce3836ec2ebdbff395c0d1318bfa2053cb89adceed35436dfaea"), looks := true }, kinds := [], alts := [], laidByText := true, laidKinds := [.data, .data, .data, .sentinel, .sentinel], laidTests := true, laidLooks := .later }
def LsmPartsCardSaid : Prop := Claim7.holds Tryz.pinned (.plain (OpenSpec.ofChange lsmPartsSpec)) lsmPartsCard

/-- THE TIED CARD OF 'rootstocklaw11.LsmDoes'. -/
def lsmDoesCard : Claim7 := { stood := { row := lsmDoesRow, standIns := [], harness := (true, "43936ff6fb6cce3836ec2ebdbff395c0d1318bfa2053cb89adceed35436dfaea"), looks := true }, kinds := [], alts := [], laidByText := true, laidKinds := [.data, .data, .data, .sentinel, .sentinel], laidTests := true, laidLooks := .later }
def LsmDoesCardSaid : Prop := Claim7.holds Tryz.pinned (.plain (OpenSpec.ofChange lsmDoesSpec)) lsmDoesCard

/-- THE TIED CARD OF 'rootstocklaw13.CacheLasts'. -/
def cacheLastsCard : Claim7 := { stood := { row := cacheLastsRow, standIns := [], harness := (true, "43936ff6fb6cce3836ec2ebdbff395c0d1318bfa2053cb89adceed35436dfaea"), looks := true }, kinds := [], alts := [], laidByText := true, laidKinds := [.data, .data, .data, .sentinel, .sentinel], laidTests := true, laidLooks := .later }
def CacheLastsCardSaid : Prop := Claim7.holds Tryz.pinned (.plain (OpenSpec.ofChange cacheLastsSpec)) cacheLastsCard

/-- THE TIED CARD OF 'rootstocklaw13.CacheBounds'. -/
def cacheBoundsCard : Claim7 := { stood := { row := cacheBoundsRow, standIns := [], harness := (true, "43936ff6fb6cce3836ec2ebdbff395c0d1318bfa2053cb89adceed35436dfaea"), looks := true }, kinds := [], alts := [], laidByText := true, laidKinds := [.data, .data, .data, .sentinel, .sentinel], laidTests := true, laidLooks := .later }
def CacheBoundsCardSaid : Prop := Claim7.holds Tryz.pinned (.plain (OpenSpec.ofChange cacheBoundsSpec)) cacheBoundsCard

/-- THE TIED CARD OF 'rootstocklaw18.RefsApart'. -/
def refsApartCard : Claim7 := { stood := { row := refsApartRow, standIns := [], harness := (true, "43936ff6fb6cce3836ec2ebdbff395c0d1318bfa2053cb89adceed35436dfaea"), looks := true }, kinds := [], alts := [], laidByText := true, laidKinds := [.data, .data, .data, .sentinel, .sentinel], laidTests := true, laidLooks := .later }
def RefsApartCardSaid : Prop := Claim7.holds Tryz.pinned (.plain (OpenSpec.ofChange refsApartSpec)) refsApartCard

/-- THE TIED CARD OF 'rootstocklaw18.RefsTells'. -/
def refsTellsCard : Claim7 := { stood := { row := refsTellsRow, standIns := [], harness := (true, "43936ff6fb6cce3836ec2ebdbff395c0d1318bfa2053cb89adceed35436dfaea"), looks := true }, kinds := [], alts := [], laidByText := true, laidKinds := [.data, .data, .data, .sentinel, .sentinel], laidTests := true, laidLooks := .later }
def RefsTellsCardSaid : Prop := Claim7.holds Tryz.pinned (.plain (OpenSpec.ofChange refsTellsSpec)) refsTellsCard

/-- THE TIED CARD OF 'rootstocklaw13.CacheSames'. -/
def cacheSamesCard : Claim7 := { stood := { row := cacheSamesRow, standIns := [], harness := (true, "43936ff6fb6cce3836ec2ebdbff395c0d1318bfa2053cb89adceed35436dfaea"), looks := true }, kinds := [], alts := [], laidByText := true, laidKinds := [.data, .data, .data, .sentinel, .sentinel], laidTests := true, laidLooks := .later }
def CacheSamesCardSaid : Prop := Claim7.holds Tryz.pinned (.plain (OpenSpec.ofChange cacheSamesSpec)) cacheSamesCard

/-- THE TIED CARD OF 'rootstocklaw18.RefsMany'. -/
def refsManyCard : Claim7 := { stood := { row := refsManyRow, standIns := [], harness := (true, "43936ff6fb6cce3836ec2ebdbff395c0d1318bfa2053cb89adceed35436dfaea"), looks := true }, kinds := [], alts := [], laidByText := true, laidKinds := [.data, .data, .data, .sentinel, .sentinel], laidTests := true, laidLooks := .later }
def RefsManyCardSaid : Prop := Claim7.holds Tryz.pinned (.plain (OpenSpec.ofChange refsManySpec)) refsManyCard

/-- THE TIED CARD OF 'rootstocklaw18.RefsReads'. -/
def refsReadsCard : Claim7 := { stood := { row := refsReadsRow, standIns := [], harness := (true, "43936ff6fb6cce3836ec2ebdbff395c0d1318bfa2053cb89adceed35436dfaea"), looks := true }, kinds := [], alts := [], laidByText := true, laidKinds := [.data, .data, .data, .sentinel, .sentinel], laidTests := true, laidLooks := .later }
def RefsReadsCardSaid : Prop := Claim7.holds Tryz.pinned (.plain (OpenSpec.ofChange refsReadsSpec)) refsReadsCard

/-- THE TIED CARD OF 'rootstocklaw18.RefsBack'. -/
def refsBackCard : Claim7 := { stood := { row := refsBackRow, standIns := [], harness := (true, "43936ff6fb6cce3836ec2ebdbff395c0d1318bfa2053cb89adceed35436dfaea"), looks := true }, kinds := [], alts := [], laidByText := true, laidKinds := [.data, .data, .data, .sentinel, .sentinel], laidTests := true, laidLooks := .later }
def RefsBackCardSaid : Prop := Claim7.holds Tryz.pinned (.plain (OpenSpec.ofChange refsBackSpec)) refsBackCard

/-- THE SECOND FORM's CARD OF 'rootstocklaw11.LsmFull'. -/
def lsmFullUptoCard : Claim7 := { stood := { row := lsmFullUptoRow, standIns := [], harness := (true, "43936ff6fb6cce3836ec2ebdbff395c0d1318bfa2053cb89adceed35436dfaea"), looks := true }, kinds := [], alts := [], laidByText := true, laidKinds := [.data, .data, .data, .sentinel, .sentinel], laidTests := true, laidLooks := .later }
def LsmFullUptoCardSaid : Prop := Claim7.holds Tryz.pinned (.plain (OpenSpec.upto lsmFullSpec)) lsmFullUptoCard

/-- THE SECOND FORM's CARD OF 'rootstocklaw11.LsmAgain'. -/
def lsmAgainUptoCard : Claim7 := { stood := { row := lsmAgainUptoRow, standIns := [], harness := (true, "43936ff6fb6cce3836ec2ebdbff395c0d1318bfa2053cb89adceed35436dfaea"), looks := true }, kinds := [], alts := [], laidByText := true, laidKinds := [.data, .data, .data, .sentinel, .sentinel], laidTests := true, laidLooks := .later }
def LsmAgainUptoCardSaid : Prop := Claim7.holds Tryz.pinned (.plain (OpenSpec.upto lsmAgainSpec)) lsmAgainUptoCard

/-- THE SECOND FORM's CARD OF 'rootstocklaw11.LsmParts'. -/
def lsmPartsUptoCard : Claim7 := { stood := { row := lsmPartsUptoRow, standIns := [], harness := (true, "43936ff6fb6cce3836ec2ebdbff395c0d1318bfa2053cb89adceed35436dfaea"), looks := true }, kinds := [], alts := [], laidByText := true, laidKinds := [.data, .data, .data, .sentinel, .sentinel], laidTests := true, laidLooks := .later }
def LsmPartsUptoCardSaid : Prop := Claim7.holds Tryz.pinned (.plain (OpenSpec.upto lsmPartsSpec)) lsmPartsUptoCard

/-- THE SECOND FORM's CARD OF 'rootstocklaw11.LsmDoes'. -/
def lsmDoesUptoCard : Claim7 := { stood := { row := lsmDoesUptoRow, standIns := [], harness := (true, "43936ff6fb6cce3836ec2ebdbff395c0d1318bfa2053cb89adceed35436dfaea"), looks := true }, kinds := [], alts := [], laidByText := true, laidKinds := [.data, .data, .data, .sentinel, .sentinel], laidTests := true, laidLooks := .later }
def LsmDoesUptoCardSaid : Prop := Claim7.holds Tryz.pinned (.plain (OpenSpec.upto lsmDoesSpec)) lsmDoesUptoCard

/-- THE SECOND FORM's CARD OF 'rootstocklaw13.CacheLasts'. -/
def cacheLastsUptoCard : Claim7 := { stood := { row := cacheLastsUptoRow, standIns := [], harness := (true, "43936ff6fb6cce3836ec2ebdbff395c0d1318bfa2053cb89adceed35436dfaea"), looks := true }, kinds := [], alts := [], laidByText := true, laidKinds := [.data, .data, .data, .sentinel, .sentinel], laidTests := true, laidLooks := .later }
def CacheLastsUptoCardSaid : Prop := Claim7.holds Tryz.pinned (.plain (OpenSpec.upto cacheLastsSpec)) cacheLastsUptoCard

/-- THE SECOND FORM's CARD OF 'rootstocklaw13.CacheBounds'. -/
def cacheBoundsUptoCard : Claim7 := { stood := { row := cacheBoundsUptoRow, standIns := [], harness := (true, "43936ff6fb6cce3836ec2ebdbff395c0d1318bfa2053cb89adceed35436dfaea"), looks := true }, kinds := [], alts := [], laidByText := true, laidKinds := [.data, .data, .data, .sentinel, .sentinel], laidTests := true, laidLooks := .later }
def CacheBoundsUptoCardSaid : Prop := Claim7.holds Tryz.pinned (.plain (OpenSpec.upto cacheBoundsSpec)) cacheBoundsUptoCard

/-- THE SECOND FORM's CARD OF 'rootstocklaw18.RefsApart'. -/
def refsApartUptoCard : Claim7 := { stood := { row := refsApartUptoRow, standIns := [], harness := (true, "43936ff6fb6cce3836ec2ebdbff395c0d1318bfa2053cb89adceed35436dfaea"), looks := true }, kinds := [], alts := [], laidByText := true, laidKinds := [.data, .data, .data, .sentinel, .sentinel], laidTests := true, laidLooks := .later }
def RefsApartUptoCardSaid : Prop := Claim7.holds Tryz.pinned (.plain (OpenSpec.upto refsApartSpec)) refsApartUptoCard

/-- THE SECOND FORM's CARD OF 'rootstocklaw18.RefsTells'. -/
def refsTellsUptoCard : Claim7 := { stood := { row := refsTellsUptoRow, standIns := [], harness := (true, "43936ff6fb6cce3836ec2ebdbff395c0d1318bfa2053cb89adceed35436dfaea"), looks := true }, kinds := [], alts := [], laidByText := true, laidKinds := [.data, .data, .data, .sentinel, .sentinel], laidTests := true, laidLooks := .later }
def RefsTellsUptoCardSaid : Prop := Claim7.holds Tryz.pinned (.plain (OpenSpec.upto refsTellsSpec)) refsTellsUptoCard

/-- THE SECOND FORM's CARD OF 'rootstocklaw13.CacheSames'. -/
def cacheSamesUptoCard : Claim7 := { stood := { row := cacheSamesUptoRow, standIns := [], harness := (true, "43936ff6fb6cce3836ec2ebdbff395c0d1318bfa2053cb89adceed35436dfaea"), looks := true }, kinds := [], alts := [], laidByText := true, laidKinds := [.data, .data, .data, .sentinel, .sentinel], laidTests := true, laidLooks := .later }
def CacheSamesUptoCardSaid : Prop := Claim7.holds Tryz.pinned (.plain (OpenSpec.upto cacheSamesSpec)) cacheSamesUptoCard

/-- THE SECOND FORM's CARD OF 'rootstocklaw18.RefsMany'. -/
def refsManyUptoCard : Claim7 := { stood := { row := refsManyUptoRow, standIns := [], harness := (true, "43936ff6fb6cce3836ec2ebdbff395c0d1318bfa2053cb89adceed35436dfaea"), looks := true }, kinds := [], alts := [], laidByText := true, laidKinds := [.data, .data, .data, .sentinel, .sentinel], laidTests := true, laidLooks := .later }
def RefsManyUptoCardSaid : Prop := Claim7.holds Tryz.pinned (.plain (OpenSpec.upto refsManySpec)) refsManyUptoCard

/-- THE SECOND FORM's CARD OF 'rootstocklaw18.RefsReads'. -/
def refsReadsUptoCard : Claim7 := { stood := { row := refsReadsUptoRow, standIns := [], harness := (true, "43936ff6fb6cce3836ec2ebdbff395c0d1318bfa2053cb89adceed35436dfaea"), looks := true }, kinds := [], alts := [], laidByText := true, laidKinds := [.data, .data, .data, .sentinel, .sentinel], laidTests := true, laidLooks := .later }
def RefsReadsUptoCardSaid : Prop := Claim7.holds Tryz.pinned (.plain (OpenSpec.upto refsReadsSpec)) refsReadsUptoCard

/-- THE SECOND FORM's CARD OF 'rootstocklaw18.RefsBack'. -/
def refsBackUptoCard : Claim7 := { stood := { row := refsBackUptoRow, standIns := [], harness := (true, "43936ff6fb6cce3836ec2ebdbff395c0d1318bfa2053cb89adceed35436dfaea"), looks := true }, kinds := [], alts := [], laidByText := true, laidKinds := [.data, .data, .data, .sentinel, .sentinel], laidTests := true, laidLooks := .later }
def RefsBackUptoCardSaid : Prop := Claim7.holds Tryz.pinned (.plain (OpenSpec.upto refsBackSpec)) refsBackUptoCard
end Rows
end Go.Proofs.YtcihjdalokaokaaGreatDoor
