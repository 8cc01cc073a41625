/-
  DERIVED. GIVEN WITH THE SEED: THE CARDS: each row of YtmdcfmhkfomoaaaGreatDoorRows.lean that lists a variable, with what it lists TIED to the program's text (the seventh form; the later family's looks); each row that meets fmt, with fmt's text TOLD by the authors' own Lean function (tested against real Go, not proved from fmt's source: count such statements apart). THE CARD IS WHAT COUNTS. Prove the row's statement (the work); the ties are given (YtmdcfmhkfomoaaaGreatDoorTie.lean); close each card by the builder's one call (the guide's Derived/Test/ToyasCard.lean, 'card_holds'). Laid BY PROGRAM, IN A SANDBOX (cutbox-door.mjs). By AI agents, Wed Nov 11 2026. No macro, syntax, notation, axiom, sorry.
-/
import Derived.Test.YtmdcfmhkfomoaaaGreatDoorRows
import GoSem.ClaimSeven
namespace Go.Proofs.YtmdcfmhkfomoaaaGreatDoor
namespace Rows

/-- THE TIED CARD OF 'rootstocklaw18.RefsApart'. -/
def refsApartCard : Claim7 := { stood := { row := refsApartRow, standIns := [], harness := (true, "59edaf087fe68b6408428fad7a196da400749b0d891c0bb3b8d9517f6f6173a6"), looks := true }, kinds := [], alts := [], laidByText := true, laidKinds := [.data, .data, .data, .sentinel, .sentinel], laidTests := true, laidLooks := .later }
def RefsApartCardSaid : Prop := Claim7.holds Tryz.pinned (.plain (OpenSpec.ofChange refsApartSpec)) refsApartCard

/-- THE TIED CARD OF 'rootstocklaw18.RefsTells'. -/
def refsTellsCard : Claim7 := { stood := { row := refsTellsRow, standIns := [], harness := (true, "59edaf087fe68b6408428fad7a196da400749b0d891c0bb3b8d9517f6f6173a6"), looks := true }, kinds := [], alts := [], laidByText := true, laidKinds := [.data, .data, .data, .sentinel, .sentinel], laidTests := true, laidLooks := .later }
def RefsTellsCardSaid : Prop := Claim7.holds Tryz.pinned (.plain (OpenSpec.ofChange refsTellsSpec)) refsTellsCard

/-- THE TIED CARD OF 'rootstocklaw18.RefsMany'. -/
def refsManyCard : Claim7 := { stood := { row := refsManyRow, standIns := [], harness := (true, "59edaf087fe68b6408428fad7a196da400749b0d891c0bb3b8d9517f6f6173a6"), looks := true }, kinds := [], alts := [], laidByText := true, laidKinds := [.data, .data, .data, .sentinel, .sentinel], laidTests := true, laidLooks := .later }
def RefsManyCardSaid : Prop := Claim7.holds Tryz.pinned (.plain (OpenSpec.ofChange refsManySpec)) refsManyCard

/-- THE TIED CARD OF 'rootstocklaw18.RefsReads'. -/
def refsReadsCard : Claim7 := { stood := { row := refsReadsRow, standIns := [], harness := (true, "59edaf087fe68b6408428fad7a196da400749b0d891c0bb3b8d9517f6f6173a6"), looks := true }, kinds := [], alts := [], laidByText := true, laidKinds := [.data, .data, .data, .sentinel, .sentinel], laidTests := true, laidLooks := .later }
def RefsReadsCardSaid : Prop := Claim7.holds Tryz.pinned (.plain (OpenSpec.ofChange refsReadsSpec)) refsReadsCard

/-- THE TIED CARD OF 'rootstocklaw18.RefsBack'. -/
def refsBackCard : Claim7 := { stood := { row := refsBackRow, standIns := [], harness := (true, "59edaf087fe68b6408428fad7a196da400749b0d891c0bb3b8d9517f6f6173a6"), looks := true }, kinds := [], alts := [], laidByText := true, laidKinds := [.data, .data, .data, .sentinel, .sentinel], laidTests := true, laidLooks := .later }
def RefsBackCardSaid : Prop := Claim7.holds Tryz.pinned (.plain (OpenSpec.ofChange refsBackSpec)) refsBackCard

/-- THE SECOND FORM's CARD OF 'rootstocklaw18.RefsApart'. -/
def refsApartUptoCard : Claim7 := { stood := { row := refsApartUptoRow, standIns := [], harness := (true, "59edaf087fe68b6408428fad7a196da400749b0d891c0bb3b8d9517f6f6173a6"), looks := true }, kinds := [], alts := [], laidByText := true, laidKinds := [.data, .data, .data, .sentinel, .sentinel], laidTests := true, laidLooks := .later }
def RefsApartUptoCardSaid : Prop := Claim7.holds Tryz.pinned (.plain (OpenSpec.upto refsApartSpec)) refsApartUptoCard

/-- THE SECOND FORM's CARD OF 'rootstocklaw18.RefsTells'. -/
def refsTellsUptoCard : Claim7 := { stood := { row := refsTellsUptoRow, standIns := [], harness := (true, "59edaf087fe68b6408428fad7a196da400749b0d891c0bb3b8d9517f6f6173a6"), looks := true }, kinds := [], alts := [], laidByText := true, laidKinds := [.data, .data, .data, .sentinel, .sentinel], laidTests := true, laidLooks := .later }
def RefsTellsUptoCardSaid : Prop := Claim7.holds Tryz.pinned (.plain (OpenSpec.upto refsTellsSpec)) refsTellsUptoCard

/-- THE SECOND FORM's CARD OF 'rootstocklaw18.RefsMany'. -/
def refsManyUptoCard : Claim7 := { stood := { row := refsManyUptoRow, standIns := [], harness := (true, "59edaf087fe68b6408428fad7a196da400749b0d891c0bb3b8d9517f6f6173a6"), looks := true }, kinds := [], alts := [], laidByText := true, laidKinds := [.data, .data, .data, .sentinel, .sentinel], laidTests := true, laidLooks := .later }
def RefsManyUptoCardSaid : Prop := Claim7.holds Tryz.pinned (.plain (OpenSpec.upto refsManySpec)) refsManyUptoCard

/-- THE SECOND FORM's CARD OF 'rootstocklaw18.RefsReads'. -/
def refsReadsUptoCard : Claim7 := { stood := { row := refsReadsUptoRow, standIns := [], harness := (true, "59edaf087fe68b6408428fad7a196da400749b0d891c0bb3b8d9517f6f6173a6"), looks := true }, kinds := [], alts := [], laidByText := true, laidKinds := [.data, .data, .data, .sentinel, .sentinel], laidTests := true, laidLooks := .later }
def RefsReadsUptoCardSaid : Prop := Claim7.holds Tryz.pinned (.plain (OpenSpec.upto refsReadsSpec)) refsReadsUptoCard

/-- THE SECOND FORM's CARD OF 'rootstocklaw18.RefsBack'. -/
def refsBackUptoCard : Claim7 := { stood := { row := refsBackUptoRow, standIns := [], harness := (true, "59edaf087fe68b6408428fad7a196da400749b0d891c0bb3b8d9517f6f6173a6"), looks := true }, kinds := [], alts := [], laidByText := true, laidKinds := [.data, .data, .data, .sentinel, .sentinel], laidTests := true, laidLooks := .later }
def RefsBackUptoCardSaid : Prop := Claim7.holds Tryz.pinned (.plain (OpenSpec.upto refsBackSpec)) refsBackUptoCard
end Rows
end Go.Proofs.YtmdcfmhkfomoaaaGreatDoor
