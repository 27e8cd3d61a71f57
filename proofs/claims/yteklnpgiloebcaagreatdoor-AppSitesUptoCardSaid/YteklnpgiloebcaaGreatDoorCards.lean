/-
  DERIVED. GIVEN WITH THE SEED: THE CARDS: each row of YteklnpgiloebcaaGreatDoorRows.lean that lists a variable, with what it lists TIED to the program's text (the seventh form; the later family's looks); each row that meets fmt, with fmt's text TOLD by the authors' own Lean function (tested against real Go, not proved from fmt's source: count such statements apart). THE CARD IS WHAT COUNTS. Prove the row's statement (the work); the ties are given (YteklnpgiloebcaaGreatDoorTie.lean); close each card by the builder's one call (the guide's Derived/Test/ToyasCard.lean, 'card_holds'). Laid BY PROGRAM, IN A SANDBOX (cutbox-door.mjs). By AI agents, Wed Nov 11 2026. No macro, syntax, notation, axiom, sorry.
-/
import Derived.Test.YteklnpgiloebcaaGreatDoorRows
import GoSem.ClaimSeven
namespace Go.Proofs.YteklnpgiloebcaaGreatDoor
namespace Rows

/-- THE TIED CARD OF 'siglumlaw17.AppParses'. -/
def appParsesCard : Claim7 := { stood := { row := appParsesRow, standIns := [], harness := (true, "8df7bc7fc2ba3a1f441ee1eb2abafc680717395f1a237ca6451fdf97f8a964bd"), looks := true }, kinds := [], alts := [], laidByText := true, laidKinds := [.data, .data, .data, .data, .sentinel, .sentinel, .pinned], laidTests := true, laidLooks := .later }
def AppParsesCardSaid : Prop := Claim7.holds Tryz.pinned (.plain (OpenSpec.ofChange appParsesSpec)) appParsesCard

/-- THE TIED CARD OF 'siglumlaw17.AppOfs'. -/
def appOfsCard : Claim7 := { stood := { row := appOfsRow, standIns := [], harness := (true, "8df7bc7fc2ba3a1f441ee1eb2abafc680717395f1a237ca6451fdf97f8a964bd"), looks := true }, kinds := [], alts := [], laidByText := true, laidKinds := [.data, .data, .data, .data, .sentinel, .sentinel, .listed, .data, .pinned], laidTests := true, laidLooks := .later }
def AppOfsCardSaid : Prop := Claim7.holds Tryz.pinned (.plain (OpenSpec.ofChange appOfsSpec)) appOfsCard

/-- THE TIED CARD OF 'siglumlaw17.AppTable'. -/
def appTableCard : Claim7 := { stood := { row := appTableRow, standIns := [], harness := (true, "8df7bc7fc2ba3a1f441ee1eb2abafc680717395f1a237ca6451fdf97f8a964bd"), looks := true }, kinds := [], alts := [], laidByText := true, laidKinds := [.data, .data, .data, .data, .sentinel, .sentinel, .listed, .data, .pinned], laidTests := true, laidLooks := .later }
def AppTableCardSaid : Prop := Claim7.holds Tryz.pinned (.plain (OpenSpec.ofChange appTableSpec)) appTableCard

/-- THE TIED CARD OF 'siglumlaw17.AppTails'. -/
def appTailsCard : Claim7 := { stood := { row := appTailsRow, standIns := [], harness := (true, "8df7bc7fc2ba3a1f441ee1eb2abafc680717395f1a237ca6451fdf97f8a964bd"), looks := true }, kinds := [], alts := [], laidByText := true, laidKinds := [.data, .data, .data, .data, .sentinel, .sentinel, .listed, .data, .pinned], laidTests := true, laidLooks := .later }
def AppTailsCardSaid : Prop := Claim7.holds Tryz.pinned (.plain (OpenSpec.ofChange appTailsSpec)) appTailsCard

/-- THE TIED CARD OF 'siglumlaw17.AppSites'. -/
def appSitesCard : Claim7 := { stood := { row := appSitesRow, standIns := [], harness := (true, "8df7bc7fc2ba3a1f441ee1eb2abafc680717395f1a237ca6451fdf97f8a964bd"), looks := true }, kinds := [], alts := [], laidByText := true, laidKinds := [.data, .data, .data, .data, .sentinel, .sentinel, .listed, .data, .pinned], laidTests := true, laidLooks := .later }
def AppSitesCardSaid : Prop := Claim7.holds Tryz.pinned (.plain (OpenSpec.ofChange appSitesSpec)) appSitesCard

/-- THE SECOND FORM's CARD OF 'siglumlaw17.AppParses'. -/
def appParsesUptoCard : Claim7 := { stood := { row := appParsesUptoRow, standIns := [], harness := (true, "8df7bc7fc2ba3a1f441ee1eb2abafc680717395f1a237ca6451fdf97f8a964bd"), looks := true }, kinds := [], alts := [], laidByText := true, laidKinds := [.data, .data, .data, .data, .sentinel, .sentinel, .pinned], laidTests := true, laidLooks := .later }
def AppParsesUptoCardSaid : Prop := Claim7.holds Tryz.pinned (.plain (OpenSpec.upto appParsesSpec)) appParsesUptoCard

/-- THE SECOND FORM's CARD OF 'siglumlaw17.AppOfs'. -/
def appOfsUptoCard : Claim7 := { stood := { row := appOfsUptoRow, standIns := [], harness := (true, "8df7bc7fc2ba3a1f441ee1eb2abafc680717395f1a237ca6451fdf97f8a964bd"), looks := true }, kinds := [], alts := [], laidByText := true, laidKinds := [.data, .data, .data, .data, .sentinel, .sentinel, .listed, .data, .pinned], laidTests := true, laidLooks := .later }
def AppOfsUptoCardSaid : Prop := Claim7.holds Tryz.pinned (.plain (OpenSpec.upto appOfsSpec)) appOfsUptoCard

/-- THE SECOND FORM's CARD OF 'siglumlaw17.AppTable'. -/
def appTableUptoCard : Claim7 := { stood := { row := appTableUptoRow, standIns := [], harness := (true, "8df7bc7fc2ba3a1f441ee1eb2abafc680717395f1a237ca6451fdf97f8a964bd"), looks := true }, kinds := [], alts := [], laidByText := true, laidKinds := [.data, .data, .data, .data, .sentinel, .sentinel, .listed, .data, .pinned], laidTests := true, laidLooks := .later }
def AppTableUptoCardSaid : Prop := Claim7.holds Tryz.pinned (.plain (OpenSpec.upto appTableSpec)) appTableUptoCard

/-- THE SECOND FORM's CARD OF 'siglumlaw17.AppTails'. -/
def appTailsUptoCard : Claim7 := { stood := { row := appTailsUptoRow, standIns := [], harness := (true, "8df7bc7fc2ba3a1f441ee1eb2abafc680717395f1a237ca6451fdf97f8a964bd"), looks := true }, kinds := [], alts := [], laidByText := true, laidKinds := [.data, .data, .data, .data, .sentinel, .sentinel, .listed, .data, .pinned], laidTests := true, laidLooks := .later }
def AppTailsUptoCardSaid : Prop := Claim7.holds Tryz.pinned (.plain (OpenSpec.upto appTailsSpec)) appTailsUptoCard

/-- THE SECOND FORM's CARD OF 'siglumlaw17.AppSites'. -/
def appSitesUptoCard : Claim7 := { stood := { row := appSitesUptoRow, standIns := [], harness := (true, "8df7bc7fc2ba3a1f441ee1eb2abafc680717395f1a237ca6451fdf97f8a964bd"), looks := true }, kinds := [], alts := [], laidByText := true, laidKinds := [.data, .data, .data, .data, .sentinel, .sentinel, .listed, .data, .pinned], laidTests := true, laidLooks := .later }
def AppSitesUptoCardSaid : Prop := Claim7.holds Tryz.pinned (.plain (OpenSpec.upto appSitesSpec)) appSitesUptoCard
end Rows
end Go.Proofs.YteklnpgiloebcaaGreatDoor
