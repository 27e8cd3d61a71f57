/-
  DERIVED. GIVEN WITH THE SEED: THE CARDS: each row of YteklnpgiloebcaaDoorRows.lean that lists a variable, with what it lists TIED to the program's text (the seventh form; the later family's looks); each row that meets fmt, with fmt's text TOLD by the authors' own Lean function (tested against real Go, not proved from fmt's source: count such statements apart). THE CARD IS WHAT COUNTS. Prove the row's statement (the work); the ties are given (YteklnpgiloebcaaDoorTie.lean); close each card by the builder's one call (the guide's Derived/Test/ToyasCard.lean, 'card_holds'). Laid BY PROGRAM, IN A SANDBOX (cutbox-door.mjs). By AI agents, Wed Nov 11 2026. No macro, syntax, notation, axiom, sorry.
-/
import Derived.Test.YteklnpgiloebcaaDoorRows
import GoSem.ClaimSeven
namespace Go.Proofs.YteklnpgiloebcaaDoor
namespace Rows

/-- THE TIED CARD OF 'siglumlaw17.AppPrints'. -/
def appPrintsCard : Claim7 := { stood := { row := appPrintsRow, standIns := [], harness := (true, "713d8ea04ec1b244a6ba55c9063b459da43814fb24d1f3bfd4f0c8b1396c8f96"), looks := true }, kinds := [], alts := [], laidByText := true, laidKinds := [.data, .data, .data, .data, .sentinel, .sentinel, .pinned], laidTests := true, laidLooks := .later }
def AppPrintsCardSaid : Prop := Claim7.holds Tryd.pinned (.plain (OpenSpec.ofChange appPrintsSpec)) appPrintsCard

/-- THE TIED CARD OF 'siglumlaw17.AppChecks'. -/
def appChecksCard : Claim7 := { stood := { row := appChecksRow, standIns := [], harness := (true, "713d8ea04ec1b244a6ba55c9063b459da43814fb24d1f3bfd4f0c8b1396c8f96"), looks := true }, kinds := [], alts := [], laidByText := true, laidKinds := [.data, .data, .data, .data, .sentinel, .sentinel, .pinned], laidTests := true, laidLooks := .later }
def AppChecksCardSaid : Prop := Claim7.holds Tryd.pinned (.plain (OpenSpec.ofChange appChecksSpec)) appChecksCard

/-- THE TIED CARD OF 'siglumlaw17.AppBack'. -/
def appBackCard : Claim7 := { stood := { row := appBackRow, standIns := [], harness := (true, "713d8ea04ec1b244a6ba55c9063b459da43814fb24d1f3bfd4f0c8b1396c8f96"), looks := true }, kinds := [], alts := [], laidByText := true, laidKinds := [.data, .data, .data, .data, .sentinel, .sentinel, .pinned], laidTests := true, laidLooks := .later }
def AppBackCardSaid : Prop := Claim7.holds Tryd.pinned (.plain (OpenSpec.ofChange appBackSpec)) appBackCard

/-- THE SECOND FORM's CARD OF 'siglumlaw17.AppPrints'. -/
def appPrintsUptoCard : Claim7 := { stood := { row := appPrintsUptoRow, standIns := [], harness := (true, "713d8ea04ec1b244a6ba55c9063b459da43814fb24d1f3bfd4f0c8b1396c8f96"), looks := true }, kinds := [], alts := [], laidByText := true, laidKinds := [.data, .data, .data, .data, .sentinel, .sentinel, .pinned], laidTests := true, laidLooks := .later }
def AppPrintsUptoCardSaid : Prop := Claim7.holds Tryd.pinned (.plain (OpenSpec.upto appPrintsSpec)) appPrintsUptoCard

/-- THE SECOND FORM's CARD OF 'siglumlaw17.AppChecks'. -/
def appChecksUptoCard : Claim7 := { stood := { row := appChecksUptoRow, standIns := [], harness := (true, "713d8ea04ec1b244a6ba55c9063b459da43814fb24d1f3bfd4f0c8b1396c8f96"), looks := true }, kinds := [], alts := [], laidByText := true, laidKinds := [.data, .data, .data, .data, .sentinel, .sentinel, .pinned], laidTests := true, laidLooks := .later }
def AppChecksUptoCardSaid : Prop := Claim7.holds Tryd.pinned (.plain (OpenSpec.upto appChecksSpec)) appChecksUptoCard

/-- THE SECOND FORM's CARD OF 'siglumlaw17.AppBack'. -/
def appBackUptoCard : Claim7 := { stood := { row := appBackUptoRow, standIns := [], harness := (true, "713d8ea04ec1b244a6ba55c9063b459da43814fb24d1f3bfd4f0c8b1396c8f96"), looks := true }, kinds := [], alts := [], laidByText := true, laidKinds := [.data, .data, .data, .data, .sentinel, .sentinel, .pinned], laidTests := true, laidLooks := .later }
def AppBackUptoCardSaid : Prop := Claim7.holds Tryd.pinned (.plain (OpenSpec.upto appBackSpec)) appBackUptoCard
end Rows
end Go.Proofs.YteklnpgiloebcaaDoor
