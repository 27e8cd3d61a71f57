/-
  DERIVED. GIVEN WITH THE SEED: THE CARDS: each row of YtnadacaoehpdnaaDoorRows.lean that lists a variable, with what it lists TIED to the program's text (the seventh form; the later family's looks); each row that meets fmt, with fmt's text TOLD by the authors' own Lean function (tested against real Go, not proved from fmt's source: count such statements apart). THE CARD IS WHAT COUNTS. Prove the row's statement (the work); the ties are given (YtnadacaoehpdnaaDoorTie.lean); close each card by the builder's one call (the guide's Derived/Test/ToyasCard.lean, 'card_holds'). Laid BY PROGRAM, IN A SANDBOX (cutbox-door.mjs). By AI agents, Wed Nov 11 2026. No macro, syntax, notation, axiom, sorry.
-/
import Derived.Test.YtnadacaoehpdnaaDoorRows
import GoSem.ClaimSeven
namespace Go.Proofs.YtnadacaoehpdnaaDoor
namespace Rows

/-- THE TIED CARD OF 'siglumlaw16.GroupSites'. -/
def groupSitesCard : Claim7 := { stood := { row := groupSitesRow, standIns := [], harness := (true, "4c83b8632b53de4479a6a7e18d52495027e413d9305a1fc561e4f5cffb2a4003"), looks := false }, kinds := [], alts := [], laidByText := true, laidKinds := [.data, .listed, .data, .pinned], laidTests := true, laidLooks := .later }
def GroupSitesCardSaid : Prop := Claim7.holds Tryd.pinned (.plain (OpenSpec.ofChange groupSitesSpec)) groupSitesCard

/-- THE TIED CARD OF 'siglumlaw16.GroupMore'. -/
def groupMoreCard : Claim7 := { stood := { row := groupMoreRow, standIns := [], harness := (true, "4c83b8632b53de4479a6a7e18d52495027e413d9305a1fc561e4f5cffb2a4003"), looks := false }, kinds := [], alts := [], laidByText := true, laidKinds := [.data, .listed, .data, .pinned], laidTests := true, laidLooks := .later }
def GroupMoreCardSaid : Prop := Claim7.holds Tryd.pinned (.plain (OpenSpec.ofChange groupMoreSpec)) groupMoreCard

/-- THE TIED CARD OF 'siglumlaw16.GroupParts'. -/
def groupPartsCard : Claim7 := { stood := { row := groupPartsRow, standIns := [], harness := (true, "4c83b8632b53de4479a6a7e18d52495027e413d9305a1fc561e4f5cffb2a4003"), looks := false }, kinds := [], alts := [], laidByText := true, laidKinds := [.data, .listed, .data, .pinned], laidTests := true, laidLooks := .later }
def GroupPartsCardSaid : Prop := Claim7.holds Tryd.pinned (.plain (OpenSpec.ofChange groupPartsSpec)) groupPartsCard

/-- THE TIED CARD OF 'siglumlaw16.GroupReadings'. -/
def groupReadingsCard : Claim7 := { stood := { row := groupReadingsRow, standIns := [], harness := (true, "4c83b8632b53de4479a6a7e18d52495027e413d9305a1fc561e4f5cffb2a4003"), looks := false }, kinds := [], alts := [], laidByText := true, laidKinds := [.data, .listed, .data, .pinned], laidTests := true, laidLooks := .later }
def GroupReadingsCardSaid : Prop := Claim7.holds Tryd.pinned (.plain (OpenSpec.ofChange groupReadingsSpec)) groupReadingsCard

/-- THE TIED CARD OF 'siglumlaw16.GroupMajors'. -/
def groupMajorsCard : Claim7 := { stood := { row := groupMajorsRow, standIns := [], harness := (true, "4c83b8632b53de4479a6a7e18d52495027e413d9305a1fc561e4f5cffb2a4003"), looks := false }, kinds := [], alts := [], laidByText := true, laidKinds := [.data, .listed, .data, .pinned], laidTests := true, laidLooks := .later }
def GroupMajorsCardSaid : Prop := Claim7.holds Tryd.pinned (.plain (OpenSpec.ofChange groupMajorsSpec)) groupMajorsCard

/-- THE TIED CARD OF 'siglumlaw19.MatrixParses'. -/
def matrixParsesCard : Claim7 := { stood := { row := matrixParsesRow, standIns := [], harness := (true, "4c83b8632b53de4479a6a7e18d52495027e413d9305a1fc561e4f5cffb2a4003"), looks := false }, kinds := [], alts := [], laidByText := true, laidKinds := [.data, .pinned], laidTests := true, laidLooks := .later }
def MatrixParsesCardSaid : Prop := Claim7.holds Tryd.pinned (.plain (OpenSpec.ofChange matrixParsesSpec)) matrixParsesCard

/-- THE TIED CARD OF 'siglumlaw19.MatrixBack'. -/
def matrixBackCard : Claim7 := { stood := { row := matrixBackRow, standIns := [], harness := (true, "4c83b8632b53de4479a6a7e18d52495027e413d9305a1fc561e4f5cffb2a4003"), looks := false }, kinds := [], alts := [], laidByText := true, laidKinds := [.data, .pinned], laidTests := true, laidLooks := .later }
def MatrixBackCardSaid : Prop := Claim7.holds Tryd.pinned (.plain (OpenSpec.ofChange matrixBackSpec)) matrixBackCard

/-- THE TIED CARD OF 'siglumlaw19.MatrixAsks'. -/
def matrixAsksCard : Claim7 := { stood := { row := matrixAsksRow, standIns := [], harness := (true, "4c83b8632b53de4479a6a7e18d52495027e413d9305a1fc561e4f5cffb2a4003"), looks := false }, kinds := [], alts := [], laidByText := true, laidKinds := [.data, .pinned], laidTests := true, laidLooks := .later }
def MatrixAsksCardSaid : Prop := Claim7.holds Tryd.pinned (.plain (OpenSpec.ofChange matrixAsksSpec)) matrixAsksCard

/-- THE TIED CARD OF 'siglumlaw19.MatrixTurned'. -/
def matrixTurnedCard : Claim7 := { stood := { row := matrixTurnedRow, standIns := [], harness := (true, "4c83b8632b53de4479a6a7e18d52495027e413d9305a1fc561e4f5cffb2a4003"), looks := false }, kinds := [], alts := [], laidByText := true, laidKinds := [.data, .pinned], laidTests := true, laidLooks := .later }
def MatrixTurnedCardSaid : Prop := Claim7.holds Tryd.pinned (.plain (OpenSpec.ofChange matrixTurnedSpec)) matrixTurnedCard

/-- THE TIED CARD OF 'siglumlaw19.MatrixOfs'. -/
def matrixOfsCard : Claim7 := { stood := { row := matrixOfsRow, standIns := [], harness := (true, "4c83b8632b53de4479a6a7e18d52495027e413d9305a1fc561e4f5cffb2a4003"), looks := false }, kinds := [], alts := [], laidByText := true, laidKinds := [.data, .listed, .data, .pinned], laidTests := true, laidLooks := .later }
def MatrixOfsCardSaid : Prop := Claim7.holds Tryd.pinned (.plain (OpenSpec.ofChange matrixOfsSpec)) matrixOfsCard

/-- THE TIED CARD OF 'siglumlaw19.MatrixSites'. -/
def matrixSitesCard : Claim7 := { stood := { row := matrixSitesRow, standIns := [], harness := (true, "4c83b8632b53de4479a6a7e18d52495027e413d9305a1fc561e4f5cffb2a4003"), looks := false }, kinds := [], alts := [], laidByText := true, laidKinds := [.data, .listed, .data, .pinned], laidTests := true, laidLooks := .later }
def MatrixSitesCardSaid : Prop := Claim7.holds Tryd.pinned (.plain (OpenSpec.ofChange matrixSitesSpec)) matrixSitesCard

/-- THE SECOND FORM's CARD OF 'siglumlaw16.GroupSites'. -/
def groupSitesUptoCard : Claim7 := { stood := { row := groupSitesUptoRow, standIns := [], harness := (true, "4c83b8632b53de4479a6a7e18d52495027e413d9305a1fc561e4f5cffb2a4003"), looks := false }, kinds := [], alts := [], laidByText := true, laidKinds := [.data, .listed, .data, .pinned], laidTests := true, laidLooks := .later }
def GroupSitesUptoCardSaid : Prop := Claim7.holds Tryd.pinned (.plain (OpenSpec.upto groupSitesSpec)) groupSitesUptoCard

/-- THE SECOND FORM's CARD OF 'siglumlaw16.GroupMore'. -/
def groupMoreUptoCard : Claim7 := { stood := { row := groupMoreUptoRow, standIns := [], harness := (true, "4c83b8632b53de4479a6a7e18d52495027e413d9305a1fc561e4f5cffb2a4003"), looks := false }, kinds := [], alts := [], laidByText := true, laidKinds := [.data, .listed, .data, .pinned], laidTests := true, laidLooks := .later }
def GroupMoreUptoCardSaid : Prop := Claim7.holds Tryd.pinned (.plain (OpenSpec.upto groupMoreSpec)) groupMoreUptoCard

/-- THE SECOND FORM's CARD OF 'siglumlaw16.GroupParts'. -/
def groupPartsUptoCard : Claim7 := { stood := { row := groupPartsUptoRow, standIns := [], harness := (true, "4c83b8632b53de4479a6a7e18d52495027e413d9305a1fc561e4f5cffb2a4003"), looks := false }, kinds := [], alts := [], laidByText := true, laidKinds := [.data, .listed, .data, .pinned], laidTests := true, laidLooks := .later }
def GroupPartsUptoCardSaid : Prop := Claim7.holds Tryd.pinned (.plain (OpenSpec.upto groupPartsSpec)) groupPartsUptoCard

/-- THE SECOND FORM's CARD OF 'siglumlaw16.GroupReadings'. -/
def groupReadingsUptoCard : Claim7 := { stood := { row := groupReadingsUptoRow, standIns := [], harness := (true, "4c83b8632b53de4479a6a7e18d52495027e413d9305a1fc561e4f5cffb2a4003"), looks := false }, kinds := [], alts := [], laidByText := true, laidKinds := [.data, .listed, .data, .pinned], laidTests := true, laidLooks := .later }
def GroupReadingsUptoCardSaid : Prop := Claim7.holds Tryd.pinned (.plain (OpenSpec.upto groupReadingsSpec)) groupReadingsUptoCard

/-- THE SECOND FORM's CARD OF 'siglumlaw16.GroupMajors'. -/
def groupMajorsUptoCard : Claim7 := { stood := { row := groupMajorsUptoRow, standIns := [], harness := (true, "4c83b8632b53de4479a6a7e18d52495027e413d9305a1fc561e4f5cffb2a4003"), looks := false }, kinds := [], alts := [], laidByText := true, laidKinds := [.data, .listed, .data, .pinned], laidTests := true, laidLooks := .later }
def GroupMajorsUptoCardSaid : Prop := Claim7.holds Tryd.pinned (.plain (OpenSpec.upto groupMajorsSpec)) groupMajorsUptoCard

/-- THE SECOND FORM's CARD OF 'siglumlaw19.MatrixParses'. -/
def matrixParsesUptoCard : Claim7 := { stood := { row := matrixParsesUptoRow, standIns := [], harness := (true, "4c83b8632b53de4479a6a7e18d52495027e413d9305a1fc561e4f5cffb2a4003"), looks := false }, kinds := [], alts := [], laidByText := true, laidKinds := [.data, .pinned], laidTests := true, laidLooks := .later }
def MatrixParsesUptoCardSaid : Prop := Claim7.holds Tryd.pinned (.plain (OpenSpec.upto matrixParsesSpec)) matrixParsesUptoCard

/-- THE SECOND FORM's CARD OF 'siglumlaw19.MatrixBack'. -/
def matrixBackUptoCard : Claim7 := { stood := { row := matrixBackUptoRow, standIns := [], harness := (true, "4c83b8632b53de4479a6a7e18d52495027e413d9305a1fc561e4f5cffb2a4003"), looks := false }, kinds := [], alts := [], laidByText := true, laidKinds := [.data, .pinned], laidTests := true, laidLooks := .later }
def MatrixBackUptoCardSaid : Prop := Claim7.holds Tryd.pinned (.plain (OpenSpec.upto matrixBackSpec)) matrixBackUptoCard

/-- THE SECOND FORM's CARD OF 'siglumlaw19.MatrixAsks'. -/
def matrixAsksUptoCard : Claim7 := { stood := { row := matrixAsksUptoRow, standIns := [], harness := (true, "4c83b8632b53de4479a6a7e18d52495027e413d9305a1fc561e4f5cffb2a4003"), looks := false }, kinds := [], alts := [], laidByText := true, laidKinds := [.data, .pinned], laidTests := true, laidLooks := .later }
def MatrixAsksUptoCardSaid : Prop := Claim7.holds Tryd.pinned (.plain (OpenSpec.upto matrixAsksSpec)) matrixAsksUptoCard

/-- THE SECOND FORM's CARD OF 'siglumlaw19.MatrixTurned'. -/
def matrixTurnedUptoCard : Claim7 := { stood := { row := matrixTurnedUptoRow, standIns := [], harness := (true, "4c83b8632b53de4479a6a7e18d52495027e413d9305a1fc561e4f5cffb2a4003"), looks := false }, kinds := [], alts := [], laidByText := true, laidKinds := [.data, .pinned], laidTests := true, laidLooks := .later }
def MatrixTurnedUptoCardSaid : Prop := Claim7.holds Tryd.pinned (.plain (OpenSpec.upto matrixTurnedSpec)) matrixTurnedUptoCard

/-- THE SECOND FORM's CARD OF 'siglumlaw19.MatrixOfs'. -/
def matrixOfsUptoCard : Claim7 := { stood := { row := matrixOfsUptoRow, standIns := [], harness := (true, "4c83b8632b53de4479a6a7e18d52495027e413d9305a1fc561e4f5cffb2a4003"), looks := false }, kinds := [], alts := [], laidByText := true, laidKinds := [.data, .listed, .data, .pinned], laidTests := true, laidLooks := .later }
def MatrixOfsUptoCardSaid : Prop := Claim7.holds Tryd.pinned (.plain (OpenSpec.upto matrixOfsSpec)) matrixOfsUptoCard

/-- THE SECOND FORM's CARD OF 'siglumlaw19.MatrixSites'. -/
def matrixSitesUptoCard : Claim7 := { stood := { row := matrixSitesUptoRow, standIns := [], harness := (true, "4c83b8632b53de4479a6a7e18d52495027e413d9305a1fc561e4f5cffb2a4003"), looks := false }, kinds := [], alts := [], laidByText := true, laidKinds := [.data, .listed, .data, .pinned], laidTests := true, laidLooks := .later }
def MatrixSitesUptoCardSaid : Prop := Claim7.holds Tryd.pinned (.plain (OpenSpec.upto matrixSitesSpec)) matrixSitesUptoCard
end Rows
end Go.Proofs.YtnadacaoehpdnaaDoor
