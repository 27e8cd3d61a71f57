/-
  DERIVED. GIVEN WITH THE SEED: THE CARDS: each row of YtjoecebimleoaaaDoorRows.lean that lists a variable, with what it lists TIED to the program's text (the seventh form; the later family's looks); each row that meets fmt, with fmt's text TOLD by the authors' own Lean function (tested against real Go, not proved from fmt's source: count such statements apart). THE CARD IS WHAT COUNTS. Prove the row's statement (the work); the ties are given (YtjoecebimleoaaaDoorTie.lean); close each card by the builder's one call (the guide's Derived/Test/ToyasCard.lean, 'card_holds'). Laid BY PROGRAM, IN A SANDBOX (cutbox-door.mjs). By AI agents, Wed Nov 11 2026. No macro, syntax, notation, axiom, sorry.
-/
import Derived.Test.YtjoecebimleoaaaDoorRows
import GoSem.ClaimSeven
namespace Go.Proofs.YtjoecebimleoaaaDoor
namespace Rows

/-- THE TIED CARD OF 'siglumlaw18.BaseRows'. -/
def baseRowsCard : Claim7 := { stood := { row := baseRowsRow, standIns := [], harness := (true, "6b18bfd35f3c91fb51c4fb561967f8b24efce3cbba330c4dce00487836acb9de"), looks := false }, kinds := [], alts := [], laidByText := true, laidKinds := [.data, .pinned], laidTests := true, laidLooks := .later }
def BaseRowsCardSaid : Prop := Claim7.holds Tryd.pinned (.plain (OpenSpec.ofChange baseRowsSpec)) baseRowsCard

/-- THE TIED CARD OF 'siglumlaw18.BaseAll'. -/
def baseAllCard : Claim7 := { stood := { row := baseAllRow, standIns := [], harness := (true, "6b18bfd35f3c91fb51c4fb561967f8b24efce3cbba330c4dce00487836acb9de"), looks := false }, kinds := [], alts := [], laidByText := true, laidKinds := [.data, .listed, .data, .pinned], laidTests := true, laidLooks := .later }
def BaseAllCardSaid : Prop := Claim7.holds Tryd.pinned (.plain (OpenSpec.ofChange baseAllSpec)) baseAllCard

/-- THE SECOND FORM's CARD OF 'siglumlaw18.BaseRows'. -/
def baseRowsUptoCard : Claim7 := { stood := { row := baseRowsUptoRow, standIns := [], harness := (true, "6b18bfd35f3c91fb51c4fb561967f8b24efce3cbba330c4dce00487836acb9de"), looks := false }, kinds := [], alts := [], laidByText := true, laidKinds := [.data, .pinned], laidTests := true, laidLooks := .later }
def BaseRowsUptoCardSaid : Prop := Claim7.holds Tryd.pinned (.plain (OpenSpec.upto baseRowsSpec)) baseRowsUptoCard

/-- THE SECOND FORM's CARD OF 'siglumlaw18.BaseAll'. -/
def baseAllUptoCard : Claim7 := { stood := { row := baseAllUptoRow, standIns := [], harness := (true, "6b18bfd35f3c91fb51c4fb561967f8b24efce3cbba330c4dce00487836acb9de"), looks := false }, kinds := [], alts := [], laidByText := true, laidKinds := [.data, .listed, .data, .pinned], laidTests := true, laidLooks := .later }
def BaseAllUptoCardSaid : Prop := Claim7.holds Tryd.pinned (.plain (OpenSpec.upto baseAllSpec)) baseAllUptoCard
end Rows
end Go.Proofs.YtjoecebimleoaaaDoor
