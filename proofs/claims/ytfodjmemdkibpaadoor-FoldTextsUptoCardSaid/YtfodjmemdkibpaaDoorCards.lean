/-
  DERIVED. GIVEN WITH THE SEED: THE CARDS: each row of YtfodjmemdkibpaaDoorRows.lean that lists a variable, with what it lists TIED to the program's text (the seventh form; the later family's looks); each row that meets fmt, with fmt's text TOLD by the authors' own Lean function (tested against real Go, not proved from fmt's source: count such statements apart). THE CARD IS WHAT COUNTS. Prove the row's statement (the work); the ties are given (YtfodjmemdkibpaaDoorTie.lean); close each card by the builder's one call (the guide's Derived/Test/ToyasCard.lean, 'card_holds'). Laid BY PROGRAM, IN A SANDBOX (cutbox-door.mjs). By AI agents, Wed Nov 11 2026. No macro, syntax, notation, axiom, sorry.
-/
import Derived.Test.YtfodjmemdkibpaaDoorRows
import GoSem.ClaimSeven
namespace Go.Proofs.YtfodjmemdkibpaaDoor
namespace Rows

/-- THE TIED CARD OF 'siglumlaw07.SplitWords'. -/
def splitWordsCard : Claim7 := { stood := { row := splitWordsRow, standIns := [], harness := (true, "c4e665d1eeb4e827898e713febd02a335d5d46d23f66f055ea58bf1d51c2e5ce"), looks := false }, kinds := [], alts := [], laidByText := true, laidKinds := [.data, .pinned], laidTests := true, laidLooks := .later }
def SplitWordsCardSaid : Prop := Claim7.holds Tryd.pinned (.plain (OpenSpec.ofChange splitWordsSpec)) splitWordsCard

/-- THE TIED CARD OF 'siglumlaw07.SplitLines'. -/
def splitLinesCard : Claim7 := { stood := { row := splitLinesRow, standIns := [], harness := (true, "c4e665d1eeb4e827898e713febd02a335d5d46d23f66f055ea58bf1d51c2e5ce"), looks := false }, kinds := [], alts := [], laidByText := true, laidKinds := [.data, .pinned], laidTests := true, laidLooks := .later }
def SplitLinesCardSaid : Prop := Claim7.holds Tryd.pinned (.plain (OpenSpec.ofChange splitLinesSpec)) splitLinesCard

/-- THE TIED CARD OF 'siglumlaw07.SplitBack'. -/
def splitBackCard : Claim7 := { stood := { row := splitBackRow, standIns := [], harness := (true, "c4e665d1eeb4e827898e713febd02a335d5d46d23f66f055ea58bf1d51c2e5ce"), looks := false }, kinds := [], alts := [], laidByText := true, laidKinds := [.data, .pinned], laidTests := true, laidLooks := .later }
def SplitBackCardSaid : Prop := Claim7.holds Tryd.pinned (.plain (OpenSpec.ofChange splitBackSpec)) splitBackCard

/-- THE TIED CARD OF 'siglumlaw07.SplitTurned'. -/
def splitTurnedCard : Claim7 := { stood := { row := splitTurnedRow, standIns := [], harness := (true, "c4e665d1eeb4e827898e713febd02a335d5d46d23f66f055ea58bf1d51c2e5ce"), looks := false }, kinds := [], alts := [], laidByText := true, laidKinds := [.data, .pinned], laidTests := true, laidLooks := .later }
def SplitTurnedCardSaid : Prop := Claim7.holds Tryd.pinned (.plain (OpenSpec.ofChange splitTurnedSpec)) splitTurnedCard

/-- THE TIED CARD OF 'siglumlaw07.SplitJoins'. -/
def splitJoinsCard : Claim7 := { stood := { row := splitJoinsRow, standIns := [], harness := (true, "c4e665d1eeb4e827898e713febd02a335d5d46d23f66f055ea58bf1d51c2e5ce"), looks := false }, kinds := [], alts := [], laidByText := true, laidKinds := [.data, .listed, .data, .pinned], laidTests := true, laidLooks := .later }
def SplitJoinsCardSaid : Prop := Claim7.holds Tryd.pinned (.plain (OpenSpec.ofChange splitJoinsSpec)) splitJoinsCard

/-- THE TIED CARD OF 'siglumlaw03.FoldOnce'. -/
def foldOnceCard : Claim7 := { stood := { row := foldOnceRow, standIns := [], harness := (true, "c4e665d1eeb4e827898e713febd02a335d5d46d23f66f055ea58bf1d51c2e5ce"), looks := false }, kinds := [], alts := [], laidByText := true, laidKinds := [.data, .listed, .data, .pinned], laidTests := true, laidLooks := .later }
def FoldOnceCardSaid : Prop := Claim7.holds Tryd.pinned (.plain (OpenSpec.ofChange foldOnceSpec)) foldOnceCard

/-- THE TIED CARD OF 'siglumlaw03.FoldMore'. -/
def foldMoreCard : Claim7 := { stood := { row := foldMoreRow, standIns := [], harness := (true, "c4e665d1eeb4e827898e713febd02a335d5d46d23f66f055ea58bf1d51c2e5ce"), looks := false }, kinds := [], alts := [], laidByText := true, laidKinds := [.data, .listed, .data, .pinned], laidTests := true, laidLooks := .later }
def FoldMoreCardSaid : Prop := Claim7.holds Tryd.pinned (.plain (OpenSpec.ofChange foldMoreSpec)) foldMoreCard

/-- THE TIED CARD OF 'siglumlaw03.FoldJoins'. -/
def foldJoinsCard : Claim7 := { stood := { row := foldJoinsRow, standIns := [], harness := (true, "c4e665d1eeb4e827898e713febd02a335d5d46d23f66f055ea58bf1d51c2e5ce"), looks := false }, kinds := [], alts := [], laidByText := true, laidKinds := [.data, .listed, .data, .pinned], laidTests := true, laidLooks := .later }
def FoldJoinsCardSaid : Prop := Claim7.holds Tryd.pinned (.plain (OpenSpec.ofChange foldJoinsSpec)) foldJoinsCard

/-- THE TIED CARD OF 'siglumlaw03.FoldRunes'. -/
def foldRunesCard : Claim7 := { stood := { row := foldRunesRow, standIns := [], harness := (true, "c4e665d1eeb4e827898e713febd02a335d5d46d23f66f055ea58bf1d51c2e5ce"), looks := false }, kinds := [], alts := [], laidByText := true, laidKinds := [.data, .listed, .data, .pinned], laidTests := true, laidLooks := .later }
def FoldRunesCardSaid : Prop := Claim7.holds Tryd.pinned (.plain (OpenSpec.ofChange foldRunesSpec)) foldRunesCard

/-- THE TIED CARD OF 'siglumlaw03.FoldTexts'. -/
def foldTextsCard : Claim7 := { stood := { row := foldTextsRow, standIns := [], harness := (true, "c4e665d1eeb4e827898e713febd02a335d5d46d23f66f055ea58bf1d51c2e5ce"), looks := false }, kinds := [], alts := [], laidByText := true, laidKinds := [.data, .listed, .data, .pinned], laidTests := true, laidLooks := .later }
def FoldTextsCardSaid : Prop := Claim7.holds Tryd.pinned (.plain (OpenSpec.ofChange foldTextsSpec)) foldTextsCard

/-- THE TIED CARD OF 'siglumlaw03.FoldSame'. -/
def foldSameCard : Claim7 := { stood := { row := foldSameRow, standIns := [], harness := (true, "c4e665d1eeb4e827898e713febd02a335d5d46d23f66f055ea58bf1d51c2e5ce"), looks := false }, kinds := [], alts := [], laidByText := true, laidKinds := [.data, .listed, .data, .pinned], laidTests := true, laidLooks := .later }
def FoldSameCardSaid : Prop := Claim7.holds Tryd.pinned (.plain (OpenSpec.ofChange foldSameSpec)) foldSameCard

/-- THE SECOND FORM's CARD OF 'siglumlaw07.SplitWords'. -/
def splitWordsUptoCard : Claim7 := { stood := { row := splitWordsUptoRow, standIns := [], harness := (true, "c4e665d1eeb4e827898e713febd02a335d5d46d23f66f055ea58bf1d51c2e5ce"), looks := false }, kinds := [], alts := [], laidByText := true, laidKinds := [.data, .pinned], laidTests := true, laidLooks := .later }
def SplitWordsUptoCardSaid : Prop := Claim7.holds Tryd.pinned (.plain (OpenSpec.upto splitWordsSpec)) splitWordsUptoCard

/-- THE SECOND FORM's CARD OF 'siglumlaw07.SplitLines'. -/
def splitLinesUptoCard : Claim7 := { stood := { row := splitLinesUptoRow, standIns := [], harness := (true, "c4e665d1eeb4e827898e713febd02a335d5d46d23f66f055ea58bf1d51c2e5ce"), looks := false }, kinds := [], alts := [], laidByText := true, laidKinds := [.data, .pinned], laidTests := true, laidLooks := .later }
def SplitLinesUptoCardSaid : Prop := Claim7.holds Tryd.pinned (.plain (OpenSpec.upto splitLinesSpec)) splitLinesUptoCard

/-- THE SECOND FORM's CARD OF 'siglumlaw07.SplitBack'. -/
def splitBackUptoCard : Claim7 := { stood := { row := splitBackUptoRow, standIns := [], harness := (true, "c4e665d1eeb4e827898e713febd02a335d5d46d23f66f055ea58bf1d51c2e5ce"), looks := false }, kinds := [], alts := [], laidByText := true, laidKinds := [.data, .pinned], laidTests := true, laidLooks := .later }
def SplitBackUptoCardSaid : Prop := Claim7.holds Tryd.pinned (.plain (OpenSpec.upto splitBackSpec)) splitBackUptoCard

/-- THE SECOND FORM's CARD OF 'siglumlaw07.SplitTurned'. -/
def splitTurnedUptoCard : Claim7 := { stood := { row := splitTurnedUptoRow, standIns := [], harness := (true, "c4e665d1eeb4e827898e713febd02a335d5d46d23f66f055ea58bf1d51c2e5ce"), looks := false }, kinds := [], alts := [], laidByText := true, laidKinds := [.data, .pinned], laidTests := true, laidLooks := .later }
def SplitTurnedUptoCardSaid : Prop := Claim7.holds Tryd.pinned (.plain (OpenSpec.upto splitTurnedSpec)) splitTurnedUptoCard

/-- THE SECOND FORM's CARD OF 'siglumlaw07.SplitJoins'. -/
def splitJoinsUptoCard : Claim7 := { stood := { row := splitJoinsUptoRow, standIns := [], harness := (true, "c4e665d1eeb4e827898e713febd02a335d5d46d23f66f055ea58bf1d51c2e5ce"), looks := false }, kinds := [], alts := [], laidByText := true, laidKinds := [.data, .listed, .data, .pinned], laidTests := true, laidLooks := .later }
def SplitJoinsUptoCardSaid : Prop := Claim7.holds Tryd.pinned (.plain (OpenSpec.upto splitJoinsSpec)) splitJoinsUptoCard

/-- THE SECOND FORM's CARD OF 'siglumlaw03.FoldOnce'. -/
def foldOnceUptoCard : Claim7 := { stood := { row := foldOnceUptoRow, standIns := [], harness := (true, "c4e665d1eeb4e827898e713febd02a335d5d46d23f66f055ea58bf1d51c2e5ce"), looks := false }, kinds := [], alts := [], laidByText := true, laidKinds := [.data, .listed, .data, .pinned], laidTests := true, laidLooks := .later }
def FoldOnceUptoCardSaid : Prop := Claim7.holds Tryd.pinned (.plain (OpenSpec.upto foldOnceSpec)) foldOnceUptoCard

/-- THE SECOND FORM's CARD OF 'siglumlaw03.FoldMore'. -/
def foldMoreUptoCard : Claim7 := { stood := { row := foldMoreUptoRow, standIns := [], harness := (true, "c4e665d1eeb4e827898e713febd02a335d5d46d23f66f055ea58bf1d51c2e5ce"), looks := false }, kinds := [], alts := [], laidByText := true, laidKinds := [.data, .listed, .data, .pinned], laidTests := true, laidLooks := .later }
def FoldMoreUptoCardSaid : Prop := Claim7.holds Tryd.pinned (.plain (OpenSpec.upto foldMoreSpec)) foldMoreUptoCard

/-- THE SECOND FORM's CARD OF 'siglumlaw03.FoldJoins'. -/
def foldJoinsUptoCard : Claim7 := { stood := { row := foldJoinsUptoRow, standIns := [], harness := (true, "c4e665d1eeb4e827898e713febd02a335d5d46d23f66f055ea58bf1d51c2e5ce"), looks := false }, kinds := [], alts := [], laidByText := true, laidKinds := [.data, .listed, .data, .pinned], laidTests := true, laidLooks := .later }
def FoldJoinsUptoCardSaid : Prop := Claim7.holds Tryd.pinned (.plain (OpenSpec.upto foldJoinsSpec)) foldJoinsUptoCard

/-- THE SECOND FORM's CARD OF 'siglumlaw03.FoldRunes'. -/
def foldRunesUptoCard : Claim7 := { stood := { row := foldRunesUptoRow, standIns := [], harness := (true, "c4e665d1eeb4e827898e713febd02a335d5d46d23f66f055ea58bf1d51c2e5ce"), looks := false }, kinds := [], alts := [], laidByText := true, laidKinds := [.data, .listed, .data, .pinned], laidTests := true, laidLooks := .later }
def FoldRunesUptoCardSaid : Prop := Claim7.holds Tryd.pinned (.plain (OpenSpec.upto foldRunesSpec)) foldRunesUptoCard

/-- THE SECOND FORM's CARD OF 'siglumlaw03.FoldTexts'. -/
def foldTextsUptoCard : Claim7 := { stood := { row := foldTextsUptoRow, standIns := [], harness := (true, "c4e665d1eeb4e827898e713febd02a335d5d46d23f66f055ea58bf1d51c2e5ce"), looks := false }, kinds := [], alts := [], laidByText := true, laidKinds := [.data, .listed, .data, .pinned], laidTests := true, laidLooks := .later }
def FoldTextsUptoCardSaid : Prop := Claim7.holds Tryd.pinned (.plain (OpenSpec.upto foldTextsSpec)) foldTextsUptoCard

/-- THE SECOND FORM's CARD OF 'siglumlaw03.FoldSame'. -/
def foldSameUptoCard : Claim7 := { stood := { row := foldSameUptoRow, standIns := [], harness := (true, "c4e665d1eeb4e827898e713febd02a335d5d46d23f66f055ea58bf1d51c2e5ce"), looks := false }, kinds := [], alts := [], laidByText := true, laidKinds := [.data, .listed, .data, .pinned], laidTests := true, laidLooks := .later }
def FoldSameUptoCardSaid : Prop := Claim7.holds Tryd.pinned (.plain (OpenSpec.upto foldSameSpec)) foldSameUptoCard
end Rows
end Go.Proofs.YtfodjmemdkibpaaDoor
