/-
  NARROWER THAN 'FOR EVERY INPUT', by the rows' own cells (each row's printed sentence says how): GroupSites: laid · GroupMore: laid · GroupParts: laid · GroupReadings: laid · GroupMajors: laid · MatrixParses: laid · MatrixBack: laid · MatrixAsks: laid · MatrixTurned: laid · MatrixOfs: laid · MatrixSites: laid.
  DERIVED. THE GIVEN ROWS OF THIS SEAT. 11 by the template 'for every input the law returns true; each argument reads behind the call as it read before'; 0 by the template 'total and deterministic' (their statements: YtnadacaoehpdnaaDoorTotals.lean).
  GIVEN WITH THE SEED: the statements are not yours to turn. If you find one false, say at which input.
  Laid BY PROGRAM, IN A SANDBOX (cutbox-rows.mjs): the forced cells as the released guide's own fill.sh prints them over the translation 5e3f0854dd04d462… (all of the seat's roots in one cut). By AI agents, Wed Nov 11 2026. No macro, syntax, notation, axiom, sorry.
-/
import Derived.Test.YtnadacaoehpdnaaDoorChecked
import GoSem.PinnedTables
import GoSem.Claim
import GoSem.ClaimJoined
import GoSem.ClaimMapViews
import Derived.JoinedTies
import Derived.KernelRfl
namespace Go.Proofs.YtnadacaoehpdnaaDoor
/- THE CELL 'sum', in the pinned program and in every row, IS THE sha256 OF THE DUMP (.gsa) THAT YtnadacaoehpdnaaDoorProg.lean LOADS. Nothing in Lean hashes anything: it is a label: what it is worth is what the hold of that sum in a sandbox is worth. -/
noncomputable def Tryd.pinned : Pinned := { name := "ytnadacaoehpdnaadoor", sum := "5e3f0854dd04d462e04a6152712dcd9a7cf93ed668e0b20ba687c9818262ea63", checked := Tryd.checked }
namespace Rows
def none {H : Type} : Left H := { results := [], args := [] }

/- WHAT THE LISTED PACKAGE-LEVEL VARIABLES READ AS WHEN THE CALL BEGINS. Each datum BY PROGRAM (the guide's laid-datum.mjs) off the statement by which the dump's own 'gosem.cut.vars' lays the variable. In a bare row this is a premise. The card (YtnadacaoehpdnaaDoorCards.lean) ties it to the program's text. -/
def laid_unicode_utf8_acceptRanges {H : Type} : DataW H := .agg [.agg [.lit (.int .u8 128), .lit (.int .u8 191)], .agg [.lit (.int .u8 160), .lit (.int .u8 191)], .agg [.lit (.int .u8 128), .lit (.int .u8 159)], .agg [.lit (.int .u8 144), .lit (.int .u8 191)], .agg [.lit (.int .u8 128), .lit (.int .u8 143)], .agg [.lit (.int .u8 0), .lit (.int .u8 0)], .agg [.lit (.int .u8 0), .lit (.int .u8 0)], .agg [.lit (.int .u8 0), .lit (.int .u8 0)], .agg [.lit (.int .u8 0), .lit (.int .u8 0)], .agg [.lit (.int .u8 0), .lit (.int .u8 0)], .agg [.lit (.int .u8 0), .lit (.int .u8 0)], .agg [.lit (.int .u8 0), .lit (.int .u8 0)], .agg [.lit (.int .u8 0), .lit (.int .u8 0)], .agg [.lit (.int .u8 0), .lit (.int .u8 0)], .agg [.lit (.int .u8 0), .lit (.int .u8 0)], .agg [.lit (.int .u8 0), .lit (.int .u8 0)]]
def laid_unicode_White_Space {H : Type} : DataW H := .ptr (.agg [.slice [.agg [.lit (.int .u16 9), .lit (.int .u16 13), .lit (.int .u16 1)], .agg [.lit (.int .u16 32), .lit (.int .u16 133), .lit (.int .u16 101)], .agg [.lit (.int .u16 160), .lit (.int .u16 5760), .lit (.int .u16 5600)], .agg [.lit (.int .u16 8192), .lit (.int .u16 8202), .lit (.int .u16 1)], .agg [.lit (.int .u16 8232), .lit (.int .u16 8233), .lit (.int .u16 1)], .agg [.lit (.int .u16 8239), .lit (.int .u16 8287), .lit (.int .u16 48)], .agg [.lit (.int .u16 12288), .lit (.int .u16 12288), .lit (.int .u16 1)]] [], .nil, .lit (.int .i64 2)])
def laid_strings_asciiSpace {H : Type} : DataW H := .agg [.lit (.int .u8 0), .lit (.int .u8 0), .lit (.int .u8 0), .lit (.int .u8 0), .lit (.int .u8 0), .lit (.int .u8 0), .lit (.int .u8 0), .lit (.int .u8 0), .lit (.int .u8 0), .lit (.int .u8 1), .lit (.int .u8 1), .lit (.int .u8 1), .lit (.int .u8 1), .lit (.int .u8 1), .lit (.int .u8 0), .lit (.int .u8 0), .lit (.int .u8 0), .lit (.int .u8 0), .lit (.int .u8 0), .lit (.int .u8 0), .lit (.int .u8 0), .lit (.int .u8 0), .lit (.int .u8 0), .lit (.int .u8 0), .lit (.int .u8 0), .lit (.int .u8 0), .lit (.int .u8 0), .lit (.int .u8 0), .lit (.int .u8 0), .lit (.int .u8 0), .lit (.int .u8 0), .lit (.int .u8 0), .lit (.int .u8 1), .lit (.int .u8 0), .lit (.int .u8 0), .lit (.int .u8 0), .lit (.int .u8 0), .lit (.int .u8 0), .lit (.int .u8 0), .lit (.int .u8 0), .lit (.int .u8 0), .lit (.int .u8 0), .lit (.int .u8 0), .lit (.int .u8 0), .lit (.int .u8 0), .lit (.int .u8 0), .lit (.int .u8 0), .lit (.int .u8 0), .lit (.int .u8 0), .lit (.int .u8 0), .lit (.int .u8 0), .lit (.int .u8 0), .lit (.int .u8 0), .lit (.int .u8 0), .lit (.int .u8 0), .lit (.int .u8 0), .lit (.int .u8 0), .lit (.int .u8 0), .lit (.int .u8 0), .lit (.int .u8 0), .lit (.int .u8 0), .lit (.int .u8 0), .lit (.int .u8 0), .lit (.int .u8 0), .lit (.int .u8 0), .lit (.int .u8 0), .lit (.int .u8 0), .lit (.int .u8 0), .lit (.int .u8 0), .lit (.int .u8 0), .lit (.int .u8 0), .lit (.int .u8 0), .lit (.int .u8 0), .lit (.int .u8 0), .lit (.int .u8 0), .lit (.int .u8 0), .lit (.int .u8 0), .lit (.int .u8 0), .lit (.int .u8 0), .lit (.int .u8 0), .lit (.int .u8 0), .lit (.int .u8 0), .lit (.int .u8 0), .lit (.int .u8 0), .lit (.int .u8 0), .lit (.int .u8 0), .lit (.int .u8 0), .lit (.int .u8 0), .lit (.int .u8 0), .lit (.int .u8 0), .lit (.int .u8 0), .lit (.int .u8 0), .lit (.int .u8 0), .lit (.int .u8 0), .lit (.int .u8 0), .lit (.int .u8 0), .lit (.int .u8 0), .lit (.int .u8 0), .lit (.int .u8 0), .lit (.int .u8 0), .lit (.int .u8 0), .lit (.int .u8 0), .lit (.int .u8 0), .lit (.int .u8 0), .lit (.int .u8 0), .lit (.int .u8 0), .lit (.int .u8 0), .lit (.int .u8 0), .lit (.int .u8 0), .lit (.int .u8 0), .lit (.int .u8 0), .lit (.int .u8 0), .lit (.int .u8 0), .lit (.int .u8 0), .lit (.int .u8 0), .lit (.int .u8 0), .lit (.int .u8 0), .lit (.int .u8 0), .lit (.int .u8 0), .lit (.int .u8 0), .lit (.int .u8 0), .lit (.int .u8 0), .lit (.int .u8 0), .lit (.int .u8 0), .lit (.int .u8 0), .lit (.int .u8 0), .lit (.int .u8 0), .lit (.int .u8 0), .lit (.int .u8 0), .lit (.int .u8 0), .lit (.int .u8 0), .lit (.int .u8 0), .lit (.int .u8 0), .lit (.int .u8 0), .lit (.int .u8 0), .lit (.int .u8 0), .lit (.int .u8 0), .lit (.int .u8 0), .lit (.int .u8 0), .lit (.int .u8 0), .lit (.int .u8 0), .lit (.int .u8 0), .lit (.int .u8 0), .lit (.int .u8 0), .lit (.int .u8 0), .lit (.int .u8 0), .lit (.int .u8 0), .lit (.int .u8 0), .lit (.int .u8 0), .lit (.int .u8 0), .lit (.int .u8 0), .lit (.int .u8 0), .lit (.int .u8 0), .lit (.int .u8 0), .lit (.int .u8 0), .lit (.int .u8 0), .lit (.int .u8 0), .lit (.int .u8 0), .lit (.int .u8 0), .lit (.int .u8 0), .lit (.int .u8 0), .lit (.int .u8 0), .lit (.int .u8 0), .lit (.int .u8 0), .lit (.int .u8 0), .lit (.int .u8 0), .lit (.int .u8 0), .lit (.int .u8 0), .lit (.int .u8 0), .lit (.int .u8 0), .lit (.int .u8 0), .lit (.int .u8 0), .lit (.int .u8 0), .lit (.int .u8 0), .lit (.int .u8 0), .lit (.int .u8 0), .lit (.int .u8 0), .lit (.int .u8 0), .lit (.int .u8 0), .lit (.int .u8 0), .lit (.int .u8 0), .lit (.int .u8 0), .lit (.int .u8 0), .lit (.int .u8 0), .lit (.int .u8 0), .lit (.int .u8 0), .lit (.int .u8 0), .lit (.int .u8 0), .lit (.int .u8 0), .lit (.int .u8 0), .lit (.int .u8 0), .lit (.int .u8 0), .lit (.int .u8 0), .lit (.int .u8 0), .lit (.int .u8 0), .lit (.int .u8 0), .lit (.int .u8 0), .lit (.int .u8 0), .lit (.int .u8 0), .lit (.int .u8 0), .lit (.int .u8 0), .lit (.int .u8 0), .lit (.int .u8 0), .lit (.int .u8 0), .lit (.int .u8 0), .lit (.int .u8 0), .lit (.int .u8 0), .lit (.int .u8 0), .lit (.int .u8 0), .lit (.int .u8 0), .lit (.int .u8 0), .lit (.int .u8 0), .lit (.int .u8 0), .lit (.int .u8 0), .lit (.int .u8 0), .lit (.int .u8 0), .lit (.int .u8 0), .lit (.int .u8 0), .lit (.int .u8 0), .lit (.int .u8 0), .lit (.int .u8 0), .lit (.int .u8 0), .lit (.int .u8 0), .lit (.int .u8 0), .lit (.int .u8 0), .lit (.int .u8 0), .lit (.int .u8 0), .lit (.int .u8 0), .lit (.int .u8 0), .lit (.int .u8 0), .lit (.int .u8 0), .lit (.int .u8 0), .lit (.int .u8 0), .lit (.int .u8 0), .lit (.int .u8 0), .lit (.int .u8 0), .lit (.int .u8 0), .lit (.int .u8 0), .lit (.int .u8 0), .lit (.int .u8 0), .lit (.int .u8 0), .lit (.int .u8 0), .lit (.int .u8 0), .lit (.int .u8 0), .lit (.int .u8 0), .lit (.int .u8 0), .lit (.int .u8 0), .lit (.int .u8 0), .lit (.int .u8 0), .lit (.int .u8 0), .lit (.int .u8 0), .lit (.int .u8 0), .lit (.int .u8 0), .lit (.int .u8 0), .lit (.int .u8 0), .lit (.int .u8 0)]
/-- One of Go's own tables, pinned by name: the form's constant. -/
def laid_unicode_utf8_first : DataW Unit := Go.Pinned.utf8First

/-- 'siglumlaw16.GroupSites': WHATEVER THE INPUT: true; the input reads as it did. -/
def groupSitesSpec : ChangeSpec := { name := "groupSites", fn := fun _ => fun
  | [d1, d2] => { results := [.lit (.bool true)], args := [d1, d2] }
  | _ => none }
def groupSitesRow : OpenClaim := { program := "ytnadacaoehpdnaadoor", sum := "5e3f0854dd04d462e04a6152712dcd9a7cf93ed668e0b20ba687c9818262ea63", func := "siglum/siglumlaw16.GroupSites", spec := "groupSites", inPlace := ["internal/abi.NoEscape"], unfollowed := true, recurses := true, named := ["unicode/utf8.first", "unicode/utf8.acceptRanges", "strings.asciiSpace", "unicode.White_Space"], apart := false, laid := [("unicode/utf8.acceptRanges", laid_unicode_utf8_acceptRanges), ("unicode.White_Space", laid_unicode_White_Space), ("strings.asciiSpace", laid_strings_asciiSpace), ("unicode/utf8.first", laid_unicode_utf8_first)] }
def GroupSitesSaid : Prop := groupSitesRow.holds Tryd.pinned (OpenSpec.ofChange groupSitesSpec)

/-- ITS FALSE NEIGHBOUR: 'it returns false'. Refute it at one input. -/
def groupSitesWrong : ChangeSpec := { name := "groupSites", fn := fun _ => fun
  | [d1, d2] => { results := [.lit (.bool false)], args := [d1, d2] }
  | _ => none }
def GroupSitesWrongFalsely : Prop := groupSitesRow.holds Tryd.pinned (OpenSpec.ofChange groupSitesWrong)

/-- 'siglumlaw16.GroupMore': WHATEVER THE INPUT: true; the input reads as it did. -/
def groupMoreSpec : ChangeSpec := { name := "groupMore", fn := fun _ => fun
  | [d1, d2, d3] => { results := [.lit (.bool true)], args := [d1, d2, d3] }
  | _ => none }
def groupMoreRow : OpenClaim := { program := "ytnadacaoehpdnaadoor", sum := "5e3f0854dd04d462e04a6152712dcd9a7cf93ed668e0b20ba687c9818262ea63", func := "siglum/siglumlaw16.GroupMore", spec := "groupMore", inPlace := ["internal/abi.NoEscape"], unfollowed := true, recurses := true, named := ["unicode/utf8.first", "unicode/utf8.acceptRanges", "strings.asciiSpace", "unicode.White_Space"], apart := false, laid := [("unicode/utf8.acceptRanges", laid_unicode_utf8_acceptRanges), ("unicode.White_Space", laid_unicode_White_Space), ("strings.asciiSpace", laid_strings_asciiSpace), ("unicode/utf8.first", laid_unicode_utf8_first)] }
def GroupMoreSaid : Prop := groupMoreRow.holds Tryd.pinned (OpenSpec.ofChange groupMoreSpec)

/-- ITS FALSE NEIGHBOUR: 'it returns false'. Refute it at one input. -/
def groupMoreWrong : ChangeSpec := { name := "groupMore", fn := fun _ => fun
  | [d1, d2, d3] => { results := [.lit (.bool false)], args := [d1, d2, d3] }
  | _ => none }
def GroupMoreWrongFalsely : Prop := groupMoreRow.holds Tryd.pinned (OpenSpec.ofChange groupMoreWrong)

/-- 'siglumlaw16.GroupParts': WHATEVER THE INPUT: true; the input reads as it did. -/
def groupPartsSpec : ChangeSpec := { name := "groupParts", fn := fun _ => fun
  | [d1, d2] => { results := [.lit (.bool true)], args := [d1, d2] }
  | _ => none }
def groupPartsRow : OpenClaim := { program := "ytnadacaoehpdnaadoor", sum := "5e3f0854dd04d462e04a6152712dcd9a7cf93ed668e0b20ba687c9818262ea63", func := "siglum/siglumlaw16.GroupParts", spec := "groupParts", inPlace := ["internal/abi.NoEscape"], unfollowed := true, recurses := true, named := ["unicode/utf8.first", "unicode/utf8.acceptRanges", "strings.asciiSpace", "unicode.White_Space"], apart := false, laid := [("unicode/utf8.acceptRanges", laid_unicode_utf8_acceptRanges), ("unicode.White_Space", laid_unicode_White_Space), ("strings.asciiSpace", laid_strings_asciiSpace), ("unicode/utf8.first", laid_unicode_utf8_first)] }
def GroupPartsSaid : Prop := groupPartsRow.holds Tryd.pinned (OpenSpec.ofChange groupPartsSpec)

/-- ITS FALSE NEIGHBOUR: 'it returns false'. Refute it at one input. -/
def groupPartsWrong : ChangeSpec := { name := "groupParts", fn := fun _ => fun
  | [d1, d2] => { results := [.lit (.bool false)], args := [d1, d2] }
  | _ => none }
def GroupPartsWrongFalsely : Prop := groupPartsRow.holds Tryd.pinned (OpenSpec.ofChange groupPartsWrong)

/-- 'siglumlaw16.GroupReadings': WHATEVER THE INPUT: true; the input reads as it did. -/
def groupReadingsSpec : ChangeSpec := { name := "groupReadings", fn := fun _ => fun
  | [d1, d2, d3] => { results := [.lit (.bool true)], args := [d1, d2, d3] }
  | _ => none }
def groupReadingsRow : OpenClaim := { program := "ytnadacaoehpdnaadoor", sum := "5e3f0854dd04d462e04a6152712dcd9a7cf93ed668e0b20ba687c9818262ea63", func := "siglum/siglumlaw16.GroupReadings", spec := "groupReadings", inPlace := ["internal/abi.NoEscape"], unfollowed := true, recurses := true, named := ["unicode/utf8.first", "unicode/utf8.acceptRanges", "strings.asciiSpace", "unicode.White_Space"], apart := false, laid := [("unicode/utf8.acceptRanges", laid_unicode_utf8_acceptRanges), ("unicode.White_Space", laid_unicode_White_Space), ("strings.asciiSpace", laid_strings_asciiSpace), ("unicode/utf8.first", laid_unicode_utf8_first)] }
def GroupReadingsSaid : Prop := groupReadingsRow.holds Tryd.pinned (OpenSpec.ofChange groupReadingsSpec)

/-- ITS FALSE NEIGHBOUR: 'it returns false'. Refute it at one input. -/
def groupReadingsWrong : ChangeSpec := { name := "groupReadings", fn := fun _ => fun
  | [d1, d2, d3] => { results := [.lit (.bool false)], args := [d1, d2, d3] }
  | _ => none }
def GroupReadingsWrongFalsely : Prop := groupReadingsRow.holds Tryd.pinned (OpenSpec.ofChange groupReadingsWrong)

/-- 'siglumlaw16.GroupMajors': WHATEVER THE INPUT: true; the input reads as it did. -/
def groupMajorsSpec : ChangeSpec := { name := "groupMajors", fn := fun _ => fun
  | [d1, d2] => { results := [.lit (.bool true)], args := [d1, d2] }
  | _ => none }
def groupMajorsRow : OpenClaim := { program := "ytnadacaoehpdnaadoor", sum := "5e3f0854dd04d462e04a6152712dcd9a7cf93ed668e0b20ba687c9818262ea63", func := "siglum/siglumlaw16.GroupMajors", spec := "groupMajors", inPlace := ["internal/abi.NoEscape"], unfollowed := true, recurses := true, named := ["unicode/utf8.first", "unicode/utf8.acceptRanges", "strings.asciiSpace", "unicode.White_Space"], apart := false, laid := [("unicode/utf8.acceptRanges", laid_unicode_utf8_acceptRanges), ("unicode.White_Space", laid_unicode_White_Space), ("strings.asciiSpace", laid_strings_asciiSpace), ("unicode/utf8.first", laid_unicode_utf8_first)] }
def GroupMajorsSaid : Prop := groupMajorsRow.holds Tryd.pinned (OpenSpec.ofChange groupMajorsSpec)

/-- ITS FALSE NEIGHBOUR: 'it returns false'. Refute it at one input. -/
def groupMajorsWrong : ChangeSpec := { name := "groupMajors", fn := fun _ => fun
  | [d1, d2] => { results := [.lit (.bool false)], args := [d1, d2] }
  | _ => none }
def GroupMajorsWrongFalsely : Prop := groupMajorsRow.holds Tryd.pinned (OpenSpec.ofChange groupMajorsWrong)

/-- 'siglumlaw19.MatrixParses': WHATEVER THE INPUT: true; the input reads as it did. -/
def matrixParsesSpec : ChangeSpec := { name := "matrixParses", fn := fun _ => fun
  | [d] => { results := [.lit (.bool true)], args := [d] }
  | _ => none }
def matrixParsesRow : OpenClaim := { program := "ytnadacaoehpdnaadoor", sum := "5e3f0854dd04d462e04a6152712dcd9a7cf93ed668e0b20ba687c9818262ea63", func := "siglum/siglumlaw19.MatrixParses", spec := "matrixParses", inPlace := ["internal/abi.NoEscape", "internal/bytealg.CountString", "internal/bytealg.IndexByteString", "internal/bytealg.IndexString"], named := ["unicode/utf8.first", "unicode/utf8.acceptRanges", "internal/bytealg.MaxLen"], apart := false, laid := [("unicode/utf8.acceptRanges", laid_unicode_utf8_acceptRanges), ("unicode/utf8.first", laid_unicode_utf8_first)] }
def MatrixParsesSaid : Prop := matrixParsesRow.holds Tryd.pinned (OpenSpec.ofChange matrixParsesSpec)

/-- ITS FALSE NEIGHBOUR: 'it returns false'. Refute it at one input. -/
def matrixParsesWrong : ChangeSpec := { name := "matrixParses", fn := fun _ => fun
  | [d] => { results := [.lit (.bool false)], args := [d] }
  | _ => none }
def MatrixParsesWrongFalsely : Prop := matrixParsesRow.holds Tryd.pinned (OpenSpec.ofChange matrixParsesWrong)

/-- 'siglumlaw19.MatrixBack': WHATEVER THE INPUT: true; the input reads as it did. -/
def matrixBackSpec : ChangeSpec := { name := "matrixBack", fn := fun _ => fun
  | [d1, d2] => { results := [.lit (.bool true)], args := [d1, d2] }
  | _ => none }
def matrixBackRow : OpenClaim := { program := "ytnadacaoehpdnaadoor", sum := "5e3f0854dd04d462e04a6152712dcd9a7cf93ed668e0b20ba687c9818262ea63", func := "siglum/siglumlaw19.MatrixBack", spec := "matrixBack", inPlace := ["internal/abi.NoEscape", "internal/bytealg.CountString", "internal/bytealg.IndexByteString", "internal/bytealg.IndexString"], named := ["unicode/utf8.first", "unicode/utf8.acceptRanges", "internal/bytealg.MaxLen"], apart := false, laid := [("unicode/utf8.acceptRanges", laid_unicode_utf8_acceptRanges), ("unicode/utf8.first", laid_unicode_utf8_first)] }
def MatrixBackSaid : Prop := matrixBackRow.holds Tryd.pinned (OpenSpec.ofChange matrixBackSpec)

/-- ITS FALSE NEIGHBOUR: 'it returns false'. Refute it at one input. -/
def matrixBackWrong : ChangeSpec := { name := "matrixBack", fn := fun _ => fun
  | [d1, d2] => { results := [.lit (.bool false)], args := [d1, d2] }
  | _ => none }
def MatrixBackWrongFalsely : Prop := matrixBackRow.holds Tryd.pinned (OpenSpec.ofChange matrixBackWrong)

/-- 'siglumlaw19.MatrixAsks': WHATEVER THE INPUT: true; the input reads as it did. -/
def matrixAsksSpec : ChangeSpec := { name := "matrixAsks", fn := fun _ => fun
  | [d] => { results := [.lit (.bool true)], args := [d] }
  | _ => none }
def matrixAsksRow : OpenClaim := { program := "ytnadacaoehpdnaadoor", sum := "5e3f0854dd04d462e04a6152712dcd9a7cf93ed668e0b20ba687c9818262ea63", func := "siglum/siglumlaw19.MatrixAsks", spec := "matrixAsks", inPlace := ["internal/abi.NoEscape", "internal/bytealg.CountString", "internal/bytealg.IndexByteString", "internal/bytealg.IndexString"], named := ["unicode/utf8.first", "unicode/utf8.acceptRanges", "internal/bytealg.MaxLen"], apart := false, laid := [("unicode/utf8.acceptRanges", laid_unicode_utf8_acceptRanges), ("unicode/utf8.first", laid_unicode_utf8_first)] }
def MatrixAsksSaid : Prop := matrixAsksRow.holds Tryd.pinned (OpenSpec.ofChange matrixAsksSpec)

/-- ITS FALSE NEIGHBOUR: 'it returns false'. Refute it at one input. -/
def matrixAsksWrong : ChangeSpec := { name := "matrixAsks", fn := fun _ => fun
  | [d] => { results := [.lit (.bool false)], args := [d] }
  | _ => none }
def MatrixAsksWrongFalsely : Prop := matrixAsksRow.holds Tryd.pinned (OpenSpec.ofChange matrixAsksWrong)

/-- 'siglumlaw19.MatrixTurned': WHATEVER THE INPUT: true; the input reads as it did. -/
def matrixTurnedSpec : ChangeSpec := { name := "matrixTurned", fn := fun _ => fun
  | [d1, d2, d3] => { results := [.lit (.bool true)], args := [d1, d2, d3] }
  | _ => none }
def matrixTurnedRow : OpenClaim := { program := "ytnadacaoehpdnaadoor", sum := "5e3f0854dd04d462e04a6152712dcd9a7cf93ed668e0b20ba687c9818262ea63", func := "siglum/siglumlaw19.MatrixTurned", spec := "matrixTurned", inPlace := ["internal/abi.NoEscape", "internal/bytealg.CountString", "internal/bytealg.IndexByteString", "internal/bytealg.IndexString"], named := ["unicode/utf8.first", "unicode/utf8.acceptRanges", "internal/bytealg.MaxLen"], apart := false, laid := [("unicode/utf8.acceptRanges", laid_unicode_utf8_acceptRanges), ("unicode/utf8.first", laid_unicode_utf8_first)] }
def MatrixTurnedSaid : Prop := matrixTurnedRow.holds Tryd.pinned (OpenSpec.ofChange matrixTurnedSpec)

/-- ITS FALSE NEIGHBOUR: 'it returns false'. Refute it at one input. -/
def matrixTurnedWrong : ChangeSpec := { name := "matrixTurned", fn := fun _ => fun
  | [d1, d2, d3] => { results := [.lit (.bool false)], args := [d1, d2, d3] }
  | _ => none }
def MatrixTurnedWrongFalsely : Prop := matrixTurnedRow.holds Tryd.pinned (OpenSpec.ofChange matrixTurnedWrong)

/-- 'siglumlaw19.MatrixOfs': WHATEVER THE INPUT: true; the input reads as it did. -/
def matrixOfsSpec : ChangeSpec := { name := "matrixOfs", fn := fun _ => fun
  | [d1, d2] => { results := [.lit (.bool true)], args := [d1, d2] }
  | _ => none }
def matrixOfsRow : OpenClaim := { program := "ytnadacaoehpdnaadoor", sum := "5e3f0854dd04d462e04a6152712dcd9a7cf93ed668e0b20ba687c9818262ea63", func := "siglum/siglumlaw19.MatrixOfs", spec := "matrixOfs", inPlace := ["internal/abi.NoEscape", "internal/bytealg.CountString", "internal/bytealg.IndexByteString", "internal/bytealg.IndexString"], unfollowed := true, recurses := true, named := ["unicode/utf8.first", "unicode/utf8.acceptRanges", "internal/bytealg.MaxLen", "strings.asciiSpace", "unicode.White_Space"], apart := false, laid := [("unicode/utf8.acceptRanges", laid_unicode_utf8_acceptRanges), ("unicode.White_Space", laid_unicode_White_Space), ("strings.asciiSpace", laid_strings_asciiSpace), ("unicode/utf8.first", laid_unicode_utf8_first)] }
def MatrixOfsSaid : Prop := matrixOfsRow.holds Tryd.pinned (OpenSpec.ofChange matrixOfsSpec)

/-- ITS FALSE NEIGHBOUR: 'it returns false'. Refute it at one input. -/
def matrixOfsWrong : ChangeSpec := { name := "matrixOfs", fn := fun _ => fun
  | [d1, d2] => { results := [.lit (.bool false)], args := [d1, d2] }
  | _ => none }
def MatrixOfsWrongFalsely : Prop := matrixOfsRow.holds Tryd.pinned (OpenSpec.ofChange matrixOfsWrong)

/-- 'siglumlaw19.MatrixSites': WHATEVER THE INPUT: true; the input reads as it did. -/
def matrixSitesSpec : ChangeSpec := { name := "matrixSites", fn := fun _ => fun
  | [d1, d2] => { results := [.lit (.bool true)], args := [d1, d2] }
  | _ => none }
def matrixSitesRow : OpenClaim := { program := "ytnadacaoehpdnaadoor", sum := "5e3f0854dd04d462e04a6152712dcd9a7cf93ed668e0b20ba687c9818262ea63", func := "siglum/siglumlaw19.MatrixSites", spec := "matrixSites", inPlace := ["internal/abi.NoEscape", "internal/bytealg.CountString", "internal/bytealg.IndexByteString", "internal/bytealg.IndexString"], unfollowed := true, recurses := true, named := ["unicode/utf8.first", "unicode/utf8.acceptRanges", "internal/bytealg.MaxLen", "strings.asciiSpace", "unicode.White_Space"], apart := false, laid := [("unicode/utf8.acceptRanges", laid_unicode_utf8_acceptRanges), ("unicode.White_Space", laid_unicode_White_Space), ("strings.asciiSpace", laid_strings_asciiSpace), ("unicode/utf8.first", laid_unicode_utf8_first)] }
def MatrixSitesSaid : Prop := matrixSitesRow.holds Tryd.pinned (OpenSpec.ofChange matrixSitesSpec)

/-- ITS FALSE NEIGHBOUR: 'it returns false'. Refute it at one input. -/
def matrixSitesWrong : ChangeSpec := { name := "matrixSites", fn := fun _ => fun
  | [d1, d2] => { results := [.lit (.bool false)], args := [d1, d2] }
  | _ => none }
def MatrixSitesWrongFalsely : Prop := matrixSitesRow.holds Tryd.pinned (OpenSpec.ofChange matrixSitesWrong)

/- THE SECOND FORM. 'bulk': how many values and letters a reading holds, each counted each time it is reached (what is shared counts as often as it is met; a slice's spare places count too). A statement '..UptoSaid' is the law's where the arguments, and the package variables that the reading takes, are together of bulk at most 1048576: NARROWER than '..Said'. Prove '..Said' where nothing that the law and all that it calls make is longer than what came in: it says more and counts as full. Else prove '..UptoSaid'. A law counts once. -/
mutual
def uptoBulk {H : Type} : DataW H → Nat
  | .lit (.string bytes) => bytes.length + 1
  | .lit _ => 1
  | .nil => 1
  | .ptr d => uptoBulk d + 1
  | .slice elems spare => uptoBulkAll elems + uptoBulkAll spare + 1
  | .agg parts => uptoBulkAll parts + 1
  | .iface _ d => uptoBulk d + 1
  | .map entries => uptoBulkEntries entries + 1
  | .held _ => 1
def uptoBulkAll {H : Type} : List (DataW H) → Nat
  | [] => 0
  | d :: r => uptoBulk d + uptoBulkAll r
def uptoBulkEntries {H : Type} : List (Lit × DataW H) → Nat
  | [] => 0
  | x :: r => uptoBulkEntry x + uptoBulkEntries r
def uptoBulkEntry {H : Type} : Lit × DataW H → Nat
  | (.string bytes, d) => bytes.length + uptoBulk d + 1
  | (_, d) => uptoBulk d + 1
 end
def uptoSmall : (H : Type) → List (DataW H) → Bool := fun _ ds => decide (uptoBulkAll ds ≤ 1048576)
def OpenSpec.upto (s : _root_.Go.ChangeSpec) : _root_.Go.OpenSpec := { _root_.Go.OpenSpec.ofChange s with cond := some uptoSmall }

/-- 'siglumlaw16.GroupSites', WHERE WHAT IT READS IS OF BULK AT MOST 1048576: true; the input reads as it did. -/
def groupSitesUptoRow : OpenClaim := { program := "ytnadacaoehpdnaadoor", sum := "5e3f0854dd04d462e04a6152712dcd9a7cf93ed668e0b20ba687c9818262ea63", func := "siglum/siglumlaw16.GroupSites", spec := "groupSites", inPlace := ["internal/abi.NoEscape"], unfollowed := true, recurses := true, named := ["unicode/utf8.first", "unicode/utf8.acceptRanges", "strings.asciiSpace", "unicode.White_Space"], apart := false, laid := [("unicode/utf8.acceptRanges", laid_unicode_utf8_acceptRanges), ("unicode.White_Space", laid_unicode_White_Space), ("strings.asciiSpace", laid_strings_asciiSpace), ("unicode/utf8.first", laid_unicode_utf8_first)], narrowed := true }
def GroupSitesUptoSaid : Prop := groupSitesUptoRow.holds Tryd.pinned (OpenSpec.upto groupSitesSpec)

/-- 'siglumlaw16.GroupMore', WHERE WHAT IT READS IS OF BULK AT MOST 1048576: true; the input reads as it did. -/
def groupMoreUptoRow : OpenClaim := { program := "ytnadacaoehpdnaadoor", sum := "5e3f0854dd04d462e04a6152712dcd9a7cf93ed668e0b20ba687c9818262ea63", func := "siglum/siglumlaw16.GroupMore", spec := "groupMore", inPlace := ["internal/abi.NoEscape"], unfollowed := true, recurses := true, named := ["unicode/utf8.first", "unicode/utf8.acceptRanges", "strings.asciiSpace", "unicode.White_Space"], apart := false, laid := [("unicode/utf8.acceptRanges", laid_unicode_utf8_acceptRanges), ("unicode.White_Space", laid_unicode_White_Space), ("strings.asciiSpace", laid_strings_asciiSpace), ("unicode/utf8.first", laid_unicode_utf8_first)], narrowed := true }
def GroupMoreUptoSaid : Prop := groupMoreUptoRow.holds Tryd.pinned (OpenSpec.upto groupMoreSpec)

/-- 'siglumlaw16.GroupParts', WHERE WHAT IT READS IS OF BULK AT MOST 1048576: true; the input reads as it did. -/
def groupPartsUptoRow : OpenClaim := { program := "ytnadacaoehpdnaadoor", sum := "5e3f0854dd04d462e04a6152712dcd9a7cf93ed668e0b20ba687c9818262ea63", func := "siglum/siglumlaw16.GroupParts", spec := "groupParts", inPlace := ["internal/abi.NoEscape"], unfollowed := true, recurses := true, named := ["unicode/utf8.first", "unicode/utf8.acceptRanges", "strings.asciiSpace", "unicode.White_Space"], apart := false, laid := [("unicode/utf8.acceptRanges", laid_unicode_utf8_acceptRanges), ("unicode.White_Space", laid_unicode_White_Space), ("strings.asciiSpace", laid_strings_asciiSpace), ("unicode/utf8.first", laid_unicode_utf8_first)], narrowed := true }
def GroupPartsUptoSaid : Prop := groupPartsUptoRow.holds Tryd.pinned (OpenSpec.upto groupPartsSpec)

/-- 'siglumlaw16.GroupReadings', WHERE WHAT IT READS IS OF BULK AT MOST 1048576: true; the input reads as it did. -/
def groupReadingsUptoRow : OpenClaim := { program := "ytnadacaoehpdnaadoor", sum := "5e3f0854dd04d462e04a6152712dcd9a7cf93ed668e0b20ba687c9818262ea63", func := "siglum/siglumlaw16.GroupReadings", spec := "groupReadings", inPlace := ["internal/abi.NoEscape"], unfollowed := true, recurses := true, named := ["unicode/utf8.first", "unicode/utf8.acceptRanges", "strings.asciiSpace", "unicode.White_Space"], apart := false, laid := [("unicode/utf8.acceptRanges", laid_unicode_utf8_acceptRanges), ("unicode.White_Space", laid_unicode_White_Space), ("strings.asciiSpace", laid_strings_asciiSpace), ("unicode/utf8.first", laid_unicode_utf8_first)], narrowed := true }
def GroupReadingsUptoSaid : Prop := groupReadingsUptoRow.holds Tryd.pinned (OpenSpec.upto groupReadingsSpec)

/-- 'siglumlaw16.GroupMajors', WHERE WHAT IT READS IS OF BULK AT MOST 1048576: true; the input reads as it did. -/
def groupMajorsUptoRow : OpenClaim := { program := "ytnadacaoehpdnaadoor", sum := "5e3f0854dd04d462e04a6152712dcd9a7cf93ed668e0b20ba687c9818262ea63", func := "siglum/siglumlaw16.GroupMajors", spec := "groupMajors", inPlace := ["internal/abi.NoEscape"], unfollowed := true, recurses := true, named := ["unicode/utf8.first", "unicode/utf8.acceptRanges", "strings.asciiSpace", "unicode.White_Space"], apart := false, laid := [("unicode/utf8.acceptRanges", laid_unicode_utf8_acceptRanges), ("unicode.White_Space", laid_unicode_White_Space), ("strings.asciiSpace", laid_strings_asciiSpace), ("unicode/utf8.first", laid_unicode_utf8_first)], narrowed := true }
def GroupMajorsUptoSaid : Prop := groupMajorsUptoRow.holds Tryd.pinned (OpenSpec.upto groupMajorsSpec)

/-- 'siglumlaw19.MatrixParses', WHERE WHAT IT READS IS OF BULK AT MOST 1048576: true; the input reads as it did. -/
def matrixParsesUptoRow : OpenClaim := { program := "ytnadacaoehpdnaadoor", sum := "5e3f0854dd04d462e04a6152712dcd9a7cf93ed668e0b20ba687c9818262ea63", func := "siglum/siglumlaw19.MatrixParses", spec := "matrixParses", inPlace := ["internal/abi.NoEscape", "internal/bytealg.CountString", "internal/bytealg.IndexByteString", "internal/bytealg.IndexString"], named := ["unicode/utf8.first", "unicode/utf8.acceptRanges", "internal/bytealg.MaxLen"], apart := false, laid := [("unicode/utf8.acceptRanges", laid_unicode_utf8_acceptRanges), ("unicode/utf8.first", laid_unicode_utf8_first)], narrowed := true }
def MatrixParsesUptoSaid : Prop := matrixParsesUptoRow.holds Tryd.pinned (OpenSpec.upto matrixParsesSpec)

/-- 'siglumlaw19.MatrixBack', WHERE WHAT IT READS IS OF BULK AT MOST 1048576: true; the input reads as it did. -/
def matrixBackUptoRow : OpenClaim := { program := "ytnadacaoehpdnaadoor", sum := "5e3f0854dd04d462e04a6152712dcd9a7cf93ed668e0b20ba687c9818262ea63", func := "siglum/siglumlaw19.MatrixBack", spec := "matrixBack", inPlace := ["internal/abi.NoEscape", "internal/bytealg.CountString", "internal/bytealg.IndexByteString", "internal/bytealg.IndexString"], named := ["unicode/utf8.first", "unicode/utf8.acceptRanges", "internal/bytealg.MaxLen"], apart := false, laid := [("unicode/utf8.acceptRanges", laid_unicode_utf8_acceptRanges), ("unicode/utf8.first", laid_unicode_utf8_first)], narrowed := true }
def MatrixBackUptoSaid : Prop := matrixBackUptoRow.holds Tryd.pinned (OpenSpec.upto matrixBackSpec)

/-- 'siglumlaw19.MatrixAsks', WHERE WHAT IT READS IS OF BULK AT MOST 1048576: true; the input reads as it did. -/
def matrixAsksUptoRow : OpenClaim := { program := "ytnadacaoehpdnaadoor", sum := "5e3f0854dd04d462e04a6152712dcd9a7cf93ed668e0b20ba687c9818262ea63", func := "siglum/siglumlaw19.MatrixAsks", spec := "matrixAsks", inPlace := ["internal/abi.NoEscape", "internal/bytealg.CountString", "internal/bytealg.IndexByteString", "internal/bytealg.IndexString"], named := ["unicode/utf8.first", "unicode/utf8.acceptRanges", "internal/bytealg.MaxLen"], apart := false, laid := [("unicode/utf8.acceptRanges", laid_unicode_utf8_acceptRanges), ("unicode/utf8.first", laid_unicode_utf8_first)], narrowed := true }
def MatrixAsksUptoSaid : Prop := matrixAsksUptoRow.holds Tryd.pinned (OpenSpec.upto matrixAsksSpec)

/-- 'siglumlaw19.MatrixTurned', WHERE WHAT IT READS IS OF BULK AT MOST 1048576: true; the input reads as it did. -/
def matrixTurnedUptoRow : OpenClaim := { program := "ytnadacaoehpdnaadoor", sum := "5e3f0854dd04d462e04a6152712dcd9a7cf93ed668e0b20ba687c9818262ea63", func := "siglum/siglumlaw19.MatrixTurned", spec := "matrixTurned", inPlace := ["internal/abi.NoEscape", "internal/bytealg.CountString", "internal/bytealg.IndexByteString", "internal/bytealg.IndexString"], named := ["unicode/utf8.first", "unicode/utf8.acceptRanges", "internal/bytealg.MaxLen"], apart := false, laid := [("unicode/utf8.acceptRanges", laid_unicode_utf8_acceptRanges), ("unicode/utf8.first", laid_unicode_utf8_first)], narrowed := true }
def MatrixTurnedUptoSaid : Prop := matrixTurnedUptoRow.holds Tryd.pinned (OpenSpec.upto matrixTurnedSpec)

/-- 'siglumlaw19.MatrixOfs', WHERE WHAT IT READS IS OF BULK AT MOST 1048576: true; the input reads as it did. -/
def matrixOfsUptoRow : OpenClaim := { program := "ytnadacaoehpdnaadoor", sum := "5e3f0854dd04d462e04a6152712dcd9a7cf93ed668e0b20ba687c9818262ea63", func := "siglum/siglumlaw19.MatrixOfs", spec := "matrixOfs", inPlace := ["internal/abi.NoEscape", "internal/bytealg.CountString", "internal/bytealg.IndexByteString", "internal/bytealg.IndexString"], unfollowed := true, recurses := true, named := ["unicode/utf8.first", "unicode/utf8.acceptRanges", "internal/bytealg.MaxLen", "strings.asciiSpace", "unicode.White_Space"], apart := false, laid := [("unicode/utf8.acceptRanges", laid_unicode_utf8_acceptRanges), ("unicode.White_Space", laid_unicode_White_Space), ("strings.asciiSpace", laid_strings_asciiSpace), ("unicode/utf8.first", laid_unicode_utf8_first)], narrowed := true }
def MatrixOfsUptoSaid : Prop := matrixOfsUptoRow.holds Tryd.pinned (OpenSpec.upto matrixOfsSpec)

/-- 'siglumlaw19.MatrixSites', WHERE WHAT IT READS IS OF BULK AT MOST 1048576: true; the input reads as it did. -/
def matrixSitesUptoRow : OpenClaim := { program := "ytnadacaoehpdnaadoor", sum := "5e3f0854dd04d462e04a6152712dcd9a7cf93ed668e0b20ba687c9818262ea63", func := "siglum/siglumlaw19.MatrixSites", spec := "matrixSites", inPlace := ["internal/abi.NoEscape", "internal/bytealg.CountString", "internal/bytealg.IndexByteString", "internal/bytealg.IndexString"], unfollowed := true, recurses := true, named := ["unicode/utf8.first", "unicode/utf8.acceptRanges", "internal/bytealg.MaxLen", "strings.asciiSpace", "unicode.White_Space"], apart := false, laid := [("unicode/utf8.acceptRanges", laid_unicode_utf8_acceptRanges), ("unicode.White_Space", laid_unicode_White_Space), ("strings.asciiSpace", laid_strings_asciiSpace), ("unicode/utf8.first", laid_unicode_utf8_first)], narrowed := true }
def MatrixSitesUptoSaid : Prop := matrixSitesUptoRow.holds Tryd.pinned (OpenSpec.upto matrixSitesSpec)

end Rows
end Go.Proofs.YtnadacaoehpdnaaDoor
