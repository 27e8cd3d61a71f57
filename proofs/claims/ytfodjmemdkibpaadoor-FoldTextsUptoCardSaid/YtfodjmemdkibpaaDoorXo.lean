/-
The package tables that the rows of folding list, as the walks read them; a world for the witnesses.
-/
import Derived.Test.YtfodjmemdkibpaaDoorCards
import Derived.Test.YtfodjmemdkibpaaDoorTie
import Derived.Test.YtfodjmemdkibpaaDoorMD
import Derived.Test.YtfodjmemdkibpaaDoorVt
import Derived.Lib.LaidIn
import Derived.Lib.LaidU8
import Derived.Lay
import Derived.Deep.DeepHandedRow
import Derived.Deep.DeepWitnessRowRef
import Derived.ProofKit
import Derived.SizedLaws
namespace Go.Proofs.YtfodjmemdkibpaaDoor.V
open Go Go.Proofs Go.RowKit Go.Shelf
set_option linter.unusedVariables false
set_option maxRecDepth 100000
theorem first_same : ∀ c : Fin 256, firstT c.val = (Lib.firstT c.val : Int) := by decide +kernel
theorem acc_same : ∀ i : Fin 16, accT (2 * i.val) = (Lib.accLo i.val : Int) ∧ accT (2 * i.val + 1) = (Lib.accHi i.val : Int) := by decide +kernel
theorem cell_lt {w : World} {g i : Nat} {v : Value} (h : w.cell? ⟨g, i, none⟩ = some v) : g < w.heap.size := by
  rcases Nat.lt_or_ge g w.heap.size with h1 | h1
  · exact h1
  · unfold World.cell? at h
    simp [Array.getElem?_eq_none h1] at h
theorem add0 (g j : Nat) : (⟨g, 0, none⟩ : Addr).add j = ⟨g, j, none⟩ := by
  unfold Addr.add
  by_cases h : j = 0
  · simp [h]
  · simp [h]
def AscTab (W : World) : Prop := ∀ c, c < 256 → W.cell? ⟨2, c, none⟩ = some (.int .u8 (ascT c))
theorem globs {W : World} (h2 : Lib.Utf8Tabs 0 1 W ∧ AscTab W) : GlobOk (fun b => b < W.heap.size) W := by
  obtain ⟨h, ha⟩ := h2
  intro g
  match g with
  | 0 =>
    have h0 := cell_lt (h.1 0 (by decide))
    refine ⟨⟨0, 0, none⟩, rfl, ⟨h0, h0⟩, fun j hj => ⟨.int .u8 (firstT j), ?_, rfl, rfl⟩⟩
    rw [add0, first_same ⟨j, hj⟩]
    exact h.1 j hj
  | 1 =>
    have h0 := cell_lt (h.2 0 (by decide)).1
    refine ⟨⟨1, 0, none⟩, rfl, ⟨h0, h0⟩, fun j hj => ⟨.int .u8 (accT j), ?_, rfl, rfl⟩⟩
    have := h.2 (j / 2) (by omega)
    have hs := acc_same ⟨j / 2, by omega⟩
    rw [add0]
    rcases (by omega : j = 2 * (j / 2) ∨ j = 2 * (j / 2) + 1) with e | e
    · rw [e, hs.1]
      exact this.1
    · rw [e, hs.2]
      exact this.2
  | 2 =>
    have h0 := cell_lt (ha 0 (by decide))
    refine ⟨⟨2, 0, none⟩, rfl, ⟨h0, h0⟩, fun j hj => ⟨.int .u8 (ascT j), ?_, rfl, rfl⟩⟩
    rw [add0]
    exact ha j hj
  | g + 3 => trivial
/-- What the rows of folding list. -/
def LD : List (String × DataW Unit) := [("unicode/utf8.acceptRanges", Rows.laid_unicode_utf8_acceptRanges), ("unicode.White_Space", Rows.laid_unicode_White_Space), ("strings.asciiSpace", Rows.laid_strings_asciiSpace), ("unicode/utf8.first", Rows.laid_unicode_utf8_first)]
def ascTab : List Int := (List.range 256).map ascT
theorem first_eq : Rows.laid_unicode_utf8_first = Lib.firstData := by kernel_rfl
theorem acc_eq : (Rows.laid_unicode_utf8_acceptRanges : DataW Unit) = Lib.acceptData := by kernel_rfl
theorem asc_eq : (Rows.laid_strings_asciiSpace : DataW Unit) = Lib.tabData .u8 ascTab := by kernel_rfl
theorem tabs {W : World} (h : laidMet Tryd.prog LD W) : Lib.Utf8Tabs 0 1 W ∧ AscTab W := by
  have h3 := Lib.laidMet.reads h (n := "unicode/utf8.first") (d := Lib.firstData) (by rw [← first_eq]; exact .tail _ (.tail _ (.tail _ (.head _))))
  have h4 := Lib.laidMet.reads h (n := "unicode/utf8.acceptRanges") (d := Lib.acceptData) (by rw [← acc_eq]; exact .head _)
  have h5 := Lib.laidMet.reads h (n := "strings.asciiSpace") (d := Lib.tabData .u8 ascTab) (by rw [← asc_eq]; exact .tail _ (.tail _ (.head _)))
  have c5 : Tryd.prog.cellsOf 5 = 1 := by kernel_rfl
  have t5 : Tryd.prog.underlying 5 = some (.int .u8) := by kernel_rfl
  have c113 : Tryd.prog.cellsOf 113 = 2 := by kernel_rfl
  refine ⟨⟨fun c hc => ?_, fun i hi => ?_⟩, fun c hc => ?_⟩
  · obtain ⟨g, t, cs, fuel, p, hg, hty, hvar, hd⟩ := h3
    obtain rfl := Option.some.inj ((show Tryd.prog.globalNamed "unicode/utf8.first" = some 0 by kernel_rfl).symm.trans hg)
    obtain rfl := Option.some.inj ((show (Tryd.prog.globals[0]?).map (·.type) = some 111 by kernel_rfl).symm.trans hty)
    have hcs := Lib.cells_of_tab (show Tryd.prog.underlying 111 = some (.array 256 5) by kernel_rfl) t5 c5 (show Tryd.prog.cellsOf 111 = 256 by kernel_rfl) hd
    have := World.var?_cell hg hvar c
    rw [this, ← Array.getElem?_toList, hcs]
    simp [Lib.firstTab, hc]
  · obtain ⟨g, t, cs, fuel, p, hg, hty, hvar, hd⟩ := h4
    obtain rfl := Option.some.inj ((show Tryd.prog.globalNamed "unicode/utf8.acceptRanges" = some 1 by kernel_rfl).symm.trans hg)
    obtain rfl := Option.some.inj ((show (Tryd.prog.globals[1]?).map (·.type) = some 114 by kernel_rfl).symm.trans hty)
    obtain ⟨fuel', d, q, hdi, he⟩ := Lib.array_elem (show Tryd.prog.underlying 114 = some (.array 16 113) by kernel_rfl) hd i hi
    simp only [List.getElem?_map, List.getElem?_range hi, Option.map_some, Option.some.injEq] at hdi
    subst hdi
    rw [c113] at he
    have hcs := Lib.ints_of_struct (fs := #[⟨"lo", 5, 0, false, "", "unicode/utf8", 0⟩, ⟨"hi", 5, 1, false, "", "unicode/utf8", 1⟩]) (show Tryd.prog.underlying 113 = some (.struct #[⟨"lo", 5, 0, false, "", "unicode/utf8", 0⟩, ⟨"hi", 5, 1, false, "", "unicode/utf8", 1⟩]) by kernel_rfl) (fun j f hj => by
      match j, hj with
      | 0, hj => simp at hj; subst hj; exact ⟨t5, rfl, c5⟩
      | 1, hj => simp at hj; subst hj; exact ⟨t5, rfl, c5⟩
      | j + 2, hj => simp at hj) (by rw [c113]; rfl) he
    have e0 := congrArg (·[0]?) hcs
    have e1 := congrArg (·[1]?) hcs
    simp only [List.getElem?_take, List.getElem?_drop] at e0 e1
    constructor
    · rw [World.var?_cell hg hvar (2 * i), ← Array.getElem?_toList]
      simpa [Nat.mul_comm] using e0
    · rw [World.var?_cell hg hvar (2 * i + 1), ← Array.getElem?_toList]
      simpa [Nat.mul_comm] using e1
  · obtain ⟨g, t, cs, fuel, p, hg, hty, hvar, hd⟩ := h5
    obtain rfl := Option.some.inj ((show Tryd.prog.globalNamed "strings.asciiSpace" = some 2 by kernel_rfl).symm.trans hg)
    obtain rfl := Option.some.inj ((show (Tryd.prog.globals[2]?).map (·.type) = some 111 by kernel_rfl).symm.trans hty)
    have hcs := Lib.cells_of_tab (show Tryd.prog.underlying 111 = some (.array 256 5) by kernel_rfl) t5 c5 (show Tryd.prog.cellsOf 111 = 256 by kernel_rfl) hd
    have := World.var?_cell hg hvar c
    rw [this, ← Array.getElem?_toList, hcs]
    simp [ascTab, hc]
/-- A world for the witnesses: the settled one, the tables as the rows list them. -/
noncomputable def laidWorld (os : Os) : World := World.laidAll Tryd.prog os LD
theorem laidWorld_os (os : Os) : (laidWorld os).os = os := World.laidAll_os _ _ _
theorem laid_met (os : Os) (args : Array Value) : laidMet Tryd.prog LD ((laidWorld os).forCall (fun _ _ => 0) ⟨#[], args, []⟩).memory :=
  laidMet_laidAll args (by kernel_rfl) (by kernel_rfl)
theorem own : ownKnob Tryd.prog.godebug = none := by kernel_rfl
theorem laidOut : laidOutB Tryd.prog = true := by kernel_rfl
end Go.Proofs.YtfodjmemdkibpaaDoor.V
