/-
The package tables that the rows list, as the walks read them; a world for the witnesses.
-/
import Derived.Test.YtfodjmemdkibpaaDoorCards
import Derived.Test.YtfodjmemdkibpaaDoorTie
import Derived.Test.YtfodjmemdkibpaaDoorWk
import Derived.Lib.LaidIn
import Derived.Lib.LaidU8
import Derived.Deep.DeepHandedRow
import Derived.Deep.DeepWitnessRowRef
import Derived.ProofKit
import Derived.SizedLaws
namespace Go.Proofs.YtfodjmemdkibpaaDoor.V
open Go Go.Proofs Go.RowKit Go.Shelf
set_option linter.unusedVariables false
set_option maxRecDepth 100000
theorem first_same : ∀ c : Fin 256, firstT c.val = (Lib.firstT c.val : Int) := by decide +kernel
theorem acc_same : ∀ i : Fin 16, accT (2 * i.val) = (Lib.accLo i.val : Int) ∧ accT (2 * i.val + 1) = (Lib.accHi i.val : Int) := by decide +kernel
theorem cell_lt {w : World} {g i : Nat} {v : Value} (h : w.cell? ⟨g, i, none⟩ = some v) : g < w.heap.size := by
  rcases Nat.lt_or_ge g w.heap.size with h1 | h1
  · exact h1
  · unfold World.cell? at h
    simp [Array.getElem?_eq_none h1] at h
theorem add0 (g j : Nat) : (⟨g, 0, none⟩ : Addr).add j = ⟨g, j, none⟩ := by
  unfold Addr.add
  by_cases h : j = 0
  · simp [h]
  · simp [h]
theorem globs {W : World} (h : Lib.Utf8Tabs 0 1 W) : GlobOk (fun b => b < W.heap.size) W := by
  intro g
  match g with
  | 0 =>
    have h0 := cell_lt (h.1 0 (by decide))
    refine ⟨⟨0, 0, none⟩, rfl, ⟨h0, h0⟩, fun j hj => ⟨.int .u8 (firstT j), ?_, rfl, rfl⟩⟩
    rw [add0, first_same ⟨j, hj⟩]
    exact h.1 j hj
  | 1 =>
    have h0 := cell_lt (h.2 0 (by decide)).1
    refine ⟨⟨1, 0, none⟩, rfl, ⟨h0, h0⟩, fun j hj => ⟨.int .u8 (accT j), ?_, rfl, rfl⟩⟩
    have := h.2 (j / 2) (by omega)
    have hs := acc_same ⟨j / 2, by omega⟩
    rw [add0]
    rcases (by omega : j = 2 * (j / 2) ∨ j = 2 * (j / 2) + 1) with e | e
    · rw [e, hs.1]
      exact this.1
    · rw [e, hs.2]
      exact this.2
  | g + 2 => trivial
/-- What the rows of this chapter list. -/
def LD : List (String × DataW Unit) := [("unicode/utf8.acceptRanges", Rows.laid_unicode_utf8_acceptRanges), ("unicode/utf8.first", Rows.laid_unicode_utf8_first)]
theorem first_eq : Rows.laid_unicode_utf8_first = Lib.firstData := by kernel_rfl
theorem acc_eq : (Rows.laid_unicode_utf8_acceptRanges : DataW Unit) = Lib.acceptData := by kernel_rfl
theorem tabs {W : World} (h : laidMet Tryd.prog LD W) : Lib.Utf8Tabs 0 1 W := by
  have h3 := Lib.laidMet.reads h (n := "unicode/utf8.first") (d := Lib.firstData) (by rw [← first_eq]; exact .tail _ (.head _))
  have h4 := Lib.laidMet.reads h (n := "unicode/utf8.acceptRanges") (d := Lib.acceptData) (by rw [← acc_eq]; exact .head _)
  have c5 : Tryd.prog.cellsOf 5 = 1 := by kernel_rfl
  have t5 : Tryd.prog.underlying 5 = some (.int .u8) := by kernel_rfl
  have c113 : Tryd.prog.cellsOf 113 = 2 := by kernel_rfl
  refine ⟨fun c hc => ?_, fun i hi => ?_⟩
  · obtain ⟨g, t, cs, fuel, p, hg, hty, hvar, hd⟩ := h3
    obtain rfl := Option.some.inj ((show Tryd.prog.globalNamed "unicode/utf8.first" = some 0 by kernel_rfl).symm.trans hg)
    obtain rfl := Option.some.inj ((show (Tryd.prog.globals[0]?).map (·.type) = some 111 by kernel_rfl).symm.trans hty)
    have hcs := Lib.cells_of_tab (show Tryd.prog.underlying 111 = some (.array 256 5) by kernel_rfl) t5 c5 (show Tryd.prog.cellsOf 111 = 256 by kernel_rfl) hd
    have := World.var?_cell hg hvar c
    rw [this, ← Array.getElem?_toList, hcs]
    simp [Lib.firstTab, hc]
  · obtain ⟨g, t, cs, fuel, p, hg, hty, hvar, hd⟩ := h4
    obtain rfl := Option.some.inj ((show Tryd.prog.globalNamed "unicode/utf8.acceptRanges" = some 1 by kernel_rfl).symm.trans hg)
    obtain rfl := Option.some.inj ((show (Tryd.prog.globals[1]?).map (·.type) = some 114 by kernel_rfl).symm.trans hty)
    obtain ⟨fuel', d, q, hdi, he⟩ := Lib.array_elem (show Tryd.prog.underlying 114 = some (.array 16 113) by kernel_rfl) hd i hi
    simp only [List.getElem?_map, List.getElem?_range hi, Option.map_some, Option.some.injEq] at hdi
    subst hdi
    rw [c113] at he
    have hcs := Lib.ints_of_struct (fs := #[⟨"lo", 5, 0, false, "", "unicode/utf8", 0⟩, ⟨"hi", 5, 1, false, "", "unicode/utf8", 1⟩]) (show Tryd.prog.underlying 113 = some (.struct #[⟨"lo", 5, 0, false, "", "unicode/utf8", 0⟩, ⟨"hi", 5, 1, false, "", "unicode/utf8", 1⟩]) by kernel_rfl) (fun j f hj => by
      match j, hj with
      | 0, hj => simp at hj; subst hj; exact ⟨t5, rfl, c5⟩
      | 1, hj => simp at hj; subst hj; exact ⟨t5, rfl, c5⟩
      | j + 2, hj => simp at hj) (by rw [c113]; rfl) he
    have e0 := congrArg (·[0]?) hcs
    have e1 := congrArg (·[1]?) hcs
    simp only [List.getElem?_take, List.getElem?_drop] at e0 e1
    constructor
    · rw [World.var?_cell hg hvar (2 * i), ← Array.getElem?_toList]
      simpa [Nat.mul_comm] using e0
    · rw [World.var?_cell hg hvar (2 * i + 1), ← Array.getElem?_toList]
      simpa [Nat.mul_comm] using e1
/-- A world for the witnesses: the settled one, the two tables as their initialisers lay them. -/
noncomputable def laidWorld (os : Os) : World :=
  let w0 := World.holding Tryd.prog os ⟨#[], #[], []⟩
  let put (h : Array Obj) (g : Nat) (cs : Array Value) : Array Obj := h.modify g fun
    | .cells _ t frozen => .cells cs t frozen
    | o => o
  let h1 := put w0.heap 0 (Lib.firstTab.map fun z => Value.int .u8 z).toArray
  let h2 := put h1 1 ((List.range 16).flatMap fun i => [Value.int .u8 (Lib.accLo i), Value.int .u8 (Lib.accHi i)]).toArray
  { w0 with heap := h2 }
theorem laid_met (os : Os) (args : Array Value) : laidMet Tryd.prog LD ((laidWorld os).forCall (fun _ _ => 0) ⟨#[], args, []⟩).memory := by
  unfold LD
  rw [first_eq, acc_eq]
  exact (LaidIn.of_run (l := [("unicode/utf8.acceptRanges", Lib.acceptData), ("unicode/utf8.first", Lib.firstData)]) [1, 0] 8 (by kernel_rfl) (by kernel_rfl) (by kernel_rfl) (by kernel_rfl)).met
theorem own : ownKnob Tryd.prog.godebug = none := by kernel_rfl
theorem laidOut : laidOutB Tryd.prog = true := by kernel_rfl
end Go.Proofs.YtfodjmemdkibpaaDoor.V
