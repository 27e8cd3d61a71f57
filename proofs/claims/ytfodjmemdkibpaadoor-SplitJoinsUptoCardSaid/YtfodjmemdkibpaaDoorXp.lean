/-
How runes, words read as arguments.
-/
import Derived.Test.YtfodjmemdkibpaaDoorME
import Derived.Test.YtfodjmemdkibpaaDoorVt
import Derived.Test.YtfodjmemdkibpaaDoorRw
namespace Go.Proofs.YtfodjmemdkibpaaDoor.V
open Go Go.Proofs Go.RowKit
set_option maxRecDepth 100000
set_option linter.unusedVariables false
theorem argRn : Arg Tryd.prog 47 (fun l : List Int => tRn.L l) (fun l => sumL (fun _ => 1) l + 1) := Arg.slice (T := tRn) (e := 21) (by kernel_rfl) (by kernel_rfl) (by decide) (Dec.int (by kernel_rfl) (by kernel_rfl))
def bkW (w : Wrd) : Nat := w.text.size + w.tail.size + 3
theorem dWord : Dec Tryd.prog 32 tWrd bkW :=
  Dec.map (fun x : ByteArray × ByteArray × Unit => ⟨x.1, x.2.1⟩) rfl (fun x j hj => match j, hj with | 0, _ => Le.refl _ | 1, _ => Le.refl _) (fun x => by simp only [bkW]; omega)
    (Dec.struct (t := 32) (fs := #[⟨"Text", 9, 0, false, "", "", 0⟩, ⟨"Tail", 9, 1, false, "", "", 16⟩]) (by kernel_rfl) (by kernel_rfl) (DecF.cons rfl (Dec.str (by kernel_rfl) (by kernel_rfl)) (DecF.cons rfl (Dec.str (by kernel_rfl) (by kernel_rfl)) DecF.nil)))
theorem argWs : Arg Tryd.prog 23 (fun l : List Wrd => tWrd.L l) (fun l => sumL bkW l + 1) := Arg.slice (T := tWrd) (e := 32) (by kernel_rfl) (by kernel_rfl) (by decide) dWord
end Go.Proofs.YtfodjmemdkibpaaDoor.V
