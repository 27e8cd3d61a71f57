/-
How a matrix reads as an argument.
-/
import Derived.Test.YtnadacaoehpdnaaDoorMD
import Derived.Test.YtnadacaoehpdnaaDoorVt
import Derived.Test.YtnadacaoehpdnaaDoorWa
namespace Go.Proofs.YtnadacaoehpdnaaDoor.V
open Go Go.Proofs Go.RowKit
set_option maxRecDepth 100000
set_option linter.unusedVariables false
def bkRow (l : List Int) : Nat := sumL (fun _ => 1) l + 1
theorem d3 : Dec Tryd.prog 3 tI (fun _ => 1) := Dec.int (by kernel_rfl) (by kernel_rfl)
theorem d27 : Dec Tryd.prog 27 tRow bkRow := Dec.slice (e := 3) (by kernel_rfl) (by kernel_rfl) (by decide) d3
def bkMx (m : List (List Int)) : Nat := sumL bkRow m + 2
def tMx : Ty (List (List Int)) := ⟨1, fun m _ => tRow.L m, []⟩
theorem d59 : Dec Tryd.prog 59 tMx bkMx :=
  Dec.map (fun x : List (List Int) × Unit => x.1) rfl (fun x j hj => match j, hj with | 0, _ => Le.refl _) (fun x => by simp only [bkMx]; omega)
    (Dec.struct (t := 59) (fs := #[⟨"Rows", 23, 0, false, "", "", 0⟩]) (by kernel_rfl) (by kernel_rfl) (DecF.cons rfl (Dec.slice (e := 27) (t := 23) (by kernel_rfl) (by kernel_rfl) (by decide) d27) DecF.nil))
theorem argMx : Arg Tryd.prog 59 mxA bkMx := Arg.struct (T := tMx) (fs := #[⟨"Rows", 23, 0, false, "", "", 0⟩]) (by kernel_rfl) d59
end Go.Proofs.YtnadacaoehpdnaaDoor.V
