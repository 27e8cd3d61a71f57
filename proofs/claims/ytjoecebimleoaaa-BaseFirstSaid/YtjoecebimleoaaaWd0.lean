/-
How the arguments of this seat's laws read.
-/
import Derived.Test.YtjoecebimleoaaaVv
import Derived.Test.YtjoecebimleoaaaWi
namespace Go.Proofs.Ytjoecebimleoaaa.V
open Go Go.Proofs Go.RowKit
set_option maxRecDepth 100000
set_option linter.unusedVariables false
theorem d9 : Dec Try.prog 9 tS (fun x => x.size + 1) := Dec.str (by kernel_rfl) (by kernel_rfl)
theorem d4 : Dec Try.prog 4 tB (fun _ => 1) := Dec.bool (by kernel_rfl) (by kernel_rfl)
theorem d3 : Dec Try.prog 3 tI (fun _ => 1) := Dec.int (by kernel_rfl) (by kernel_rfl)
theorem d40 : Dec Try.prog 40 (tL tI) (fun l => sumL (fun _ => 1) l + 1) := Dec.slice (e := 3) (by kernel_rfl) (by kernel_rfl) (by decide) d3
theorem d22 : Dec Try.prog 22 (tL tS) (fun l => sumL (fun x => x.size + 1) l + 1) := Dec.slice (e := 9) (by kernel_rfl) (by kernel_rfl) (by decide) d9
theorem d23 : Dec Try.prog 23 (tL tB) (fun l => sumL (fun _ => 1) l + 1) := Dec.slice (e := 4) (by kernel_rfl) (by kernel_rfl) (by decide) d4
def bkRd (r : Rd) : Nat := r.text.size + sumL (fun _ => 1) r.wits + 4
theorem d42 : Dec Try.prog 42 tRd bkRd :=
  Dec.map (fun x : Bool × ByteArray × List Int × Unit => ⟨x.1, x.2.1, x.2.2.1⟩) rfl (fun x j hj => match j, hj with | 0, _ => Le.refl _ | 1, _ => Le.refl _ | 2, _ => Le.refl _) (fun x => by simp only [bkRd]; omega)
    (Dec.struct (t := 42) (fs := #[⟨"None", 4, 0, false, "", "", 0⟩, ⟨"Text", 9, 1, false, "", "", 8⟩, ⟨"Wits", 40, 2, false, "", "", 24⟩]) (by kernel_rfl) (by kernel_rfl) (DecF.cons rfl d4 (DecF.cons rfl d9 (DecF.cons rfl d40 DecF.nil))))
def bkEn (e : En) : Nat := sumL bkRd e.rds + 3
theorem d39 : Dec Try.prog 39 tEn bkEn :=
  Dec.map (fun x : Int × List Rd × Unit => ⟨x.1, x.2.1⟩) rfl (fun x j hj => match j, hj with | 0, _ => Le.refl _ | 1, _ => Le.refl _) (fun x => by simp only [bkEn]; omega)
    (Dec.struct (t := 39) (fs := #[⟨"Col", 3, 0, false, "", "", 0⟩, ⟨"Readings", 37, 1, false, "", "", 8⟩]) (by kernel_rfl) (by kernel_rfl) (DecF.cons rfl d3 (DecF.cons rfl (Dec.slice (e := 42) (t := 37) (by kernel_rfl) (by kernel_rfl) (by decide) d42) DecF.nil)))
structure To where
  row : List ByteArray
  has : List Bool
  es : List En
  n : Int
def tToT : Ty To := ⟨4, fun x j => match j with | 0 => tS.L x.row | 1 => tB.L x.has | 2 => tEn.L x.es | _ => .int .i64 x.n, ⟨[], [], [], 0⟩⟩
def bkTo (x : To) : Nat := sumL (fun x => x.size + 1) x.row + sumL (fun _ => 1) x.has + sumL bkEn x.es + 5
theorem d26 : Dec Try.prog 26 tToT bkTo :=
  Dec.map (fun x : List ByteArray × List Bool × List En × Int × Unit => ⟨x.1, x.2.1, x.2.2.1, x.2.2.2.1⟩) rfl (fun x j hj => match j, hj with | 0, _ => Le.refl _ | 1, _ => Le.refl _ | 2, _ => Le.refl _ | 3, _ => Le.refl _) (fun x => by simp only [bkTo]; omega)
    (Dec.struct (t := 26) (fs := #[⟨"Row", 22, 0, false, "", "", 0⟩, ⟨"Has", 23, 1, false, "", "", 24⟩, ⟨"Entries", 24, 2, false, "", "", 48⟩, ⟨"Wits", 3, 3, false, "", "", 72⟩]) (by kernel_rfl) (by kernel_rfl)
      (DecF.cons rfl d22 (DecF.cons rfl d23 (DecF.cons rfl (Dec.slice (e := 39) (t := 24) (by kernel_rfl) (by kernel_rfl) (by decide) d39) (DecF.cons rfl d3 DecF.nil)))))
theorem argTo : Arg Try.prog 26 (fun x : To => tTo x.row x.has x.es x.n) bkTo := Arg.struct (T := tToT) (fs := #[⟨"Row", 22, 0, false, "", "", 0⟩, ⟨"Has", 23, 1, false, "", "", 24⟩, ⟨"Entries", 24, 2, false, "", "", 48⟩, ⟨"Wits", 3, 3, false, "", "", 72⟩]) (by kernel_rfl) d26
end Go.Proofs.Ytjoecebimleoaaa.V
