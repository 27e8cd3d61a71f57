/-
  No cell of these rows narrows 'for every input' (looked for: loops, veiled, ifaces, maps, wideKeys, modest, calm, conditions, laid).
  DERIVED. THE GIVEN ROWS OF THIS SEAT. 3 by the template 'for every input the law returns true; each argument reads behind the call as it read before'; 0 by the template 'total and deterministic' (their statements: YtjoecebimleoaaaTotals.lean).
  GIVEN WITH THE SEED: the statements are not yours to turn. If you find one false, say at which input.
  Laid BY PROGRAM, IN A SANDBOX (cutbox-rows.mjs): the forced cells as the released guide's own fill.sh prints them over the translation b294e8876cf6334f… (all of the seat's roots in one cut). By AI agents, Wed Nov 11 2026. No macro, syntax, notation, axiom, sorry.
-/
import Derived.Test.YtjoecebimleoaaaChecked
import GoSem.Claim
import GoSem.ClaimJoined
import GoSem.ClaimMapViews
import Derived.JoinedTies
import Derived.KernelRfl
namespace Go.Proofs.Ytjoecebimleoaaa
/- THE CELL 'sum', in the pinned program and in every row, IS THE sha256 OF THE DUMP (.gsa) THAT YtjoecebimleoaaaProg.lean LOADS. Nothing in Lean hashes anything: it is a label: what it is worth is what the hold of that sum in a sandbox is worth. -/
noncomputable def Try.pinned : Pinned := { name := "ytjoecebimleoaaa", sum := "b294e8876cf6334f4a27de5de430024b08862ede3a1e5c9291e858699bb4d9db", checked := Try.checked }
namespace Rows
def none {H : Type} : Left H := { results := [], args := [] }

/-- 'siglumlaw18.BaseRebuilds': WHATEVER THE INPUT: true; the input reads as it did. -/
def baseRebuildsSpec : ChangeSpec := { name := "baseRebuilds", fn := fun _ => fun
  | [d] => { results := [.lit (.bool true)], args := [d] }
  | _ => none }
def baseRebuildsRow : OpenClaim := { program := "ytjoecebimleoaaa", sum := "b294e8876cf6334f4a27de5de430024b08862ede3a1e5c9291e858699bb4d9db", func := "siglum/siglumlaw18.BaseRebuilds", spec := "baseRebuilds", apart := false }
def BaseRebuildsSaid : Prop := baseRebuildsRow.holds Try.pinned (OpenSpec.ofChange baseRebuildsSpec)

/-- ITS FALSE NEIGHBOUR: 'it returns false'. Refute it at one input. -/
def baseRebuildsWrong : ChangeSpec := { name := "baseRebuilds", fn := fun _ => fun
  | [d] => { results := [.lit (.bool false)], args := [d] }
  | _ => none }
def BaseRebuildsWrongFalsely : Prop := baseRebuildsRow.holds Try.pinned (OpenSpec.ofChange baseRebuildsWrong)

/-- 'siglumlaw18.BaseApart': WHATEVER THE INPUT: true; the input reads as it did. -/
def baseApartSpec : ChangeSpec := { name := "baseApart", fn := fun _ => fun
  | [d] => { results := [.lit (.bool true)], args := [d] }
  | _ => none }
def baseApartRow : OpenClaim := { program := "ytjoecebimleoaaa", sum := "b294e8876cf6334f4a27de5de430024b08862ede3a1e5c9291e858699bb4d9db", func := "siglum/siglumlaw18.BaseApart", spec := "baseApart", apart := false }
def BaseApartSaid : Prop := baseApartRow.holds Try.pinned (OpenSpec.ofChange baseApartSpec)

/-- ITS FALSE NEIGHBOUR: 'it returns false'. Refute it at one input. -/
def baseApartWrong : ChangeSpec := { name := "baseApart", fn := fun _ => fun
  | [d] => { results := [.lit (.bool false)], args := [d] }
  | _ => none }
def BaseApartWrongFalsely : Prop := baseApartRow.holds Try.pinned (OpenSpec.ofChange baseApartWrong)

/-- 'siglumlaw18.BaseFirst': WHATEVER THE INPUT: true; the input reads as it did. -/
def baseFirstSpec : ChangeSpec := { name := "baseFirst", fn := fun _ => fun
  | [d] => { results := [.lit (.bool true)], args := [d] }
  | _ => none }
def baseFirstRow : OpenClaim := { program := "ytjoecebimleoaaa", sum := "b294e8876cf6334f4a27de5de430024b08862ede3a1e5c9291e858699bb4d9db", func := "siglum/siglumlaw18.BaseFirst", spec := "baseFirst", apart := false }
def BaseFirstSaid : Prop := baseFirstRow.holds Try.pinned (OpenSpec.ofChange baseFirstSpec)

/-- ITS FALSE NEIGHBOUR: 'it returns false'. Refute it at one input. -/
def baseFirstWrong : ChangeSpec := { name := "baseFirst", fn := fun _ => fun
  | [d] => { results := [.lit (.bool false)], args := [d] }
  | _ => none }
def BaseFirstWrongFalsely : Prop := baseFirstRow.holds Try.pinned (OpenSpec.ofChange baseFirstWrong)

/- THE SECOND FORM. 'bulk': how many values and letters a reading holds, each counted each time it is reached (what is shared counts as often as it is met; a slice's spare places count too). A statement '..UptoSaid' is the law's where the arguments, and the package variables that the reading takes, are together of bulk at most 1048576: NARROWER than '..Said'. Prove '..Said' where nothing that the law and all that it calls make is longer than what came in: it says more and counts as full. Else prove '..UptoSaid'. A law counts once. -/
mutual
def uptoBulk {H : Type} : DataW H → Nat
  | .lit (.string bytes) => bytes.length + 1
  | .lit _ => 1
  | .nil => 1
  | .ptr d => uptoBulk d + 1
  | .slice elems spare => uptoBulkAll elems + uptoBulkAll spare + 1
  | .agg parts => uptoBulkAll parts + 1
  | .iface _ d => uptoBulk d + 1
  | .map entries => uptoBulkEntries entries + 1
  | .held _ => 1
def uptoBulkAll {H : Type} : List (DataW H) → Nat
  | [] => 0
  | d :: r => uptoBulk d + uptoBulkAll r
def uptoBulkEntries {H : Type} : List (Lit × DataW H) → Nat
  | [] => 0
  | x :: r => uptoBulkEntry x + uptoBulkEntries r
def uptoBulkEntry {H : Type} : Lit × DataW H → Nat
  | (.string bytes, d) => bytes.length + uptoBulk d + 1
  | (_, d) => uptoBulk d + 1
 end
def uptoSmall : (H : Type) → List (DataW H) → Bool := fun _ ds => decide (uptoBulkAll ds ≤ 1048576)
def OpenSpec.upto (s : _root_.Go.ChangeSpec) : _root_.Go.OpenSpec := { _root_.Go.OpenSpec.ofChange s with cond := some uptoSmall }

/-- 'siglumlaw18.BaseRebuilds', WHERE WHAT IT READS IS OF BULK AT MOST 1048576: true; the input reads as it did. -/
def baseRebuildsUptoRow : OpenClaim := { program := "ytjoecebimleoaaa", sum := "b294e8876cf6334f4a27de5de430024b08862ede3a1e5c9291e858699bb4d9db", func := "siglum/siglumlaw18.BaseRebuilds", spec := "baseRebuilds", apart := false, narrowed := true }
def BaseRebuildsUptoSaid : Prop := baseRebuildsUptoRow.holds Try.pinned (OpenSpec.upto baseRebuildsSpec)

/-- 'siglumlaw18.BaseApart', WHERE WHAT IT READS IS OF BULK AT MOST 1048576: true; the input reads as it did. -/
def baseApartUptoRow : OpenClaim := { program := "ytjoecebimleoaaa", sum := "b294e8876cf6334f4a27de5de430024b08862ede3a1e5c9291e858699bb4d9db", func := "siglum/siglumlaw18.BaseApart", spec := "baseApart", apart := false, narrowed := true }
def BaseApartUptoSaid : Prop := baseApartUptoRow.holds Try.pinned (OpenSpec.upto baseApartSpec)

/-- 'siglumlaw18.BaseFirst', WHERE WHAT IT READS IS OF BULK AT MOST 1048576: true; the input reads as it did. -/
def baseFirstUptoRow : OpenClaim := { program := "ytjoecebimleoaaa", sum := "b294e8876cf6334f4a27de5de430024b08862ede3a1e5c9291e858699bb4d9db", func := "siglum/siglumlaw18.BaseFirst", spec := "baseFirst", apart := false, narrowed := true }
def BaseFirstUptoSaid : Prop := baseFirstUptoRow.holds Try.pinned (OpenSpec.upto baseFirstSpec)

end Rows
end Go.Proofs.Ytjoecebimleoaaa
