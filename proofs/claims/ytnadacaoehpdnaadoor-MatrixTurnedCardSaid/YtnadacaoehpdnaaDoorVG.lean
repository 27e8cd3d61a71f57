/-
The package variables that this seat's calls may read: none.
-/
import Derived.Test.YtnadacaoehpdnaaDoorV0
namespace Go.Proofs.YtnadacaoehpdnaaDoor.V
def GL : Nat → AV := fun _ => .u
end Go.Proofs.YtnadacaoehpdnaaDoor.V
