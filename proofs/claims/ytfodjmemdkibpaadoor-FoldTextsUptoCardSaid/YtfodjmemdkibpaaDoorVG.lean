/-
The package variables that this seat's calls may read: what stands in package utf8's tables.
-/
import Derived.Test.YtfodjmemdkibpaaDoorV0
namespace Go.Proofs.YtfodjmemdkibpaaDoor.V
/-- utf8.first: what a first byte says. -/
def firstT (b : Nat) : Int :=
  if b < 128 then 240 else if b < 194 then 241 else if b < 224 then 2 else if b < 225 then 19 else if b < 237 then 3 else if b < 238 then 35 else if b < 240 then 3 else if b < 241 then 52 else if b < 244 then 4 else if b < 245 then 68 else 241
/-- utf8.acceptRanges: from which byte on, up to which byte. -/
def accT (j : Nat) : Int := [128, 191, 160, 191, 128, 159, 144, 191, 128, 143].getD j 0
/-- strings.asciiSpace: the blanks among the first 128. -/
def ascT (j : Nat) : Int := if (9 ≤ j ∧ j ≤ 13) ∨ j = 32 then 1 else 0
def GL : Nat → AV := fun g => match g with
  | 0 => .iadr 256 (fun j => .int .u8 (firstT j))
  | 1 => .iadr 32 (fun j => .int .u8 (accT j))
  | 2 => .iadr 256 (fun j => .int .u8 (ascT j))
  | _ => .u
end Go.Proofs.YtfodjmemdkibpaaDoor.V
