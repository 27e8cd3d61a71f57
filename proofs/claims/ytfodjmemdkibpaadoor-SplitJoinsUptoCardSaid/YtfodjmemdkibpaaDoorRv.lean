/-
The words of the text that a law's own proof of life asks for.
-/
import Derived.Test.YtfodjmemdkibpaaDoorWj
namespace Go.Proofs.YtfodjmemdkibpaaDoor.V
open Go
set_option linter.unusedVariables false
set_option linter.unusedSimpArgs false
set_option maxRecDepth 100000
deriving instance DecidableEq for Tok
def awT : ByteArray := ⟨#[45, 97, 32, 98]⟩
def awL : List Cel := [⟨0, 1, 45, false, 0⟩, ⟨1, 1, 97, false, 0⟩, ⟨2, 1, 32, false, 0⟩, ⟨3, 1, 98, false, 0⟩]
theorem awCells : cells awT 0 = awL := by
  have c : ∀ p r, Utf8.decode awT p = (r, 1) → r ≠ 65533 → p < 4 → cells awT p = ⟨p, 1, r, false, 0⟩ :: cells awT (p + 1) := fun p r h hr hp => by
    rw [cells_in (show p < awT.size from hp), cellAt_good awT p r 1 h (fun e => hr e.1), h]
  rw [c 0 45 (by decide +kernel) (by decide) (by decide), c 1 97 (by decide +kernel) (by decide) (by decide), c 2 32 (by decide +kernel) (by decide) (by decide), c 3 98 (by decide +kernel) (by decide) (by decide), cells_out (by decide)]
  rfl
theorem awW1 : wordE awL 1 = 2 := by
  rw [wordE, dif_pos (by decide), if_pos (by decide), wordE, dif_pos (by decide), if_neg (by decide), if_neg (by decide)]
theorem awW3 : wordE awL 3 = 4 := by
  rw [wordE, dif_pos (by decide), if_pos (by decide), wordE, dif_neg (by decide)]
theorem awB2 : blankE awL 2 = 3 := by
  rw [blankE, dif_pos (by decide), if_pos (by decide), blankE, dif_pos (by decide), if_neg (by decide)]
theorem awToks : toks awT 0 awL 0 = [⟨4, 0, ⟨#[45]⟩⟩, ⟨1, 1, ⟨#[97]⟩⟩, ⟨2, 2, ⟨#[32]⟩⟩, ⟨1, 3, ⟨#[98]⟩⟩] := by
  have t0 : tokE awL 0 = (4, 1) := by unfold tokE; rw [if_neg (by decide), if_neg (by decide), if_neg (by decide), if_pos (by decide)]
  have t1 : tokE awL 1 = (1, 2) := by unfold tokE; rw [if_pos (by decide), awW1]
  have t2 : tokE awL 2 = (2, 3) := by unfold tokE; rw [if_neg (by decide), if_pos (by decide), awB2]
  have t3 : tokE awL 3 = (1, 4) := by unfold tokE; rw [if_pos (by decide), awW3]
  rw [toks_in (by decide), t0, toks_in (by decide), t1, toks_in (by decide), t2, toks_in (by decide), t3, toks_out (by decide)]
  decide +kernel
theorem awWords : wordsOf awT = ((⟨#[45]⟩, [⟨⟨#[97]⟩, ⟨#[32]⟩⟩, ⟨⟨#[98]⟩, .empty⟩]), 0) := by
  have ht : toksOf awT = [⟨4, 0, ⟨#[45]⟩⟩, ⟨1, 1, ⟨#[97]⟩⟩, ⟨2, 2, ⟨#[32]⟩⟩, ⟨1, 3, ⟨#[98]⟩⟩] := by
    unfold toksOf
    rw [if_neg (by decide), awCells, awToks]
  have hs : specW (toksOf awT) = (⟨#[45]⟩, [⟨⟨#[97]⟩, ⟨#[32]⟩⟩, ⟨⟨#[98]⟩, .empty⟩]) := by
    rw [ht]
    decide +kernel
  rw [wordsOf_fit (by decide) (by rw [hs]; decide), hs]
end Go.Proofs.YtfodjmemdkibpaaDoor.V
