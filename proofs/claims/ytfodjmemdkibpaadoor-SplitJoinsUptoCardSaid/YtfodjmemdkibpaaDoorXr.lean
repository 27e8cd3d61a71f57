/-
What a bound on the arguments says of lists of words.
-/
import Derived.Test.YtfodjmemdkibpaaDoorXp
import Derived.Test.YtfodjmemdkibpaaDoorWr
namespace Go.Proofs.YtfodjmemdkibpaaDoor.V
open Go Go.Proofs Go.RowKit
set_option linter.unusedVariables false
theorem bkW_sum : ∀ l : List Wrd, sumL bkW l = 3 * l.length + (catW l).size
  | [] => by simp [sumL, catW]
  | w :: l => by
    simp only [sumL, bkW_sum l, bkW, catW, ByteArray.size_append, List.length_cons]; omega
theorem fitW_of {s : ByteArray} {l : List Wrd} {n : Nat} (h : s.size + sumL bkW l ≤ n) (hn : n ≤ 100000000) : FitW s l ∧ l.length ≤ 100000000 ∧ ∀ w ∈ l, w.text.size ≤ 134217728 := by
  rw [bkW_sum] at h
  refine ⟨⟨by omega, by omega⟩, by omega, fun w hw => ?_⟩
  have := catW_mem hw
  omega
end Go.Proofs.YtfodjmemdkibpaaDoor.V
