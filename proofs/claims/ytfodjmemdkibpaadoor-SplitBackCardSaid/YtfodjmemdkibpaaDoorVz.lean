/-
Further words on lists: a part of an element set.
-/
import Derived.Test.YtfodjmemdkibpaaDoorVv
namespace Go.Proofs.YtfodjmemdkibpaaDoor.V
open Go Go.RowKit
set_option linter.unusedSimpArgs false
set_option linter.unusedVariables false
theorem Ty.setAt {α : Type} (T : Ty α) (e : Nat) (l : List α) (i i0 o o0 : Nat) (x : α) (hi : i < l.length) (e1 : i0 = i) (e2 : o0 = o) (cs : List AV) (hc : ∀ (j : Nat) y, cs[j]? = some y → Le y (T.enc x (o + j))) (ho : ∀ j, j < T.sz → j < o ∨ o + cs.length ≤ j → Le (T.enc (l.getD i T.z) j) (T.enc x j)) :
    MOle (.row e T.sz l.length (updRow (T.G l) i0 o0 cs)) (T.R e (l.set i x)) := by
  subst e1; subst e2
  refine ⟨rfl, rfl, by simp, fun i' j hi' hj => ?_⟩
  unfold updRow Ty.G
  by_cases hii : i' = i0
  · subst hii
    have : (l.set i' x).getD i' T.z = x := by simp [List.getD, hi]
    rw [this]
    by_cases hin : o0 ≤ j ∧ j < o0 + cs.length
    · rw [if_pos ⟨rfl, hin⟩]
      have hj2 : j - o0 < cs.length := by omega
      rw [List.getD, List.getElem?_eq_getElem hj2]
      have := hc (j - o0) _ (List.getElem?_eq_getElem hj2)
      rw [show o0 + (j - o0) = j by omega] at this
      exact this
    · rw [if_neg (fun h => hin h.2)]
      exact ho j hj (by omega)
  · rw [if_neg (fun h => hii h.1)]
    have : (l.set i0 x).getD i' T.z = l.getD i' T.z := by simp [List.getD, List.getElem?_set_ne (Ne.symm hii)]
    rw [this]; exact Le.refl _
end Go.Proofs.YtfodjmemdkibpaaDoor.V
