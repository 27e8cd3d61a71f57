/-
A rune's kind (the program's).
-/
import Derived.Test.YtfodjmemdkibpaaDoorWb
import Derived.Test.YtfodjmemdkibpaaDoorRk
namespace Go.Proofs.YtfodjmemdkibpaaDoor.V
open Go Go.Proofs Go.RowKit
set_option linter.unusedVariables false
set_option linter.unusedSimpArgs false
set_option maxRecDepth 100000
set_option maxHeartbeats 2000000
open Go Go.Proofs Go.Proofs.YtfodjmemdkibpaaDoor.V
theorem in_fn (r lo hi : Int) : Fn Tryd.prog 72 [.int .i32 r, .int .i32 lo, .int .i32 hi] (.bool (decide (lo ≤ r ∧ r ≤ hi))) := by
  refine Fn.of Tryd.f72 _ Tryd.func72 rfl (by decide) (by show 3 ≤ _; decide) tbOk 15 rfl fun S w0 gl => ?_
  refine Run.go ?_; (conv => whnf); repeat' (first | ((with_reducible refine Know.mk fun _ => ?_); conv => whnf) | ((with_reducible refine Need.mk ?_ ?_); (first | omega | (dsimp only; omega) | decide | exact bytes_le (by rfl) (by omega) | exact ⟨rfl, by omega, bytes_le (by rfl) (by omega), by omega⟩ | (refine ⟨?_, ?_⟩ <;> (rw [wrap64 (by omega) (by omega)]; omega))); conv => whnf) | ((with_reducible refine Both.mk ?_ ?_) <;> conv => whnf) | ((with_reducible refine Any.mk fun b hb => ?_); conv => whnf) | ((with_reducible refine AskB.dec (fun hb => ?_) (fun hb => ?_)) <;> conv => whnf) | ((with_reducible refine AskB.ndec (fun hb => ?_) (fun hb => ?_)) <;> conv => whnf) | ((with_reducible refine AskB.mk (fun hb => ?_) (fun hb => ?_)) <;> conv => whnf) | ((with_reducible refine Run.drawX rfl (by decide +kernel) ?_); conv => whnf) | ((with_reducible refine Run.drawT rfl (by decide +kernel) ?_); conv => whnf) | ((with_reducible refine Run.drawW rfl (by decide +kernel) ?_); conv => whnf) | fail)
  · refine Run.leave (ts := [6]) (.inr ⟨_, rfl⟩) rfl Tryd.func72 rfl (Le.bool ?_)
    have h1 : lo ≤ r := by assumption
    rw [decide_eq_decide]
    exact ⟨fun h => ⟨h1, h⟩, fun h => h.2⟩
  · exact Run.leave (ts := [6]) (.inr ⟨_, rfl⟩) rfl Tryd.func72 rfl (Le.ff.trans (Le.bool (decide_eq_false (fun h => hb h.1)).symm))
theorem of_fn (r : Int) : Fn Tryd.prog 58 [.int .i32 r] (.int .i64 (kOf r)) := by
  refine Fn.of Tryd.f58 _ Tryd.func58 rfl (by decide) (by show 1 ≤ _; decide) tbOk 78 rfl fun S w0 gl => ?_
  refine Run.go ?_; (conv => whnf); repeat' (first | ((with_reducible refine Know.mk fun _ => ?_); conv => whnf) | ((with_reducible refine Need.mk ?_ ?_); (first | omega | (dsimp only; omega) | decide | exact bytes_le (by rfl) (by omega) | exact ⟨rfl, by omega, bytes_le (by rfl) (by omega), by omega⟩ | (refine ⟨?_, ?_⟩ <;> (rw [wrap64 (by omega) (by omega)]; omega))); conv => whnf) | ((with_reducible refine Both.mk ?_ ?_) <;> conv => whnf) | ((with_reducible refine Any.mk fun b hb => ?_); conv => whnf) | ((with_reducible refine AskB.dec (fun hb => ?_) (fun hb => ?_)) <;> conv => whnf) | ((with_reducible refine AskB.ndec (fun hb => ?_) (fun hb => ?_)) <;> conv => whnf) | ((with_reducible refine AskB.mk (fun hb => ?_) (fun hb => ?_)) <;> conv => whnf) | ((with_reducible refine Run.drawX rfl (by decide +kernel) ?_); conv => whnf) | ((with_reducible refine Run.drawT rfl (by decide +kernel) ?_); conv => whnf) | ((with_reducible refine Run.drawW rfl (by decide +kernel) ?_); conv => whnf) | fail)
  repeat' (first | (refine Run.callBX (in_fn _ _ _) rfl rfl ⟨Le.refl _, Le.refl _, Le.refl _, trivial⟩ rfl rfl rfl ?_; (conv => whnf); repeat' (first | ((with_reducible refine Know.mk fun _ => ?_); conv => whnf) | ((with_reducible refine Need.mk ?_ ?_); (first | omega | (dsimp only; omega) | decide | exact bytes_le (by rfl) (by omega) | exact ⟨rfl, by omega, bytes_le (by rfl) (by omega), by omega⟩ | (refine ⟨?_, ?_⟩ <;> (rw [wrap64 (by omega) (by omega)]; omega))); conv => whnf) | ((with_reducible refine Both.mk ?_ ?_) <;> conv => whnf) | ((with_reducible refine Any.mk fun b hb => ?_); conv => whnf) | ((with_reducible refine AskB.dec (fun hb => ?_) (fun hb => ?_)) <;> conv => whnf) | ((with_reducible refine AskB.ndec (fun hb => ?_) (fun hb => ?_)) <;> conv => whnf) | ((with_reducible refine AskB.mk (fun hb => ?_) (fun hb => ?_)) <;> conv => whnf) | ((with_reducible refine Run.drawX rfl (by decide +kernel) ?_); conv => whnf) | ((with_reducible refine Run.drawT rfl (by decide +kernel) ?_); conv => whnf) | ((with_reducible refine Run.drawW rfl (by decide +kernel) ?_); conv => whnf) | fail)))
  all_goals refine Run.leave (ts := [2]) (.inr ⟨_, rfl⟩) rfl Tryd.func58 rfl (Le.int ?_)
  all_goals first
    | exact (kOf_joiner (by unfold isJoiner; omega)).symm
    | exact (kOf_digit (by unfold isDigit; omega)).symm
    | exact (kOf_letter (by unfold isLetter; omega)).symm
    | exact (kOf_accent (by unfold isAccent; omega)).symm
    | exact (kOf_line (by unfold isLine; omega)).symm
    | exact (kOf_blank (by unfold isBlank; omega)).symm
    | exact (kOf_point (by unfold isPoint; omega) (by unfold isJoiner; omega) (by unfold isDigit; omega) (by unfold isLetter; omega)).symm
    | exact (kOf_other (by unfold isJoiner; omega) (by unfold isDigit; omega) (by unfold isLetter; omega) (by unfold isAccent; omega) (by unfold isLine; omega) (by unfold isBlank; omega) (by unfold isPoint; omega)).symm
end Go.Proofs.YtfodjmemdkibpaaDoor.V
