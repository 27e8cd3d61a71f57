/-
The functions that this seat's laws reach, walked: awake.
-/
import Derived.Test.YtjoecebimleoaaaWg
namespace Go.Proofs.Ytjoecebimleoaaa.V
open Go Go.Proofs Go.RowKit
set_option linter.unusedVariables false
set_option linter.unusedSimpArgs false
set_option maxRecDepth 100000
set_option maxHeartbeats 1000000
def strX : ByteArray := ⟨#[120]⟩
def awE : List En := [⟨0, [⟨false, strX, [0]⟩, ⟨true, ⟨#[]⟩, [1]⟩]⟩]
theorem awE_good : Good 2 1 awE := by
  have hne : ¬ strX = ⟨#[]⟩ := fun e => by cases e
  refine ⟨fun e he => ?_, by simp [awE]⟩
  simp only [awE, List.mem_singleton] at he
  subst he
  refine ⟨by decide, by decide, ⟨fun r hr => ?_, by simp [fl], by simp [hne]⟩, by decide, by simp [fl]⟩
  · simp only [List.mem_cons, List.not_mem_nil, or_false] at hr
    rcases hr with rfl | rfl
    · exact ⟨by simp, by simp [hne], by simp, by simp⟩
    · exact ⟨by simp, by simp, by simp, by simp⟩
theorem aw_code : rbCode [strX] [true] awE 2 = 0 := by
  have hne : ¬ strX = ⟨#[]⟩ := fun e => by cases e
  have h1 : rowOk [strX] [true] := fun i hi => by
    have : i = 0 := by simpa using hi
    subst this
    simp [hne]
  have h2 : firstOk [strX] [true] awE := fun e he => by
    simp only [awE, List.mem_singleton] at he
    subst he
    exact ⟨by decide, rfl⟩
  unfold rbCode
  rw [if_neg (by decide), if_neg (fun h => h h1), if_pos ⟨awE_good, h2⟩]
theorem awake_fn : Fn Try.prog 6 [] .tt := by
  refine Fn.of Try.f6 _ Try.func6 rfl (by decide) (by show 0 ≤ _; decide) tbOk 60 rfl fun S w0 => ?_
  refine Run.go ?_; (conv => whnf); repeat' (first | ((with_reducible refine Know.mk fun _ => ?_); conv => whnf) | ((with_reducible refine Need.mk ?_ ?_); (first | omega | (dsimp only; omega) | exact bytes_le (by rfl) (by omega) | exact ⟨rfl, by omega, bytes_le (by rfl) (by omega), by omega⟩ | (refine ⟨?_, ?_⟩ <;> (rw [wrap64 (by omega) (by omega)]; omega))); conv => whnf) | ((with_reducible refine Any.mk fun b hb => ?_); conv => whnf) | ((with_reducible refine AskB.dec (fun hb => ?_) (fun hb => ?_)) <;> conv => whnf) | ((with_reducible refine AskB.ndec (fun hb => ?_) (fun hb => ?_)) <;> conv => whnf) | ((with_reducible refine AskB.mk (fun hb => ?_) (fun hb => ?_)) <;> conv => whnf) | ((with_reducible refine Run.drawX rfl (by decide +kernel) ?_); conv => whnf) | ((with_reducible refine Run.drawW rfl (by kernel_rfl) ?_); conv => whnf))
  refine Run.freeze 7 (by rfl) ?_
  refine Run.freeze 9 (by rfl) ?_
  refine Run.go ?_; (conv => whnf); repeat' (first | ((with_reducible refine Know.mk fun _ => ?_); conv => whnf) | ((with_reducible refine Need.mk ?_ ?_); (first | omega | (dsimp only; omega) | exact bytes_le (by rfl) (by omega) | exact ⟨rfl, by omega, bytes_le (by rfl) (by omega), by omega⟩ | (refine ⟨?_, ?_⟩ <;> (rw [wrap64 (by omega) (by omega)]; omega))); conv => whnf) | ((with_reducible refine Any.mk fun b hb => ?_); conv => whnf) | ((with_reducible refine AskB.dec (fun hb => ?_) (fun hb => ?_)) <;> conv => whnf) | ((with_reducible refine AskB.ndec (fun hb => ?_) (fun hb => ?_)) <;> conv => whnf) | ((with_reducible refine AskB.mk (fun hb => ?_) (fun hb => ?_)) <;> conv => whnf) | ((with_reducible refine Run.drawX rfl (by decide +kernel) ?_); conv => whnf) | ((with_reducible refine Run.drawW rfl (by kernel_rfl) ?_); conv => whnf))
  refine Run.freeze 11 (by rfl) ?_
  refine Run.go ?_; (conv => whnf); repeat' (first | ((with_reducible refine Know.mk fun _ => ?_); conv => whnf) | ((with_reducible refine Need.mk ?_ ?_); (first | omega | (dsimp only; omega) | exact bytes_le (by rfl) (by omega) | exact ⟨rfl, by omega, bytes_le (by rfl) (by omega), by omega⟩ | (refine ⟨?_, ?_⟩ <;> (rw [wrap64 (by omega) (by omega)]; omega))); conv => whnf) | ((with_reducible refine Any.mk fun b hb => ?_); conv => whnf) | ((with_reducible refine AskB.dec (fun hb => ?_) (fun hb => ?_)) <;> conv => whnf) | ((with_reducible refine AskB.ndec (fun hb => ?_) (fun hb => ?_)) <;> conv => whnf) | ((with_reducible refine AskB.mk (fun hb => ?_) (fun hb => ?_)) <;> conv => whnf) | ((with_reducible refine Run.drawX rfl (by decide +kernel) ?_); conv => whnf) | ((with_reducible refine Run.drawW rfl (by kernel_rfl) ?_); conv => whnf))
  refine Run.callFA 1000 (rebuild_fn [strX] [true] awE 2) rfl rfl ⟨?_, ?_, ?_, ?_, trivial⟩ (by rfl) (by rfl) (by rfl) (flat_cons (Ty.M_flat tS_flat) (flat_cons (Ty.M_flat tB_flat) flat_nil)) ?_
  · refine Le.sl fun i j hi hj => ?_
    match i, hi, j, hj with
    | 0, _, 0, _ => exact Le.refl _
  · refine Le.sl fun i j hi hj => ?_
    match i, hi, j, hj with
    | 0, _, 0, _ => exact Le.refl _
  · refine Le.sl fun i j hi hj => ?_
    match i, hi, j, hj with
    | 0, _, 0, _ => exact Le.refl _
    | 0, _, 1, _ =>
      refine Le.sl fun i j hi hj => ?_
      match i, hi, j, hj with
      | 0, _, 0, _ => exact Le.refl _
      | 0, _, 1, _ => exact Le.refl _
      | 0, _, 2, _ =>
        refine Le.sl fun i j hi hj => ?_
        match i, hi, j, hj with
        | 0, _, 0, _ => exact Le.refl _
      | 1, _, 0, _ => exact Le.refl _
      | 1, _, 1, _ => exact Le.refl _
      | 1, _, 2, _ =>
        refine Le.sl fun i j hi hj => ?_
        match i, hi, j, hj with
        | 0, _, 0, _ => exact Le.refl _
  · exact Le.refl _
  have e1 : rbRows [strX] [true] awE 2 = [[strX], [⟨#[]⟩]] := by unfold rbRows; rw [if_pos aw_code]; rfl
  have e2 : rbHas [strX] [true] awE 2 = [[true], [false]] := by unfold rbHas; rw [if_pos aw_code]; rfl
  rw [aw_code, e1, e2]
  (conv => whnf); repeat' (first | ((with_reducible refine Know.mk fun _ => ?_); conv => whnf) | ((with_reducible refine Need.mk ?_ ?_); (first | omega | (dsimp only; omega) | exact bytes_le (by rfl) (by omega) | exact ⟨rfl, by omega, bytes_le (by rfl) (by omega), by omega⟩ | (refine ⟨?_, ?_⟩ <;> (rw [wrap64 (by omega) (by omega)]; omega))); conv => whnf) | ((with_reducible refine Any.mk fun b hb => ?_); conv => whnf) | ((with_reducible refine AskB.dec (fun hb => ?_) (fun hb => ?_)) <;> conv => whnf) | ((with_reducible refine AskB.ndec (fun hb => ?_) (fun hb => ?_)) <;> conv => whnf) | ((with_reducible refine AskB.mk (fun hb => ?_) (fun hb => ?_)) <;> conv => whnf) | ((with_reducible refine Run.drawX rfl (by decide +kernel) ?_); conv => whnf) | ((with_reducible refine Run.drawW rfl (by kernel_rfl) ?_); conv => whnf))
  all_goals first | exact Run.leave (ts := [0]) (.inr ⟨_, rfl⟩) rfl Try.func6 rfl (Le.tt' rfl) | exact absurd rfl hb | (exfalso; exact hb (by decide))
end Go.Proofs.Ytjoecebimleoaaa.V
