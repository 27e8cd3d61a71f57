/-
Parts of folding walked (U).
-/
import Derived.Test.YtfodjmemdkibpaaDoorMD
import Derived.Test.YtfodjmemdkibpaaDoorVt
namespace Go.Proofs.YtfodjmemdkibpaaDoor.V
open Go Go.Proofs Go.RowKit
set_option linter.unusedVariables false
set_option linter.unusedSimpArgs false
set_option maxRecDepth 100000
set_option maxHeartbeats 2000000
open Go Go.Proofs Go.Proofs.YtfodjmemdkibpaaDoor.V
/-- What C0 to FF are without their marks: the program's text, where its runes stand, which they are. -/
def latB : ByteArray := ⟨#[65, 65, 65, 65, 65, 65, 195, 134, 67, 69, 69, 69, 69, 73, 73, 73, 73, 195, 144, 78, 79, 79, 79, 79, 79, 195, 151, 79, 85, 85, 85, 85, 89, 195, 158, 195, 159, 97, 97, 97, 97, 97, 97, 195, 166, 99, 101, 101, 101, 101, 105, 105, 105, 105, 195, 176, 110, 111, 111, 111, 111, 111, 195, 183, 111, 117, 117, 117, 117, 121, 195, 190, 121]⟩
def latP : List Nat := [0, 1, 2, 3, 4, 5, 6, 8, 9, 10, 11, 12, 13, 14, 15, 16, 17, 19, 20, 21, 22, 23, 24, 25, 27, 28, 29, 30, 31, 32, 33, 35, 37, 38, 39, 40, 41, 42, 43, 45, 46, 47, 48, 49, 50, 51, 52, 53, 54, 56, 57, 58, 59, 60, 61, 62, 64, 65, 66, 67, 68, 69, 70, 72, 73]
def latR : List Nat := [65, 65, 65, 65, 65, 65, 198, 67, 69, 69, 69, 69, 73, 73, 73, 73, 208, 78, 79, 79, 79, 79, 79, 215, 79, 85, 85, 85, 85, 89, 222, 223, 97, 97, 97, 97, 97, 97, 230, 99, 101, 101, 101, 101, 105, 105, 105, 105, 240, 110, 111, 111, 111, 111, 111, 247, 111, 117, 117, 117, 117, 121, 254, 121]
theorem lat_dec : ∀ k : Fin 64, Utf8.decode latB (latP.getD k.val 0) = (latR.getD k.val 0, latP.getD (k.val + 1) 0 - latP.getD k.val 0) ∧ latP.getD k.val 0 < latP.getD (k.val + 1) 0 ∧ latP.getD k.val 0 < 73 := by decide +kernel
/-- A rune without its mark. -/
def bareV (r : Int) : Int := if r < 192 ∨ 255 < r then r else latR.getD (r - 192).toNat 0
theorem unmarked54_fn (r : Int) : Fn Tryd.prog 54 [.int .i32 r] (.int .i32 (bareV r)) := by
  refine Fn.of Tryd.f54 _ Tryd.func54 rfl (by decide) (by show 1 ≤ _; decide) tbOk 24 rfl fun S w0 gl => ?_
  refine Run.go ?_; (conv => whnf); repeat' (first | ((with_reducible refine Know.mk fun _ => ?_); conv => whnf) | ((with_reducible refine Need.mk ?_ ?_); (first | omega | (dsimp only; omega) | decide | exact bytes_le (by rfl) (by omega) | exact ⟨rfl, by omega, bytes_le (by rfl) (by omega), by omega⟩ | (refine ⟨?_, ?_⟩ <;> (rw [wrap64 (by omega) (by omega)]; omega))); conv => whnf) | ((with_reducible refine Both.mk ?_ ?_) <;> conv => whnf) | ((with_reducible refine Any.mk fun b hb => ?_); conv => whnf) | ((with_reducible refine AskB.dec (fun hb => ?_) (fun hb => ?_)) <;> conv => whnf) | ((with_reducible refine AskB.ndec (fun hb => ?_) (fun hb => ?_)) <;> conv => whnf) | ((with_reducible refine AskB.mk (fun hb => ?_) (fun hb => ?_)) <;> conv => whnf) | ((with_reducible refine Run.drawX rfl (by decide +kernel) ?_); conv => whnf) | ((with_reducible refine Run.drawT rfl (by decide +kernel) ?_); conv => whnf) | ((with_reducible refine Run.drawW rfl (by decide +kernel) ?_); conv => whnf) | fail)
  · exact Run.leave (ts := [2]) (.inr ⟨_, rfl⟩) rfl Tryd.func54 rfl (Le.int (by unfold bareV; rw [if_pos (.inl hb)]))
  · exact Run.leave (ts := [2]) (.inr ⟨_, rfl⟩) rfl Tryd.func54 rfl (Le.int (by unfold bareV; rw [if_pos (.inr hb)]))
  rename_i hb1
  refine Run.loop [0, 13] (fun (k : Nat) => [(3, .int .i32 (192 + (k : Int)))]) (fun k => [(13, .iter latB (latP.getD k 0))]) (fun k => k ≤ 63 ∧ 192 + (k : Int) ≤ r) (fun k => 64 - k) 0 ⟨by omega, by omega⟩ ⟨Le.refl _, trivial⟩ ⟨MOle.refl _, trivial⟩ ?_
  intro k ⟨hk, hkr⟩ IH
  obtain ⟨hd, hlt, h73⟩ := lat_dec ⟨k, by omega⟩
  simp only at hd hlt h73
  show Run _ _ (lst (_ ++ [(3, .int .i32 (192 + (k : Int)))])) (lstH [(13, .iter latB (latP.getD k 0))])
  refine Run.go ?_; (conv => whnf); repeat' (first | ((with_reducible refine Know.mk fun _ => ?_); conv => whnf) | ((with_reducible refine Need.mk ?_ ?_); (first | omega | (dsimp only; omega) | decide | exact bytes_le (by rfl) (by omega) | exact ⟨rfl, by omega, bytes_le (by rfl) (by omega), by omega⟩ | (refine ⟨?_, ?_⟩ <;> (rw [wrap64 (by omega) (by omega)]; omega))); conv => whnf) | ((with_reducible refine Both.mk ?_ ?_) <;> conv => whnf) | ((with_reducible refine Any.mk fun b hb => ?_); conv => whnf) | ((with_reducible refine AskB.dec (fun hb => ?_) (fun hb => ?_)) <;> conv => whnf) | ((with_reducible refine AskB.ndec (fun hb => ?_) (fun hb => ?_)) <;> conv => whnf) | ((with_reducible refine AskB.mk (fun hb => ?_) (fun hb => ?_)) <;> conv => whnf) | ((with_reducible refine Run.drawX rfl (by decide +kernel) ?_); conv => whnf) | ((with_reducible refine Run.drawT rfl (by decide +kernel) ?_); conv => whnf) | ((with_reducible refine Run.drawW rfl (by decide +kernel) ?_); conv => whnf) | fail)
  · refine Run.leave (ts := [2]) (.inr ⟨_, rfl⟩) rfl Tryd.func54 rfl (Le.int ?_)
    unfold bareV
    rw [if_neg (by omega), hd, show (r - 192).toNat = k by omega]
  · refine Run.to _ _ ?_ ?_ (IH (k + 1) (by omega) ⟨by omega, by omega⟩)
    · exact ⟨Le.refl _, Le.refl _, Le.int (by rw [wrap32 (by omega) (by omega)]; omega), trivial⟩
    · refine ⟨?_, trivial⟩
      rw [hd, show latP.getD k 0 + (latP.getD (k + 1) 0 - latP.getD k 0) = latP.getD (k + 1) 0 by omega]
      exact MOle.refl _
  · exact absurd h73 hb
end Go.Proofs.YtfodjmemdkibpaaDoor.V
