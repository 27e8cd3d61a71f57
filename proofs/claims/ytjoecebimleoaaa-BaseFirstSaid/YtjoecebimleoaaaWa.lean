/-
The functions that this seat's laws reach, walked: Same, Clone.
-/
import Derived.Test.YtjoecebimleoaaaVt
namespace Go.Proofs.Ytjoecebimleoaaa.V
open Go Go.Proofs Go.RowKit
set_option maxRecDepth 100000
set_option maxHeartbeats 400000
theorem same_fn (a b : List ByteArray) (x y : List Bool) : Fn Try.prog 9 [tS.L a, tS.L b, tB.L x, tB.L y] (.bool (decide (a.length = x.length ∧ a = b ∧ x = y))) := by
  refine Fn.of Try.f9 _ Try.func9 rfl (by decide) (by show 4 ≤ _; decide) tbOk 55 rfl fun S w0 => ?_
  refine Run.go ?_; (conv => whnf); repeat' (first | ((with_reducible refine Know.mk fun _ => ?_); conv => whnf) | ((with_reducible refine Need.mk ?_ ?_); (first | omega | (dsimp only; omega) | exact bytes_le (by rfl) (by omega) | exact ⟨rfl, by omega, bytes_le (by rfl) (by omega), by omega⟩ | (refine ⟨?_, ?_⟩ <;> (rw [wrap64 (by omega) (by omega)]; omega))); conv => whnf) | ((with_reducible refine Any.mk fun b hb => ?_); conv => whnf) | ((with_reducible refine AskB.dec (fun hb => ?_) (fun hb => ?_)) <;> conv => whnf) | ((with_reducible refine AskB.ndec (fun hb => ?_) (fun hb => ?_)) <;> conv => whnf) | ((with_reducible refine AskB.mk (fun hb => ?_) (fun hb => ?_)) <;> conv => whnf) | ((with_reducible refine Run.drawX rfl (by decide +kernel) ?_); conv => whnf) | ((with_reducible refine Run.drawW rfl (by kernel_rfl) ?_); conv => whnf))
  · refine Run.loop [0,1,2,3] (fun i : Nat => [(9, .int .i64 (i:Int))]) (fun _ => []) (fun i => i ≤ a.length ∧ ∀ j, j < i → a.getD j .empty = b.getD j .empty ∧ x.getD j false = y.getD j false) (fun i => a.length - i) 0 ⟨Nat.zero_le _, fun _ h => absurd h (Nat.not_lt_zero _)⟩ ⟨Le.refl _, trivial⟩ trivial ?_
    intro i ⟨hi, hinv⟩ IH
    refine Run.go ?_; (conv => whnf); repeat' (first | ((with_reducible refine Know.mk fun _ => ?_); conv => whnf) | ((with_reducible refine Need.mk ?_ ?_); (first | omega | (dsimp only; omega) | exact bytes_le (by rfl) (by omega) | exact ⟨rfl, by omega, bytes_le (by rfl) (by omega), by omega⟩ | (refine ⟨?_, ?_⟩ <;> (rw [wrap64 (by omega) (by omega)]; omega))); conv => whnf) | ((with_reducible refine Any.mk fun b hb => ?_); conv => whnf) | ((with_reducible refine AskB.dec (fun hb => ?_) (fun hb => ?_)) <;> conv => whnf) | ((with_reducible refine AskB.ndec (fun hb => ?_) (fun hb => ?_)) <;> conv => whnf) | ((with_reducible refine AskB.mk (fun hb => ?_) (fun hb => ?_)) <;> conv => whnf) | ((with_reducible refine Run.drawX rfl (by decide +kernel) ?_); conv => whnf) | ((with_reducible refine Run.drawW rfl (by kernel_rfl) ?_); conv => whnf))
    · refine Run.leave (ts := [8]) (.inr ⟨_, rfl⟩) rfl Try.func9 rfl (Le.bool ?_)
      refine (decide_eq_false ?_).symm
      rintro ⟨_, _, h3⟩
      rw [h3] at hb
      simp at hb
    · refine Run.to _ _ ?_ ?_ (IH (i+1) (by omega) ⟨by omega, ?_⟩)
      · exact ⟨Le.refl _, Le.refl _, Le.refl _, Le.refl _, Le.wrap64 (by omega) (by omega) rfl, trivial⟩
      · exact trivial
      · intro j hj
        by_cases hji : j = i
        · subst hji
          rename_i hb1
          exact ⟨hb1, by simpa [tB] using hb⟩
        · exact hinv j (by omega)
    · refine Run.leave (ts := [8]) (.inr ⟨_, rfl⟩) rfl Try.func9 rfl (Le.bool ?_)
      refine (decide_eq_false ?_).symm
      rintro ⟨_, h3, _⟩
      rw [h3] at hb
      simp at hb
    · refine Run.leave (ts := [8]) (.inr ⟨_, rfl⟩) rfl Try.func9 rfl (Le.bool ?_)
      refine (decide_eq_true ?_).symm
      have hia : i = a.length := by omega
      subst hia
      refine ⟨by omega, List.ext_getElem (by omega) fun j h1 h2 => ?_, List.ext_getElem (by omega) fun j h1 h2 => ?_⟩
      · have := (hinv j (by omega)).1
        simpa [List.getD, h1, h2] using this
      · have := (hinv j (by omega)).2
        simpa [List.getD, h1, h2] using this
  · refine Run.leave (ts := [8]) (.inr ⟨_, rfl⟩) rfl Try.func9 rfl (Le.bool (decide_eq_false ?_).symm)
    rintro ⟨h1, rfl, rfl⟩; omega
  · refine Run.leave (ts := [8]) (.inr ⟨_, rfl⟩) rfl Try.func9 rfl (Le.bool (decide_eq_false ?_).symm)
    rintro ⟨h1, rfl, rfl⟩; omega
  · refine Run.leave (ts := [8]) (.inr ⟨_, rfl⟩) rfl Try.func9 rfl (Le.bool (decide_eq_false ?_).symm)
    rintro ⟨h1, rfl, rfl⟩; omega
theorem clone_fn (a : List ByteArray) (ha : a.length ≤ 1048576) : FnF Try.prog 11 [tS.L a] (.row 0) [tS.R 9 a] := by
  refine FnF.of Try.f11 _ Try.func11 rfl (by decide) (by show 1 ≤ _; decide) tbOk 8 rfl fun S w0 => ?_
  refine Run.go ?_; (conv => whnf); repeat' (first | ((with_reducible refine Know.mk fun _ => ?_); conv => whnf) | ((with_reducible refine Need.mk ?_ ?_); (first | omega | (dsimp only; omega) | exact bytes_le (by rfl) (by omega) | exact ⟨rfl, by omega, bytes_le (by rfl) (by omega), by omega⟩ | (refine ⟨?_, ?_⟩ <;> (rw [wrap64 (by omega) (by omega)]; omega))); conv => whnf) | ((with_reducible refine Any.mk fun b hb => ?_); conv => whnf) | ((with_reducible refine AskB.dec (fun hb => ?_) (fun hb => ?_)) <;> conv => whnf) | ((with_reducible refine AskB.ndec (fun hb => ?_) (fun hb => ?_)) <;> conv => whnf) | ((with_reducible refine AskB.mk (fun hb => ?_) (fun hb => ?_)) <;> conv => whnf) | ((with_reducible refine Run.drawX rfl (by decide +kernel) ?_); conv => whnf) | ((with_reducible refine Run.drawW rfl (by kernel_rfl) ?_); conv => whnf))
  · refine Run.holdNil 2 50 9 1 (tS.G a) rfl ?_
    refine Run.leaveF (ts := [2]) [50] (.inr ⟨_, rfl⟩) rfl Try.func11 rfl (by decide) ?_ rfl (Le.refl _)
    have h0 : a.length = 0 := by rename_i hq; exact hq hb
    exact ⟨⟨rfl, rfl, h0.symm, fun i j hi => absurd hi (Nat.not_lt_zero _)⟩, trivial⟩
  · refine Run.leaveF (ts := [2]) [7] (.inr ⟨_, rfl⟩) rfl Try.func11 rfl (by decide) ?_ rfl (Le.refl _)
    exact ⟨Ty.join tS 9 [] a _ _ _ _ rfl rfl (fun i j hi => absurd hi (Nat.not_lt_zero _)) (fun _ _ _ _ => Le.refl _), trivial⟩
theorem cloneB_fn (a : List Bool) (ha : a.length ≤ 1048576) : FnF Try.prog 12 [tB.L a] (.row 0) [tB.R 4 a] := by
  refine FnF.of Try.f12 _ Try.func12 rfl (by decide) (by show 1 ≤ _; decide) tbOk 8 rfl fun S w0 => ?_
  refine Run.go ?_; (conv => whnf); repeat' (first | ((with_reducible refine Know.mk fun _ => ?_); conv => whnf) | ((with_reducible refine Need.mk ?_ ?_); (first | omega | (dsimp only; omega) | exact bytes_le (by rfl) (by omega) | exact ⟨rfl, by omega, bytes_le (by rfl) (by omega), by omega⟩ | (refine ⟨?_, ?_⟩ <;> (rw [wrap64 (by omega) (by omega)]; omega))); conv => whnf) | ((with_reducible refine Any.mk fun b hb => ?_); conv => whnf) | ((with_reducible refine AskB.dec (fun hb => ?_) (fun hb => ?_)) <;> conv => whnf) | ((with_reducible refine AskB.ndec (fun hb => ?_) (fun hb => ?_)) <;> conv => whnf) | ((with_reducible refine AskB.mk (fun hb => ?_) (fun hb => ?_)) <;> conv => whnf) | ((with_reducible refine Run.drawX rfl (by decide +kernel) ?_); conv => whnf) | ((with_reducible refine Run.drawW rfl (by kernel_rfl) ?_); conv => whnf))
  · refine Run.holdNil 2 50 4 1 (tB.G a) rfl ?_
    refine Run.leaveF (ts := [2]) [50] (.inr ⟨_, rfl⟩) rfl Try.func12 rfl (by decide) ?_ rfl (Le.refl _)
    have h0 : a.length = 0 := by rename_i hq; exact hq hb
    exact ⟨⟨rfl, rfl, h0.symm, fun i j hi => absurd hi (Nat.not_lt_zero _)⟩, trivial⟩
  · refine Run.leaveF (ts := [2]) [7] (.inr ⟨_, rfl⟩) rfl Try.func12 rfl (by decide) ?_ rfl (Le.refl _)
    exact ⟨Ty.join tB 4 [] a _ _ _ _ rfl rfl (fun i j hi => absurd hi (Nat.not_lt_zero _)) (fun _ _ _ _ => Le.refl _), trivial⟩
end Go.Proofs.Ytjoecebimleoaaa.V
