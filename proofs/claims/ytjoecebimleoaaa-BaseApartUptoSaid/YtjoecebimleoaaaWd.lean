/-
The functions that this seat's laws reach, walked: the apparatus's check (the program's).
-/
import Derived.Test.YtjoecebimleoaaaWc
namespace Go.Proofs.Ytjoecebimleoaaa.V
open Go Go.Proofs Go.RowKit
set_option maxRecDepth 100000
set_option maxHeartbeats 1000000
set_option linter.unusedVariables false
theorem check_fn (es : List En) (n c : Int) : Fn Try.prog 10 [tEn.L es, .int .i64 n, .int .i64 c] (.int .i64 (chk es n c)) := by
  refine Fn.of Try.f10 _ Try.func10 rfl (by decide) (by show 3 ≤ _; decide) tbOk 49 rfl fun S w0 => ?_
  refine Run.go ?_; (conv => whnf); repeat' (first | ((with_reducible refine Know.mk fun _ => ?_); conv => whnf) | ((with_reducible refine Need.mk ?_ ?_); (first | omega | (dsimp only; omega) | exact bytes_le (by rfl) (by omega) | exact ⟨rfl, by omega, bytes_le (by rfl) (by omega), by omega⟩ | (refine ⟨?_, ?_⟩ <;> (rw [wrap64 (by omega) (by omega)]; omega))); conv => whnf) | ((with_reducible refine Any.mk fun b hb => ?_); conv => whnf) | ((with_reducible refine AskB.dec (fun hb => ?_) (fun hb => ?_)) <;> conv => whnf) | ((with_reducible refine AskB.ndec (fun hb => ?_) (fun hb => ?_)) <;> conv => whnf) | ((with_reducible refine AskB.mk (fun hb => ?_) (fun hb => ?_)) <;> conv => whnf) | ((with_reducible refine Run.drawX rfl (by decide +kernel) ?_); conv => whnf) | ((with_reducible refine Run.drawW rfl (by kernel_rfl) ?_); conv => whnf))
  iterate 4 (· exact Run.leave (ts := [6]) (.inr ⟨_, rfl⟩) rfl Try.func10 rfl (Le.int (by unfold chk; rw [if_pos (by omega)])))
  refine Run.loop [1,2,24,25] (fun i : Nat => [(7, .int .i64 (if i = 0 then -1 else (es.getD (i - 1) tEn.z).col)), (26, .int .i64 (i : Int))]) (fun i => [])
    (fun i => i ≤ es.length ∧ Good n c (es.take i)) (fun i => es.length - i) 0 ⟨Nat.zero_le _, ⟨by simp, by simp⟩⟩ ⟨Le.refl _, Le.refl _, trivial⟩ trivial ?_
  intro i ⟨hi, hG⟩ IH
  refine Run.go ?_; (conv => whnf); repeat' (first | ((with_reducible refine Know.mk fun _ => ?_); conv => whnf) | ((with_reducible refine Need.mk ?_ ?_); (first | omega | (dsimp only; omega) | exact bytes_le (by rfl) (by omega) | exact ⟨rfl, by omega, bytes_le (by rfl) (by omega), by omega⟩ | (refine ⟨?_, ?_⟩ <;> (rw [wrap64 (by omega) (by omega)]; omega))); conv => whnf) | ((with_reducible refine Any.mk fun b hb => ?_); conv => whnf) | ((with_reducible refine AskB.dec (fun hb => ?_) (fun hb => ?_)) <;> conv => whnf) | ((with_reducible refine AskB.ndec (fun hb => ?_) (fun hb => ?_)) <;> conv => whnf) | ((with_reducible refine AskB.mk (fun hb => ?_) (fun hb => ?_)) <;> conv => whnf) | ((with_reducible refine Run.drawX rfl (by decide +kernel) ?_); conv => whnf) | ((with_reducible refine Run.drawW rfl (by kernel_rfl) ?_); conv => whnf))
  · refine Run.leave (ts := [6]) (.inr ⟨_, rfl⟩) rfl Try.func10 rfl (Le.int ?_)
    rw [Int.toNat_natCast] at hb
    unfold chk
    rw [if_neg (by omega), if_neg (fun hG' => ?_)]
    exact absurd (good_up hG' (show i < es.length by omega)) (Int.not_lt.mpr hb)
  · refine Run.leave (ts := [6]) (.inr ⟨_, rfl⟩) rfl Try.func10 rfl (Le.int ?_)
    rw [Int.toNat_natCast] at hb
    unfold chk
    rw [if_neg (by omega), if_neg (fun hG' => ?_)]
    have := (hG'.each _ (getD_mem (z := tEn.z) i (by omega))).2.1
    omega
  · refine Run.callAX (right_fn (es.getD i tEn.z) n (by omega) (by omega)) rfl rfl ⟨?_, ?_, trivial⟩ rfl rfl rfl ?_
    · refine Le.agg fun j hj => ?_
      match j, hj with
      | 0, _ => exact Le.refl _
      | 1, _ => exact Le.refl _
    · exact Le.refl _
    (conv => whnf); repeat' (first | ((with_reducible refine Know.mk fun _ => ?_); conv => whnf) | ((with_reducible refine Need.mk ?_ ?_); (first | omega | (dsimp only; omega) | exact bytes_le (by rfl) (by omega) | exact ⟨rfl, by omega, bytes_le (by rfl) (by omega), by omega⟩ | (refine ⟨?_, ?_⟩ <;> (rw [wrap64 (by omega) (by omega)]; omega))); conv => whnf) | ((with_reducible refine Any.mk fun b hb => ?_); conv => whnf) | ((with_reducible refine AskB.dec (fun hb => ?_) (fun hb => ?_)) <;> conv => whnf) | ((with_reducible refine AskB.ndec (fun hb => ?_) (fun hb => ?_)) <;> conv => whnf) | ((with_reducible refine AskB.mk (fun hb => ?_) (fun hb => ?_)) <;> conv => whnf) | ((with_reducible refine Run.drawX rfl (by decide +kernel) ?_); conv => whnf) | ((with_reducible refine Run.drawW rfl (by kernel_rfl) ?_); conv => whnf))
    · rename_i hlast hcol
      rw [Int.toNat_natCast] at hlast hcol
      refine Run.to _ _ ?_ ?_ (IH (i + 1) (by omega) ⟨by omega, ?_⟩)
      · exact ⟨Le.refl _, Le.refl _, Le.refl _, Le.refl _, Le.int (by rw [Int.toNat_natCast, if_neg (Nat.succ_ne_zero i)]; rfl), Le.wrap64 (by omega) (by omega) (by omega), trivial⟩
      · exact trivial
      · exact good_push hG (by omega) (Int.not_le.mp hlast) (Int.not_le.mp hcol) hb
    · refine Run.leave (ts := [6]) (.inr ⟨_, rfl⟩) rfl Try.func10 rfl (Le.int ?_)
      unfold chk
      rw [if_neg (by omega), if_neg (fun hG' => ?_)]
      exact hb (hG'.each _ (getD_mem (z := tEn.z) i (by omega))).2.2
  · refine Run.leave (ts := [6]) (.inr ⟨_, rfl⟩) rfl Try.func10 rfl (Le.int ?_)
    have : i = es.length := by omega
    subst this
    rw [List.take_length] at hG
    unfold chk
    rw [if_neg (by omega), if_pos hG]

end Go.Proofs.Ytjoecebimleoaaa.V
