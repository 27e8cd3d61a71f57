/-
The document's tokens, one by one
-/
import Derived.Test.YtfodjmemdkibpaaDoorWg
namespace Go.Proofs.YtfodjmemdkibpaaDoor.V
open Go Go.Proofs Go.RowKit
set_option linter.unusedVariables false
set_option linter.unusedSimpArgs false
set_option maxRecDepth 100000
set_option maxHeartbeats 2000000
open Go Go.Proofs Go.Proofs.YtfodjmemdkibpaaDoor.V
theorem token49_fn (L : List Cel) (i : Nat) (hi : i < L.length) (hL : L.length ≤ 1048576) : Fn Tryd.prog 49 [tCel.L L, .int .i64 i] (tupL [.int .i64 (tokE L i).1, .int .i64 (tokE L i).2]) := by
  refine Fn.of Tryd.f49 _ Tryd.func49 rfl (by decide) (by show 2 ≤ _; decide) tbOk 81 rfl fun S w0 gl => ?_
  have hw1 : IntKind.i64.wrap ((i : Int) + 1) = ((i + 1 : Nat) : Int) := wrap64 (by omega) (by omega)
  have hw2 : IntKind.i64.wrap ((i : Int) + 2) = ((i + 2 : Nat) : Int) := wrap64 (by omega) (by omega)
  have hg1 : L.getD (IntKind.i64.wrap (↑i + 1)).toNat tCel.z = L.getD (i + 1) cel0 := by rw [hw1]; rfl
  have ret : ∀ (k : Int) (n : Nat) (m : Int), tokE L i = (k, n) → m = n → ArgsLe [.int .i64 k, .int .i64 m] [.int .i64 (tokE L i).1, .int .i64 (tokE L i).2] := fun k n m h e => by rw [h, e]; exact ⟨Le.refl _, Le.refl _, trivial⟩
  refine Run.go ?_; (conv => whnf); repeat' (first | ((with_reducible refine Know.mk fun _ => ?_); conv => whnf) | ((with_reducible refine Need.mk ?_ ?_); (first | omega | (dsimp only; omega) | decide | exact bytes_le (by rfl) (by omega) | exact ⟨rfl, by omega, bytes_le (by rfl) (by omega), by omega⟩ | (refine ⟨?_, ?_⟩ <;> (rw [wrap64 (by omega) (by omega)]; omega))); conv => whnf) | ((with_reducible refine Both.mk ?_ ?_) <;> conv => whnf) | ((with_reducible refine Any.mk fun b hb => ?_); conv => whnf) | ((with_reducible refine AskB.dec (fun hb => ?_) (fun hb => ?_)) <;> conv => whnf) | ((with_reducible refine AskB.ndec (fun hb => ?_) (fun hb => ?_)) <;> conv => whnf) | ((with_reducible refine AskB.mk (fun hb => ?_) (fun hb => ?_)) <;> conv => whnf) | ((with_reducible refine Run.drawX rfl (by decide +kernel) ?_); conv => whnf) | ((with_reducible refine Run.drawT rfl (by decide +kernel) ?_); conv => whnf) | ((with_reducible refine Run.drawW rfl (by decide +kernel) ?_); conv => whnf) | fail)
  refine Run.callBX (cell65_fn (L.getD i cel0)) rfl rfl ⟨Le.refl _, trivial⟩ rfl rfl rfl ?_
  rw [knd_in hi]
  (conv => whnf); repeat' (first | ((with_reducible refine Know.mk fun _ => ?_); conv => whnf) | ((with_reducible refine Need.mk ?_ ?_); (first | omega | (dsimp only; omega) | decide | exact bytes_le (by rfl) (by omega) | exact ⟨rfl, by omega, bytes_le (by rfl) (by omega), by omega⟩ | (refine ⟨?_, ?_⟩ <;> (rw [wrap64 (by omega) (by omega)]; omega))); conv => whnf) | ((with_reducible refine Both.mk ?_ ?_) <;> conv => whnf) | ((with_reducible refine Any.mk fun b hb => ?_); conv => whnf) | ((with_reducible refine AskB.dec (fun hb => ?_) (fun hb => ?_)) <;> conv => whnf) | ((with_reducible refine AskB.ndec (fun hb => ?_) (fun hb => ?_)) <;> conv => whnf) | ((with_reducible refine AskB.mk (fun hb => ?_) (fun hb => ?_)) <;> conv => whnf) | ((with_reducible refine Run.drawX rfl (by decide +kernel) ?_); conv => whnf) | ((with_reducible refine Run.drawT rfl (by decide +kernel) ?_); conv => whnf) | ((with_reducible refine Run.drawW rfl (by decide +kernel) ?_); conv => whnf) | fail)
  refine Run.callBX (wordy66_fn (L.getD i cel0)) rfl rfl ⟨Le.refl _, trivial⟩ rfl rfl rfl ?_
  rw [knd_in hi]
  (conv => whnf); repeat' (first | ((with_reducible refine Know.mk fun _ => ?_); conv => whnf) | ((with_reducible refine Need.mk ?_ ?_); (first | omega | (dsimp only; omega) | decide | exact bytes_le (by rfl) (by omega) | exact ⟨rfl, by omega, bytes_le (by rfl) (by omega), by omega⟩ | (refine ⟨?_, ?_⟩ <;> (rw [wrap64 (by omega) (by omega)]; omega))); conv => whnf) | ((with_reducible refine Both.mk ?_ ?_) <;> conv => whnf) | ((with_reducible refine Any.mk fun b hb => ?_); conv => whnf) | ((with_reducible refine AskB.dec (fun hb => ?_) (fun hb => ?_)) <;> conv => whnf) | ((with_reducible refine AskB.ndec (fun hb => ?_) (fun hb => ?_)) <;> conv => whnf) | ((with_reducible refine AskB.mk (fun hb => ?_) (fun hb => ?_)) <;> conv => whnf) | ((with_reducible refine Run.drawX rfl (by decide +kernel) ?_); conv => whnf) | ((with_reducible refine Run.drawT rfl (by decide +kernel) ?_); conv => whnf) | ((with_reducible refine Run.drawW rfl (by decide +kernel) ?_); conv => whnf) | fail)
  · refine Run.callBX (word67_fn L i (by omega) hL) rfl rfl ⟨Le.refl _, Le.refl _, trivial⟩ rfl rfl rfl ?_
    (conv => whnf); repeat' (first | ((with_reducible refine Know.mk fun _ => ?_); conv => whnf) | ((with_reducible refine Need.mk ?_ ?_); (first | omega | (dsimp only; omega) | decide | exact bytes_le (by rfl) (by omega) | exact ⟨rfl, by omega, bytes_le (by rfl) (by omega), by omega⟩ | (refine ⟨?_, ?_⟩ <;> (rw [wrap64 (by omega) (by omega)]; omega))); conv => whnf) | ((with_reducible refine Both.mk ?_ ?_) <;> conv => whnf) | ((with_reducible refine Any.mk fun b hb => ?_); conv => whnf) | ((with_reducible refine AskB.dec (fun hb => ?_) (fun hb => ?_)) <;> conv => whnf) | ((with_reducible refine AskB.ndec (fun hb => ?_) (fun hb => ?_)) <;> conv => whnf) | ((with_reducible refine AskB.mk (fun hb => ?_) (fun hb => ?_)) <;> conv => whnf) | ((with_reducible refine Run.drawX rfl (by decide +kernel) ?_); conv => whnf) | ((with_reducible refine Run.drawT rfl (by decide +kernel) ?_); conv => whnf) | ((with_reducible refine Run.drawW rfl (by decide +kernel) ?_); conv => whnf) | fail)
    exact Run.leave (ts := [4,5]) (.inr ⟨_, rfl⟩) rfl Tryd.func49 rfl (resT (ret 1 (wordE L i) _ (by unfold tokE; rw [if_pos hb]) rfl))
  all_goals have hnw : ¬ wy L i := nwy (by assumption)
  · have hk5 : knd L i = 5 := hb
    refine Run.loop [0] (fun (j : Nat) => [(7, .int .i64 (j : Int))]) (fun j => []) (fun j => i ≤ j ∧ j ≤ L.length ∧ blankE L j = blankE L i) (fun j => L.length - j) i ⟨Nat.le_refl _, by omega, rfl⟩ ⟨Le.refl _, trivial⟩ trivial ?_
    intro j ⟨hj1, hj2, hj3⟩ IH
    have hw3 : IntKind.i64.wrap ((j : Int) + 1) = ((j + 1 : Nat) : Int) := wrap64 (by omega) (by omega)
    refine Run.go ?_; (conv => whnf); repeat' (first | ((with_reducible refine Know.mk fun _ => ?_); conv => whnf) | ((with_reducible refine Need.mk ?_ ?_); (first | omega | (dsimp only; omega) | decide | exact bytes_le (by rfl) (by omega) | exact ⟨rfl, by omega, bytes_le (by rfl) (by omega), by omega⟩ | (refine ⟨?_, ?_⟩ <;> (rw [wrap64 (by omega) (by omega)]; omega))); conv => whnf) | ((with_reducible refine Both.mk ?_ ?_) <;> conv => whnf) | ((with_reducible refine Any.mk fun b hb => ?_); conv => whnf) | ((with_reducible refine AskB.dec (fun hb => ?_) (fun hb => ?_)) <;> conv => whnf) | ((with_reducible refine AskB.ndec (fun hb => ?_) (fun hb => ?_)) <;> conv => whnf) | ((with_reducible refine AskB.mk (fun hb => ?_) (fun hb => ?_)) <;> conv => whnf) | ((with_reducible refine Run.drawX rfl (by decide +kernel) ?_); conv => whnf) | ((with_reducible refine Run.drawT rfl (by decide +kernel) ?_); conv => whnf) | ((with_reducible refine Run.drawW rfl (by decide +kernel) ?_); conv => whnf) | fail)
    · have hlt : j < L.length := by omega
      refine Run.callBX (cell65_fn (L.getD j cel0)) rfl rfl ⟨Le.refl _, trivial⟩ rfl rfl rfl ?_
      rw [knd_in hlt]
      (conv => whnf); repeat' (first | ((with_reducible refine Know.mk fun _ => ?_); conv => whnf) | ((with_reducible refine Need.mk ?_ ?_); (first | omega | (dsimp only; omega) | decide | exact bytes_le (by rfl) (by omega) | exact ⟨rfl, by omega, bytes_le (by rfl) (by omega), by omega⟩ | (refine ⟨?_, ?_⟩ <;> (rw [wrap64 (by omega) (by omega)]; omega))); conv => whnf) | ((with_reducible refine Both.mk ?_ ?_) <;> conv => whnf) | ((with_reducible refine Any.mk fun b hb => ?_); conv => whnf) | ((with_reducible refine AskB.dec (fun hb => ?_) (fun hb => ?_)) <;> conv => whnf) | ((with_reducible refine AskB.ndec (fun hb => ?_) (fun hb => ?_)) <;> conv => whnf) | ((with_reducible refine AskB.mk (fun hb => ?_) (fun hb => ?_)) <;> conv => whnf) | ((with_reducible refine Run.drawX rfl (by decide +kernel) ?_); conv => whnf) | ((with_reducible refine Run.drawT rfl (by decide +kernel) ?_); conv => whnf) | ((with_reducible refine Run.drawW rfl (by decide +kernel) ?_); conv => whnf) | fail)
      · refine Run.to _ _ ?_ ?_ (IH (j + 1) (by omega) ⟨by omega, by omega, ?_⟩)
        · exact ⟨Le.refl _, Le.int hw3, trivial⟩
        · exact trivial
        · rw [← hj3, blankE.eq_def L j, dif_pos hlt, if_pos hb]
      · refine Run.leave (ts := [4,5]) (.inr ⟨_, rfl⟩) rfl Tryd.func49 rfl (resT (ret 2 j _ ?_ rfl))
        unfold tokE
        rw [if_neg hnw, if_pos hk5, ← hj3, blankE.eq_def L j, dif_pos hlt, if_neg hb]
    · refine Run.leave (ts := [4,5]) (.inr ⟨_, rfl⟩) rfl Tryd.func49 rfl (resT (ret 2 j _ ?_ rfl))
      unfold tokE
      rw [if_neg hnw, if_pos hk5, ← hj3, blankE.eq_def L j, dif_neg (by omega)]
  all_goals have hk5 : ¬ knd L i = 5 := by assumption
  · rw [hg1] at hb
    exact Run.leave (ts := [4,5]) (.inr ⟨_, rfl⟩) rfl Tryd.func49 rfl (resT (ret 3 (i + 2) _ (by unfold tokE; rw [if_neg hnw, if_neg hk5, if_pos (by assumption), if_pos ⟨by assumption, by omega, hb⟩]) hw2))
  · rw [hg1] at hb
    exact Run.leave (ts := [4,5]) (.inr ⟨_, rfl⟩) rfl Tryd.func49 rfl (resT (ret 3 (i + 1) _ (by unfold tokE; rw [if_neg hnw, if_neg hk5, if_pos (by assumption), if_neg (fun h => absurd h.2.2 hb)]) hw1))
  · exact Run.leave (ts := [4,5]) (.inr ⟨_, rfl⟩) rfl Tryd.func49 rfl (resT (ret 3 (i + 1) _ (by unfold tokE; rw [if_neg hnw, if_neg hk5, if_pos (by assumption), if_neg (fun h => absurd h.2.1 (by omega))]) hw1))
  · exact Run.leave (ts := [4,5]) (.inr ⟨_, rfl⟩) rfl Tryd.func49 rfl (resT (ret 3 (i + 1) _ (by unfold tokE; rw [if_neg hnw, if_neg hk5, if_pos (by assumption), if_neg (fun h => absurd h.1 hb)]) hw1))
  all_goals have hk6 : ¬ knd L i = 6 := by assumption
  · exact Run.leave (ts := [4,5]) (.inr ⟨_, rfl⟩) rfl Tryd.func49 rfl (resT (ret 4 (i + 1) _ (by unfold tokE; rw [if_neg hnw, if_neg hk5, if_neg hk6, if_pos (.inl hb)]) hw1))
  · exact Run.leave (ts := [4,5]) (.inr ⟨_, rfl⟩) rfl Tryd.func49 rfl (resT (ret 4 (i + 1) _ (by unfold tokE; rw [if_neg hnw, if_neg hk5, if_neg hk6, if_pos (.inr hb)]) hw1))
  · exact Run.leave (ts := [4,5]) (.inr ⟨_, rfl⟩) rfl Tryd.func49 rfl (resT (ret 5 (i + 1) _ (by unfold tokE; rw [if_neg hnw, if_neg hk5, if_neg hk6, if_neg (fun h => h.elim (by assumption) hb)]) hw1))
end Go.Proofs.YtfodjmemdkibpaaDoor.V
