/-
The document's cells: how many bytes fit
-/
import Derived.Test.YtfodjmemdkibpaaDoorWc
import Derived.Test.YtfodjmemdkibpaaDoorRe
namespace Go.Proofs.YtfodjmemdkibpaaDoor.V
open Go Go.Proofs Go.RowKit
set_option linter.unusedVariables false
set_option linter.unusedSimpArgs false
set_option maxRecDepth 100000
set_option maxHeartbeats 2000000
open Go Go.Proofs Go.Proofs.YtfodjmemdkibpaaDoor.V
theorem between_fn (b lo hi : Int) : Fn Tryd.prog 75 [.int .u8 b, .int .u8 lo, .int .u8 hi] (.bool (decide (lo ≤ b ∧ b ≤ hi))) := by
  refine Fn.of Tryd.f75 _ Tryd.func75 rfl (by decide) (by show 3 ≤ _; decide) tbOk 15 rfl fun S w0 gl => ?_
  refine Run.go ?_; (conv => whnf); repeat' (first | ((with_reducible refine Know.mk fun _ => ?_); conv => whnf) | ((with_reducible refine Need.mk ?_ ?_); (first | omega | (dsimp only; omega) | decide | exact bytes_le (by rfl) (by omega) | exact ⟨rfl, by omega, bytes_le (by rfl) (by omega), by omega⟩ | (refine ⟨?_, ?_⟩ <;> (rw [wrap64 (by omega) (by omega)]; omega))); conv => whnf) | ((with_reducible refine Both.mk ?_ ?_) <;> conv => whnf) | ((with_reducible refine Any.mk fun b hb => ?_); conv => whnf) | ((with_reducible refine AskB.dec (fun hb => ?_) (fun hb => ?_)) <;> conv => whnf) | ((with_reducible refine AskB.ndec (fun hb => ?_) (fun hb => ?_)) <;> conv => whnf) | ((with_reducible refine AskB.mk (fun hb => ?_) (fun hb => ?_)) <;> conv => whnf) | ((with_reducible refine Run.drawX rfl (by decide +kernel) ?_); conv => whnf) | ((with_reducible refine Run.drawT rfl (by decide +kernel) ?_); conv => whnf) | ((with_reducible refine Run.drawW rfl (by decide +kernel) ?_); conv => whnf) | fail)
  · refine Run.leave (ts := [6]) (.inr ⟨_, rfl⟩) rfl Tryd.func75 rfl (Le.bool ?_)
    have h1 : lo ≤ b := by assumption
    rw [decide_eq_decide]
    exact ⟨fun h => ⟨h1, h⟩, fun h => h.2⟩
  · exact Run.leave (ts := [6]) (.inr ⟨_, rfl⟩) rfl Tryd.func75 rfl (Le.ff.trans (Le.bool (decide_eq_false (fun h => hb h.1)).symm))
theorem wants_fn (b : Int) : Fn Tryd.prog 69 [.int .u8 b] (.int .i64 (wantsV b : Nat)) := by
  refine Fn.of Tryd.f69 _ Tryd.func69 rfl (by decide) (by show 1 ≤ _; decide) tbOk 11 rfl fun S w0 gl => ?_
  refine Run.go ?_; (conv => whnf); repeat' (first | ((with_reducible refine Know.mk fun _ => ?_); conv => whnf) | ((with_reducible refine Need.mk ?_ ?_); (first | omega | (dsimp only; omega) | decide | exact bytes_le (by rfl) (by omega) | exact ⟨rfl, by omega, bytes_le (by rfl) (by omega), by omega⟩ | (refine ⟨?_, ?_⟩ <;> (rw [wrap64 (by omega) (by omega)]; omega))); conv => whnf) | ((with_reducible refine Both.mk ?_ ?_) <;> conv => whnf) | ((with_reducible refine Any.mk fun b hb => ?_); conv => whnf) | ((with_reducible refine AskB.dec (fun hb => ?_) (fun hb => ?_)) <;> conv => whnf) | ((with_reducible refine AskB.ndec (fun hb => ?_) (fun hb => ?_)) <;> conv => whnf) | ((with_reducible refine AskB.mk (fun hb => ?_) (fun hb => ?_)) <;> conv => whnf) | ((with_reducible refine Run.drawX rfl (by decide +kernel) ?_); conv => whnf) | ((with_reducible refine Run.drawT rfl (by decide +kernel) ?_); conv => whnf) | ((with_reducible refine Run.drawW rfl (by decide +kernel) ?_); conv => whnf) | fail)
  · exact Run.leave (ts := [2]) (.inr ⟨_, rfl⟩) rfl Tryd.func69 rfl (Le.int (by unfold wantsV; rw [if_pos (by assumption)]; rfl))
  repeat' (first | (refine Run.callBX (between_fn _ _ _) rfl rfl ⟨Le.refl _, Le.refl _, Le.refl _, trivial⟩ rfl rfl rfl ?_; (conv => whnf); repeat' (first | ((with_reducible refine Know.mk fun _ => ?_); conv => whnf) | ((with_reducible refine Need.mk ?_ ?_); (first | omega | (dsimp only; omega) | decide | exact bytes_le (by rfl) (by omega) | exact ⟨rfl, by omega, bytes_le (by rfl) (by omega), by omega⟩ | (refine ⟨?_, ?_⟩ <;> (rw [wrap64 (by omega) (by omega)]; omega))); conv => whnf) | ((with_reducible refine Both.mk ?_ ?_) <;> conv => whnf) | ((with_reducible refine Any.mk fun b hb => ?_); conv => whnf) | ((with_reducible refine AskB.dec (fun hb => ?_) (fun hb => ?_)) <;> conv => whnf) | ((with_reducible refine AskB.ndec (fun hb => ?_) (fun hb => ?_)) <;> conv => whnf) | ((with_reducible refine AskB.mk (fun hb => ?_) (fun hb => ?_)) <;> conv => whnf) | ((with_reducible refine Run.drawX rfl (by decide +kernel) ?_); conv => whnf) | ((with_reducible refine Run.drawT rfl (by decide +kernel) ?_); conv => whnf) | ((with_reducible refine Run.drawW rfl (by decide +kernel) ?_); conv => whnf) | fail)))
  all_goals refine Run.leave (ts := [2]) (.inr ⟨_, rfl⟩) rfl Tryd.func69 rfl (Le.int ?_)
  all_goals unfold wantsV
  all_goals repeat' split
  all_goals first | rfl | (exfalso; omega)
theorem second_fn (a b : Int) : Fn Tryd.prog 76 [.int .u8 a, .int .u8 b] (.bool (secondV a b)) := by
  refine Fn.of Tryd.f76 _ Tryd.func76 rfl (by decide) (by show 2 ≤ _; decide) tbOk 24 rfl fun S w0 gl => ?_
  refine Run.go ?_; (conv => whnf); repeat' (first | ((with_reducible refine Know.mk fun _ => ?_); conv => whnf) | ((with_reducible refine Need.mk ?_ ?_); (first | omega | (dsimp only; omega) | decide | exact bytes_le (by rfl) (by omega) | exact ⟨rfl, by omega, bytes_le (by rfl) (by omega), by omega⟩ | (refine ⟨?_, ?_⟩ <;> (rw [wrap64 (by omega) (by omega)]; omega))); conv => whnf) | ((with_reducible refine Both.mk ?_ ?_) <;> conv => whnf) | ((with_reducible refine Any.mk fun b hb => ?_); conv => whnf) | ((with_reducible refine AskB.dec (fun hb => ?_) (fun hb => ?_)) <;> conv => whnf) | ((with_reducible refine AskB.ndec (fun hb => ?_) (fun hb => ?_)) <;> conv => whnf) | ((with_reducible refine AskB.mk (fun hb => ?_) (fun hb => ?_)) <;> conv => whnf) | ((with_reducible refine Run.drawX rfl (by decide +kernel) ?_); conv => whnf) | ((with_reducible refine Run.drawT rfl (by decide +kernel) ?_); conv => whnf) | ((with_reducible refine Run.drawW rfl (by decide +kernel) ?_); conv => whnf) | fail)
  all_goals (refine Run.callBX (between_fn _ _ _) rfl rfl ⟨Le.refl _, Le.refl _, Le.refl _, trivial⟩ rfl rfl rfl ?_; (conv => whnf); repeat' (first | ((with_reducible refine Know.mk fun _ => ?_); conv => whnf) | ((with_reducible refine Need.mk ?_ ?_); (first | omega | (dsimp only; omega) | decide | exact bytes_le (by rfl) (by omega) | exact ⟨rfl, by omega, bytes_le (by rfl) (by omega), by omega⟩ | (refine ⟨?_, ?_⟩ <;> (rw [wrap64 (by omega) (by omega)]; omega))); conv => whnf) | ((with_reducible refine Both.mk ?_ ?_) <;> conv => whnf) | ((with_reducible refine Any.mk fun b hb => ?_); conv => whnf) | ((with_reducible refine AskB.dec (fun hb => ?_) (fun hb => ?_)) <;> conv => whnf) | ((with_reducible refine AskB.ndec (fun hb => ?_) (fun hb => ?_)) <;> conv => whnf) | ((with_reducible refine AskB.mk (fun hb => ?_) (fun hb => ?_)) <;> conv => whnf) | ((with_reducible refine Run.drawX rfl (by decide +kernel) ?_); conv => whnf) | ((with_reducible refine Run.drawT rfl (by decide +kernel) ?_); conv => whnf) | ((with_reducible refine Run.drawW rfl (by decide +kernel) ?_); conv => whnf) | fail))
  all_goals refine Run.leave (ts := [4]) (.inr ⟨_, rfl⟩) rfl Tryd.func76 rfl (Le.bool ?_)
  all_goals unfold secondV
  all_goals repeat' split
  all_goals first | rfl | (exfalso; omega)
theorem fits_fn (s : ByteArray) (i : Nat) (hi : i < s.size) (hs : s.size ≤ 134217728) : Fn Tryd.prog 70 [.str s, .int .i64 i] (.int .i64 (fitsV s i : Nat)) := by
  refine Fn.of Tryd.f70 _ Tryd.func70 rfl (by decide) (by show 2 ≤ _; decide) tbOk 53 rfl fun S w0 gl => ?_
  refine Run.go ?_; (conv => whnf); repeat' (first | ((with_reducible refine Know.mk fun _ => ?_); conv => whnf) | ((with_reducible refine Need.mk ?_ ?_); (first | omega | (dsimp only; omega) | decide | exact bytes_le (by rfl) (by omega) | exact ⟨rfl, by omega, bytes_le (by rfl) (by omega), by omega⟩ | (refine ⟨?_, ?_⟩ <;> (rw [wrap64 (by omega) (by omega)]; omega))); conv => whnf) | ((with_reducible refine Both.mk ?_ ?_) <;> conv => whnf) | ((with_reducible refine Any.mk fun b hb => ?_); conv => whnf) | ((with_reducible refine AskB.dec (fun hb => ?_) (fun hb => ?_)) <;> conv => whnf) | ((with_reducible refine AskB.ndec (fun hb => ?_) (fun hb => ?_)) <;> conv => whnf) | ((with_reducible refine AskB.mk (fun hb => ?_) (fun hb => ?_)) <;> conv => whnf) | ((with_reducible refine Run.drawX rfl (by decide +kernel) ?_); conv => whnf) | ((with_reducible refine Run.drawT rfl (by decide +kernel) ?_); conv => whnf) | ((with_reducible refine Run.drawW rfl (by decide +kernel) ?_); conv => whnf) | fail)
  refine Run.callBX (wants_fn (bt s i)) rfl rfl ⟨Le.refl _, trivial⟩ rfl rfl rfl ?_
  (conv => whnf); repeat' (first | ((with_reducible refine Know.mk fun _ => ?_); conv => whnf) | ((with_reducible refine Need.mk ?_ ?_); (first | omega | (dsimp only; omega) | decide | exact bytes_le (by rfl) (by omega) | exact ⟨rfl, by omega, bytes_le (by rfl) (by omega), by omega⟩ | (refine ⟨?_, ?_⟩ <;> (rw [wrap64 (by omega) (by omega)]; omega))); conv => whnf) | ((with_reducible refine Both.mk ?_ ?_) <;> conv => whnf) | ((with_reducible refine Any.mk fun b hb => ?_); conv => whnf) | ((with_reducible refine AskB.dec (fun hb => ?_) (fun hb => ?_)) <;> conv => whnf) | ((with_reducible refine AskB.ndec (fun hb => ?_) (fun hb => ?_)) <;> conv => whnf) | ((with_reducible refine AskB.mk (fun hb => ?_) (fun hb => ?_)) <;> conv => whnf) | ((with_reducible refine Run.drawX rfl (by decide +kernel) ?_); conv => whnf) | ((with_reducible refine Run.drawT rfl (by decide +kernel) ?_); conv => whnf) | ((with_reducible refine Run.drawW rfl (by decide +kernel) ?_); conv => whnf) | fail)
  · exact Run.leave (ts := [4]) (.inr ⟨_, rfl⟩) rfl Tryd.func70 rfl (Le.int (by unfold fitsV; rw [if_pos (by omega)]; rfl))
  have hne : ¬ wantsV (bt s i) = 0 := by omega
  generalize hW : wantsV (bt s i) = W at *
  have hf : fitsV s i = fitsE s i W 1 := by unfold fitsV; rw [hW, if_neg hne]
  have hW4 : W ≤ 4 := by
    rw [← hW]; unfold wantsV
    repeat' split
    all_goals omega
  refine Run.loop [0, 1, 5] (fun (k : Nat) => [(6, .int .i64 (k : Int))]) (fun k => []) (fun k => 1 ≤ k ∧ k ≤ W ∧ fitsE s i W k = fitsV s i) (fun k => W - k) 1 ⟨Nat.le_refl _, by omega, hf.symm⟩ ⟨Le.refl _, trivial⟩ trivial ?_
  intro k ⟨hk1, hk2, hk3⟩ IH
  have hw1 : IntKind.i64.wrap ((i : Int) + k) = (i : Int) + k := wrap64 (by omega) (by omega)
  have hw2 : IntKind.i64.wrap ((k : Int) + 1) = ((k + 1 : Nat) : Int) := wrap64 (by omega) (by omega)
  have hbt : bt s (IntKind.i64.wrap (↑i + ↑k)).toNat = bt s (i + k) := by rw [hw1]; rfl
  have stp : k < W ∧ i + k < s.size → ¬ ((k = 1 ∧ secondV (bt s i) (bt s (i + k)) = false) ∨ (1 < k ∧ ¬ (128 ≤ bt s (i + k) ∧ bt s (i + k) ≤ 191))) → k < W → k + 1 ≤ W ∧ fitsE s i W (k + 1) = fitsV s i := fun h1 h2 h3 => ⟨h3, by rw [← hk3, ← fitsE_go h1 h2]⟩
  have bad : k < W ∧ i + k < s.size → ((k = 1 ∧ secondV (bt s i) (bt s (i + k)) = false) ∨ (1 < k ∧ ¬ (128 ≤ bt s (i + k) ∧ bt s (i + k) ≤ 191))) → ((fitsV s i : Nat) : Int) = k := fun h1 h2 => by rw [← hk3, fitsE_bad h1 h2]
  have out : ¬ (k < W ∧ i + k < s.size) → ((fitsV s i : Nat) : Int) = k := fun h1 => by rw [← hk3, fitsE_out h1]
  refine Run.go ?_; (conv => whnf); repeat' (first | ((with_reducible refine Know.mk fun _ => ?_); conv => whnf) | ((with_reducible refine Need.mk ?_ ?_); (first | omega | (dsimp only; omega) | decide | exact bytes_le (by rfl) (by omega) | exact ⟨rfl, by omega, bytes_le (by rfl) (by omega), by omega⟩ | (refine ⟨?_, ?_⟩ <;> (rw [wrap64 (by omega) (by omega)]; omega))); conv => whnf) | ((with_reducible refine Both.mk ?_ ?_) <;> conv => whnf) | ((with_reducible refine Any.mk fun b hb => ?_); conv => whnf) | ((with_reducible refine AskB.dec (fun hb => ?_) (fun hb => ?_)) <;> conv => whnf) | ((with_reducible refine AskB.ndec (fun hb => ?_) (fun hb => ?_)) <;> conv => whnf) | ((with_reducible refine AskB.mk (fun hb => ?_) (fun hb => ?_)) <;> conv => whnf) | ((with_reducible refine Run.drawX rfl (by decide +kernel) ?_); conv => whnf) | ((with_reducible refine Run.drawT rfl (by decide +kernel) ?_); conv => whnf) | ((with_reducible refine Run.drawW rfl (by decide +kernel) ?_); conv => whnf) | fail)
  · rw [hw1] at *
    have hk : k = 1 := by omega
    refine Run.callBX (second_fn (bt s i) (bt s (i + k))) rfl rfl ⟨Le.refl _, Le.int hbt, trivial⟩ rfl rfl rfl ?_
    (conv => whnf); repeat' (first | ((with_reducible refine Know.mk fun _ => ?_); conv => whnf) | ((with_reducible refine Need.mk ?_ ?_); (first | omega | (dsimp only; omega) | decide | exact bytes_le (by rfl) (by omega) | exact ⟨rfl, by omega, bytes_le (by rfl) (by omega), by omega⟩ | (refine ⟨?_, ?_⟩ <;> (rw [wrap64 (by omega) (by omega)]; omega))); conv => whnf) | ((with_reducible refine Both.mk ?_ ?_) <;> conv => whnf) | ((with_reducible refine Any.mk fun b hb => ?_); conv => whnf) | ((with_reducible refine AskB.dec (fun hb => ?_) (fun hb => ?_)) <;> conv => whnf) | ((with_reducible refine AskB.ndec (fun hb => ?_) (fun hb => ?_)) <;> conv => whnf) | ((with_reducible refine AskB.mk (fun hb => ?_) (fun hb => ?_)) <;> conv => whnf) | ((with_reducible refine Run.drawX rfl (by decide +kernel) ?_); conv => whnf) | ((with_reducible refine Run.drawT rfl (by decide +kernel) ?_); conv => whnf) | ((with_reducible refine Run.drawW rfl (by decide +kernel) ?_); conv => whnf) | fail)
    · exact Run.leave (ts := [4]) (.inr ⟨_, rfl⟩) rfl Tryd.func70 rfl (Le.int (bad ⟨by omega, by omega⟩ (.inl ⟨hk, by simpa using hb⟩)).symm)
    · exact absurd hb (by omega)
    · obtain ⟨h1, h2⟩ := stp ⟨by omega, by omega⟩ (fun h => h.elim (fun h => absurd h.2 (by simp_all)) (fun h => absurd h.1 (by omega))) (by omega)
      refine Run.to _ _ ?_ ?_ (IH (k + 1) (by omega) ⟨by omega, h1, h2⟩)
      · exact ⟨Le.refl _, Le.refl _, Le.refl _, Le.int hw2, trivial⟩
      · exact trivial
  · rw [hw1] at *
    refine Run.callBX (between_fn (bt s (i + k)) 128 191) rfl rfl ⟨Le.int hbt, Le.refl _, Le.refl _, trivial⟩ rfl rfl rfl ?_
    (conv => whnf); repeat' (first | ((with_reducible refine Know.mk fun _ => ?_); conv => whnf) | ((with_reducible refine Need.mk ?_ ?_); (first | omega | (dsimp only; omega) | decide | exact bytes_le (by rfl) (by omega) | exact ⟨rfl, by omega, bytes_le (by rfl) (by omega), by omega⟩ | (refine ⟨?_, ?_⟩ <;> (rw [wrap64 (by omega) (by omega)]; omega))); conv => whnf) | ((with_reducible refine Both.mk ?_ ?_) <;> conv => whnf) | ((with_reducible refine Any.mk fun b hb => ?_); conv => whnf) | ((with_reducible refine AskB.dec (fun hb => ?_) (fun hb => ?_)) <;> conv => whnf) | ((with_reducible refine AskB.ndec (fun hb => ?_) (fun hb => ?_)) <;> conv => whnf) | ((with_reducible refine AskB.mk (fun hb => ?_) (fun hb => ?_)) <;> conv => whnf) | ((with_reducible refine Run.drawX rfl (by decide +kernel) ?_); conv => whnf) | ((with_reducible refine Run.drawT rfl (by decide +kernel) ?_); conv => whnf) | ((with_reducible refine Run.drawW rfl (by decide +kernel) ?_); conv => whnf) | fail)
    · obtain ⟨h1, h2⟩ := stp ⟨by omega, by omega⟩ (fun h => h.elim (fun h => absurd h.1 (by omega)) (fun h => h.2 hb)) (by omega)
      refine Run.to _ _ ?_ ?_ (IH (k + 1) (by omega) ⟨by omega, h1, h2⟩)
      · exact ⟨Le.refl _, Le.refl _, Le.refl _, Le.int hw2, trivial⟩
      · exact trivial
    · exact Run.leave (ts := [4]) (.inr ⟨_, rfl⟩) rfl Tryd.func70 rfl (Le.int (bad ⟨by omega, by omega⟩ (.inr ⟨by omega, hb⟩)).symm)
  · exact absurd hk1 (by omega)
  all_goals exact Run.leave (ts := [4]) (.inr ⟨_, rfl⟩) rfl Tryd.func70 rfl (Le.int (out (by omega)).symm)
end Go.Proofs.YtfodjmemdkibpaaDoor.V
