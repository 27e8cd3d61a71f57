/-
The document's cells
-/
import Derived.Test.YtfodjmemdkibpaaDoorWe
namespace Go.Proofs.YtfodjmemdkibpaaDoor.V
open Go Go.Proofs Go.RowKit
set_option linter.unusedVariables false
set_option linter.unusedSimpArgs false
set_option maxRecDepth 100000
set_option maxHeartbeats 2000000
open Go Go.Proofs Go.Proofs.YtfodjmemdkibpaaDoor.V
theorem cell_fn (s : ByteArray) (i : Nat) (hi : i < s.size) (hs : s.size ≤ 134217728) : Fn Tryd.prog 51 [.str s, .int .i64 i] (.agg 5 (tCel.enc (cellAt s i))) := by
  refine Fn.of Tryd.f51 _ Tryd.func51 rfl (by decide) (by show 2 ≤ _; decide) tbOk 103 rfl fun S w0 gl => ?_
  refine Run.go ?_; (conv => whnf); repeat' (first | ((with_reducible refine Know.mk fun _ => ?_); conv => whnf) | ((with_reducible refine Need.mk ?_ ?_); (first | omega | (dsimp only; omega) | decide | exact bytes_le (by rfl) (by omega) | exact ⟨rfl, by omega, bytes_le (by rfl) (by omega), by omega⟩ | (refine ⟨?_, ?_⟩ <;> (rw [wrap64 (by omega) (by omega)]; omega))); conv => whnf) | ((with_reducible refine Both.mk ?_ ?_) <;> conv => whnf) | ((with_reducible refine Any.mk fun b hb => ?_); conv => whnf) | ((with_reducible refine AskB.dec (fun hb => ?_) (fun hb => ?_)) <;> conv => whnf) | ((with_reducible refine AskB.ndec (fun hb => ?_) (fun hb => ?_)) <;> conv => whnf) | ((with_reducible refine AskB.mk (fun hb => ?_) (fun hb => ?_)) <;> conv => whnf) | ((with_reducible refine Run.drawX rfl (by decide +kernel) ?_); conv => whnf) | ((with_reducible refine Run.drawT rfl (by decide +kernel) ?_); conv => whnf) | ((with_reducible refine Run.drawW rfl (by decide +kernel) ?_); conv => whnf) | fail)
  refine Run.callBX (wants_fn (bt s i)) rfl rfl ⟨Le.refl _, trivial⟩ rfl rfl rfl ?_
  (conv => whnf); repeat' (first | ((with_reducible refine Know.mk fun _ => ?_); conv => whnf) | ((with_reducible refine Need.mk ?_ ?_); (first | omega | (dsimp only; omega) | decide | exact bytes_le (by rfl) (by omega) | exact ⟨rfl, by omega, bytes_le (by rfl) (by omega), by omega⟩ | (refine ⟨?_, ?_⟩ <;> (rw [wrap64 (by omega) (by omega)]; omega))); conv => whnf) | ((with_reducible refine Both.mk ?_ ?_) <;> conv => whnf) | ((with_reducible refine Any.mk fun b hb => ?_); conv => whnf) | ((with_reducible refine AskB.dec (fun hb => ?_) (fun hb => ?_)) <;> conv => whnf) | ((with_reducible refine AskB.ndec (fun hb => ?_) (fun hb => ?_)) <;> conv => whnf) | ((with_reducible refine AskB.mk (fun hb => ?_) (fun hb => ?_)) <;> conv => whnf) | ((with_reducible refine Run.drawX rfl (by decide +kernel) ?_); conv => whnf) | ((with_reducible refine Run.drawT rfl (by decide +kernel) ?_); conv => whnf) | ((with_reducible refine Run.drawW rfl (by decide +kernel) ?_); conv => whnf) | fail)
  · have hd := dec_none s i (by omega)
    rw [cellAt_bad s i hd]
    refine Run.leaveC (.inr ⟨_, rfl⟩) rfl Tryd.func51 rfl rfl rfl (Nat.le_of_ble_eq_true rfl) (Le.agg fun j hj => ?_)
    match j, hj with
    | 0, _ => exact Le.refl _
    | 1, _ => exact Le.refl _
    | 2, _ => exact Le.refl _
    | 3, _ => exact Le.tt
    | 4, _ => exact Le.refl _
  have hne : wantsV (bt s i) ≠ 0 := by omega
  obtain ⟨hbad, hgood⟩ := dec_cases s i hi hne
  have hfv : fitsV s i = fitsE s i (wantsV (bt s i)) 1 := by unfold fitsV; rw [if_neg hne]
  rw [← hfv] at hbad hgood
  have hall := fitsE_all s i (wantsV (bt s i)) 1 (by omega)
  have hle := fitsE_le s i (wantsV (bt s i)) 1 (by omega)
  rw [← hfv] at hall hle
  have hin : ∀ j : Nat, ¬ ((fitsV s i : Nat) : Int) < (wantsV (bt s i) : Nat) → j < wantsV (bt s i) → i + j < s.size := fun j h1 h2 => by
    by_cases e : j = 0
    · subst e; exact hi
    · exact ((hall.mp (by omega)) j (by omega) h2).1
  have hin1 := hin 1
  have hin2 := hin 2
  have hin3 := hin 3
  have hw1 : IntKind.i64.wrap ((i : Int) + 1) = (i : Int) + 1 := wrap64 (by omega) (by omega)
  have hw2 : IntKind.i64.wrap ((i : Int) + 2) = (i : Int) + 2 := wrap64 (by omega) (by omega)
  have hw3 : IntKind.i64.wrap ((i : Int) + 3) = (i : Int) + 3 := wrap64 (by omega) (by omega)
  refine Run.callBX (fits_fn s i hi hs) rfl rfl ⟨Le.refl _, Le.refl _, trivial⟩ rfl rfl rfl ?_
  (conv => whnf); repeat' (first | ((with_reducible refine Know.mk fun _ => ?_); conv => whnf) | ((with_reducible refine Need.mk ?_ ?_); (first | omega | (dsimp only; omega) | decide | exact bytes_le (by rfl) (by omega) | exact ⟨rfl, by omega, bytes_le (by rfl) (by omega), by omega⟩ | (refine ⟨?_, ?_⟩ <;> (rw [wrap64 (by omega) (by omega)]; omega))); conv => whnf) | ((with_reducible refine Both.mk ?_ ?_) <;> conv => whnf) | ((with_reducible refine Any.mk fun b hb => ?_); conv => whnf) | ((with_reducible refine AskB.dec (fun hb => ?_) (fun hb => ?_)) <;> conv => whnf) | ((with_reducible refine AskB.ndec (fun hb => ?_) (fun hb => ?_)) <;> conv => whnf) | ((with_reducible refine AskB.mk (fun hb => ?_) (fun hb => ?_)) <;> conv => whnf) | ((with_reducible refine Run.drawX rfl (by decide +kernel) ?_); conv => whnf) | ((with_reducible refine Run.drawT rfl (by decide +kernel) ?_); conv => whnf) | ((with_reducible refine Run.drawW rfl (by decide +kernel) ?_); conv => whnf) | fail)
  · rw [cellAt_bad s i (hbad (by omega))]
    refine Run.leaveC (.inr ⟨_, rfl⟩) rfl Tryd.func51 rfl rfl rfl (Nat.le_of_ble_eq_true rfl) (Le.agg fun j hj => ?_)
    match j, hj with
    | 0, _ => exact Le.refl _
    | 1, _ => exact Le.refl _
    | 2, _ => exact Le.refl _
    | 3, _ => exact Le.tt
    | 4, _ => exact Le.refl _
  · have hW : wantsV (bt s i) = 2 := by omega
    obtain ⟨g1, g2, g3⟩ := hgood (by omega)
    rw [cellAt_good s i _ _ g1 (by omega)]
    refine Run.leaveC (.inr ⟨_, rfl⟩) rfl Tryd.func51 rfl rfl rfl (Nat.le_of_ble_eq_true rfl) (Le.agg fun j hj => ?_)
    match j, hj with
    | 0, _ => exact Le.refl _
    | 1, _ => exact Le.refl _
    | 2, _ =>
      refine Le.int ?_
      rw [Int.toNat_of_nonneg g2]
      rw [hW]
      exact (bits2 (bt s i) _ (bt_lt _ _) (bt_lt _ _)).trans (by rw [hw1]; rfl)
    | 3, _ => exact Le.ff
    | 4, _ => exact Le.refl _
  · have hW : wantsV (bt s i) = 3 := by omega
    obtain ⟨g1, g2, g3⟩ := hgood (by omega)
    rw [cellAt_good s i _ _ g1 (by omega)]
    refine Run.leaveC (.inr ⟨_, rfl⟩) rfl Tryd.func51 rfl rfl rfl (Nat.le_of_ble_eq_true rfl) (Le.agg fun j hj => ?_)
    match j, hj with
    | 0, _ => exact Le.refl _
    | 1, _ => exact Le.refl _
    | 2, _ =>
      refine Le.int ?_
      rw [Int.toNat_of_nonneg g2]
      rw [hW]
      exact (bits3 (bt s i) _ _ (bt_lt _ _) (bt_lt _ _) (bt_lt _ _)).trans (by rw [hw1, hw2]; rfl)
    | 3, _ => exact Le.ff
    | 4, _ => exact Le.refl _
  · have hW : wantsV (bt s i) = 4 := by omega
    obtain ⟨g1, g2, g3⟩ := hgood (by omega)
    rw [cellAt_good s i _ _ g1 (by omega)]
    refine Run.leaveC (.inr ⟨_, rfl⟩) rfl Tryd.func51 rfl rfl rfl (Nat.le_of_ble_eq_true rfl) (Le.agg fun j hj => ?_)
    match j, hj with
    | 0, _ => exact Le.refl _
    | 1, _ => exact Le.refl _
    | 2, _ =>
      refine Le.int ?_
      rw [Int.toNat_of_nonneg g2]
      rw [hW]
      exact (bits4 (bt s i) _ _ _ (bt_lt _ _) (bt_lt _ _) (bt_lt _ _) (bt_lt _ _)).trans (by rw [hw1, hw2, hw3]; rfl)
    | 3, _ => exact Le.ff
    | 4, _ => exact Le.refl _
  · have hW4 : wantsV (bt s i) ≤ 4 := by
      unfold wantsV
      repeat' split
      all_goals omega
    have hW : wantsV (bt s i) = 1 := by omega
    obtain ⟨g1, g2, g3⟩ := hgood (by omega)
    rw [cellAt_good s i _ _ g1 (by omega)]
    refine Run.leaveC (.inr ⟨_, rfl⟩) rfl Tryd.func51 rfl rfl rfl (Nat.le_of_ble_eq_true rfl) (Le.agg fun j hj => ?_)
    match j, hj with
    | 0, _ => exact Le.refl _
    | 1, _ => exact Le.refl _
    | 2, _ =>
      refine Le.int ?_
      rw [Int.toNat_of_nonneg g2]
      rw [hW]
      exact IntWalk.i32_in _ (by have := bt_lt s i; show _ ≤ bt s i ∧ bt s i ≤ _; omega)
    | 3, _ => exact Le.ff
    | 4, _ => exact Le.refl _
theorem cells36_fn (s : ByteArray) (hs : s.size ≤ 134217728) : Fn Tryd.prog 36 [.str s] (tCel.L (cells s 0)) := by
  refine Fn.of Tryd.f36 _ Tryd.func36 rfl (by decide) (by show 1 ≤ _; decide) tbOk 22 rfl fun S w0 gl => ?_
  refine Run.go ?_; (conv => whnf); repeat' (first | ((with_reducible refine Know.mk fun _ => ?_); conv => whnf) | ((with_reducible refine Need.mk ?_ ?_); (first | omega | (dsimp only; omega) | decide | exact bytes_le (by rfl) (by omega) | exact ⟨rfl, by omega, bytes_le (by rfl) (by omega), by omega⟩ | (refine ⟨?_, ?_⟩ <;> (rw [wrap64 (by omega) (by omega)]; omega))); conv => whnf) | ((with_reducible refine Both.mk ?_ ?_) <;> conv => whnf) | ((with_reducible refine Any.mk fun b hb => ?_); conv => whnf) | ((with_reducible refine AskB.dec (fun hb => ?_) (fun hb => ?_)) <;> conv => whnf) | ((with_reducible refine AskB.ndec (fun hb => ?_) (fun hb => ?_)) <;> conv => whnf) | ((with_reducible refine AskB.mk (fun hb => ?_) (fun hb => ?_)) <;> conv => whnf) | ((with_reducible refine Run.drawX rfl (by decide +kernel) ?_); conv => whnf) | ((with_reducible refine Run.drawT rfl (by decide +kernel) ?_); conv => whnf) | ((with_reducible refine Run.drawW rfl (by decide +kernel) ?_); conv => whnf) | fail)
  refine Run.holdNil 3 1000 75 5 (fun _ _ => .u) rfl ?_
  refine Run.loop [0] (fun (a : Nat × List Cel) => [(3, .row 1000), (4, .int .i64 (a.1 : Int))]) (fun a => [(1000, tCel.R 75 a.2)]) (fun a => a.1 ≤ s.size ∧ a.2.length ≤ a.1 ∧ a.2 ++ cells s a.1 = cells s 0) (fun a => s.size - a.1) (0, []) ⟨Nat.zero_le _, Nat.zero_le _, rfl⟩ ⟨Le.refl _, Le.refl _, trivial⟩ ⟨⟨rfl, rfl, rfl, fun i j hi => absurd hi (Nat.not_lt_zero _)⟩, trivial⟩ ?_
  intro ⟨p, l⟩ ⟨hp, hl, hc⟩ IH
  simp only at hp hl hc
  show Run _ _ (lst (_ ++ [(3, .row 1000), (4, .int .i64 (p : Int))])) (lstH [(1000, tCel.R 75 l)])
  refine Run.go ?_; (conv => whnf); repeat' (first | ((with_reducible refine Know.mk fun _ => ?_); conv => whnf) | ((with_reducible refine Need.mk ?_ ?_); (first | omega | (dsimp only; omega) | decide | exact bytes_le (by rfl) (by omega) | exact ⟨rfl, by omega, bytes_le (by rfl) (by omega), by omega⟩ | (refine ⟨?_, ?_⟩ <;> (rw [wrap64 (by omega) (by omega)]; omega))); conv => whnf) | ((with_reducible refine Both.mk ?_ ?_) <;> conv => whnf) | ((with_reducible refine Any.mk fun b hb => ?_); conv => whnf) | ((with_reducible refine AskB.dec (fun hb => ?_) (fun hb => ?_)) <;> conv => whnf) | ((with_reducible refine AskB.ndec (fun hb => ?_) (fun hb => ?_)) <;> conv => whnf) | ((with_reducible refine AskB.mk (fun hb => ?_) (fun hb => ?_)) <;> conv => whnf) | ((with_reducible refine Run.drawX rfl (by decide +kernel) ?_); conv => whnf) | ((with_reducible refine Run.drawT rfl (by decide +kernel) ?_); conv => whnf) | ((with_reducible refine Run.drawW rfl (by decide +kernel) ?_); conv => whnf) | fail)
  · have hw := Lib.width_pos s p
    have hle := decode_fit s p (by omega)
    have hnext : l ++ cells s p = (l ++ [cellAt s p]) ++ cells s (p + (Utf8.decode s p).2) := by rw [cells_in (by omega)]; simp
    have hwd : (cellAt s p).w = (Utf8.decode s p).2 := by unfold cellAt; split <;> simp_all
    refine Run.callBX (cell_fn s p (by omega) hs) rfl rfl ⟨Le.refl _, Le.refl _, trivial⟩ rfl rfl rfl ?_
    (conv => whnf); repeat' (first | ((with_reducible refine Know.mk fun _ => ?_); conv => whnf) | ((with_reducible refine Need.mk ?_ ?_); (first | omega | (dsimp only; omega) | decide | exact bytes_le (by rfl) (by omega) | exact ⟨rfl, by omega, bytes_le (by rfl) (by omega), by omega⟩ | (refine ⟨?_, ?_⟩ <;> (rw [wrap64 (by omega) (by omega)]; omega))); conv => whnf) | ((with_reducible refine Both.mk ?_ ?_) <;> conv => whnf) | ((with_reducible refine Any.mk fun b hb => ?_); conv => whnf) | ((with_reducible refine AskB.dec (fun hb => ?_) (fun hb => ?_)) <;> conv => whnf) | ((with_reducible refine AskB.ndec (fun hb => ?_) (fun hb => ?_)) <;> conv => whnf) | ((with_reducible refine AskB.mk (fun hb => ?_) (fun hb => ?_)) <;> conv => whnf) | ((with_reducible refine Run.drawX rfl (by decide +kernel) ?_); conv => whnf) | ((with_reducible refine Run.drawT rfl (by decide +kernel) ?_); conv => whnf) | ((with_reducible refine Run.drawW rfl (by decide +kernel) ?_); conv => whnf) | fail)
    refine Run.hold (z := 16) 3 1000 (by rfl) (by rfl) (by rfl) ?_
    refine Run.to _ _ ?_ ?_ (IH (p + (Utf8.decode s p).2, l ++ [cellAt s p]) (by simp only []; omega) ⟨by simp only []; omega, by simp only [List.length_append, List.length_singleton]; omega, by simp only []; rw [← hnext, hc]⟩)
    · exact ⟨Le.refl _, Le.refl _, Le.int ((congrArg IntKind.i64.wrap (by show (p : Int) + ((cellAt s p).w : Int) = ((p + (Utf8.decode s p).2 : Nat) : Int); rw [hwd, Int.natCast_add])).trans (wrap64 (x := ((p + (Utf8.decode s p).2 : Nat) : Int)) (by omega) (by omega))), trivial⟩
    · refine ⟨tCel.push 75 l (cellAt s p) _ (fun j hj => ?_), trivial⟩
      match j, hj with
      | 0, _ => exact Le.refl _
      | 1, _ => exact Le.refl _
      | 2, _ => exact Le.refl _
      | 3, _ => exact Le.refl _
      | 4, _ => exact Le.refl _
  have hpe : ¬ p < s.size := by omega
  rw [cells_out hpe, List.append_nil] at hc
  rw [← hc]
  exact Run.leave (ts := [2]) (.inr ⟨_, rfl⟩) rfl Tryd.func36 rfl (Le.refl _)
end Go.Proofs.YtfodjmemdkibpaaDoor.V
