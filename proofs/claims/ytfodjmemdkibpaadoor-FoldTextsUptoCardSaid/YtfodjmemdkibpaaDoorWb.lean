/-
A text's cells (the program's).
-/
import Derived.Test.YtfodjmemdkibpaaDoorWa
import Derived.Test.YtfodjmemdkibpaaDoorRa
import Derived.Lib.RuneCountTail
namespace Go.Proofs.YtfodjmemdkibpaaDoor.V
open Go Go.Proofs Go.RowKit
set_option linter.unusedVariables false
set_option linter.unusedSimpArgs false
set_option maxRecDepth 100000
set_option maxHeartbeats 1000000
open Go Go.Proofs Go.Proofs.YtfodjmemdkibpaaDoor.V
theorem runeLen_fn (r : Int) : Fn Tryd.prog 56 [.int .i32 r] (.int .i64 (runeLen r)) := by
  refine Fn.of Tryd.f56 _ Tryd.func56 rfl (by decide) (by show 1 ≤ _; decide) tbOk 25 rfl fun S w0 gl => ?_
  refine Run.go ?_; (conv => whnf); repeat' (first | ((with_reducible refine Know.mk fun _ => ?_); conv => whnf) | ((with_reducible refine Need.mk ?_ ?_); (first | omega | (dsimp only; omega) | decide | exact bytes_le (by rfl) (by omega) | exact ⟨rfl, by omega, bytes_le (by rfl) (by omega), by omega⟩ | (refine ⟨?_, ?_⟩ <;> (rw [wrap64 (by omega) (by omega)]; omega))); conv => whnf) | ((with_reducible refine Both.mk ?_ ?_) <;> conv => whnf) | ((with_reducible refine Any.mk fun b hb => ?_); conv => whnf) | ((with_reducible refine AskB.dec (fun hb => ?_) (fun hb => ?_)) <;> conv => whnf) | ((with_reducible refine AskB.ndec (fun hb => ?_) (fun hb => ?_)) <;> conv => whnf) | ((with_reducible refine AskB.mk (fun hb => ?_) (fun hb => ?_)) <;> conv => whnf) | ((with_reducible refine Run.drawX rfl (by decide +kernel) ?_); conv => whnf) | ((with_reducible refine Run.drawT rfl (by decide +kernel) ?_); conv => whnf) | ((with_reducible refine Run.drawW rfl (by decide +kernel) ?_); conv => whnf) | fail)
  all_goals (refine Run.leave (ts := [2]) (.inr ⟨_, rfl⟩) rfl Tryd.func56 rfl (Le.int ?_); unfold runeLen; (repeat' split) <;> first | rfl | omega)
theorem decode_fn (s : ByteArray) (h : 0 < s.size) : Fn Tryd.prog 57 [.str s] (tupL [.u, .int .i64 (Utf8.decode s 0).2]) := by
  refine Fn.of Tryd.f57 _ Tryd.func57 rfl (by decide) (by show 1 ≤ _; decide) tbOk 19 rfl fun S w0 gl => ?_
  refine Run.go ?_; (conv => whnf); repeat' (first | ((with_reducible refine Know.mk fun _ => ?_); conv => whnf) | ((with_reducible refine Need.mk ?_ ?_); (first | omega | (dsimp only; omega) | decide | exact bytes_le (by rfl) (by omega) | exact ⟨rfl, by omega, bytes_le (by rfl) (by omega), by omega⟩ | (refine ⟨?_, ?_⟩ <;> (rw [wrap64 (by omega) (by omega)]; omega))); conv => whnf) | ((with_reducible refine Both.mk ?_ ?_) <;> conv => whnf) | ((with_reducible refine Any.mk fun b hb => ?_); conv => whnf) | ((with_reducible refine AskB.dec (fun hb => ?_) (fun hb => ?_)) <;> conv => whnf) | ((with_reducible refine AskB.ndec (fun hb => ?_) (fun hb => ?_)) <;> conv => whnf) | ((with_reducible refine AskB.mk (fun hb => ?_) (fun hb => ?_)) <;> conv => whnf) | ((with_reducible refine Run.drawX rfl (by decide +kernel) ?_); conv => whnf) | ((with_reducible refine Run.drawT rfl (by decide +kernel) ?_); conv => whnf) | ((with_reducible refine Run.drawW rfl (by decide +kernel) ?_); conv => whnf) | fail)
  · subst hb; exact absurd h (by decide)
  · refine Run.leave (ts := [2,3]) (.inr ⟨_, rfl⟩) rfl Tryd.func57 rfl (resT ⟨Le.u _, Le.int ?_, trivial⟩)
    have h0 := bt_lt s (Int.toNat 0)
    rw [dec_bt, dec_low _ _ _ _ _ (.inl (by omega)) (by omega)]; rfl
  · refine Run.callBX (slow_fn s h) rfl rfl ⟨Le.refl _, trivial⟩ rfl rfl rfl ?_
    (conv => whnf); repeat' (first | ((with_reducible refine Know.mk fun _ => ?_); conv => whnf) | ((with_reducible refine Need.mk ?_ ?_); (first | omega | (dsimp only; omega) | decide | exact bytes_le (by rfl) (by omega) | exact ⟨rfl, by omega, bytes_le (by rfl) (by omega), by omega⟩ | (refine ⟨?_, ?_⟩ <;> (rw [wrap64 (by omega) (by omega)]; omega))); conv => whnf) | ((with_reducible refine Both.mk ?_ ?_) <;> conv => whnf) | ((with_reducible refine Any.mk fun b hb => ?_); conv => whnf) | ((with_reducible refine AskB.dec (fun hb => ?_) (fun hb => ?_)) <;> conv => whnf) | ((with_reducible refine AskB.ndec (fun hb => ?_) (fun hb => ?_)) <;> conv => whnf) | ((with_reducible refine AskB.mk (fun hb => ?_) (fun hb => ?_)) <;> conv => whnf) | ((with_reducible refine Run.drawX rfl (by decide +kernel) ?_); conv => whnf) | ((with_reducible refine Run.drawT rfl (by decide +kernel) ?_); conv => whnf) | ((with_reducible refine Run.drawW rfl (by decide +kernel) ?_); conv => whnf) | fail)
    exact Run.leave (ts := [2,3]) (.inr ⟨_, rfl⟩) rfl Tryd.func57 rfl (resT ⟨Le.u _, Le.refl _, trivial⟩)
theorem cells_fn (s : ByteArray) (hs : s.size ≤ 134217728) : Fn Tryd.prog 39 [.str s] (tCel.L (cells s 0)) := by
  refine Fn.of Tryd.f39 _ Tryd.func39 rfl (by decide) (by show 1 ≤ _; decide) tbOk 45 rfl fun S w0 gl => ?_
  refine Run.go ?_; (conv => whnf); repeat' (first | ((with_reducible refine Know.mk fun _ => ?_); conv => whnf) | ((with_reducible refine Need.mk ?_ ?_); (first | omega | (dsimp only; omega) | decide | exact bytes_le (by rfl) (by omega) | exact ⟨rfl, by omega, bytes_le (by rfl) (by omega), by omega⟩ | (refine ⟨?_, ?_⟩ <;> (rw [wrap64 (by omega) (by omega)]; omega))); conv => whnf) | ((with_reducible refine Both.mk ?_ ?_) <;> conv => whnf) | ((with_reducible refine Any.mk fun b hb => ?_); conv => whnf) | ((with_reducible refine AskB.dec (fun hb => ?_) (fun hb => ?_)) <;> conv => whnf) | ((with_reducible refine AskB.ndec (fun hb => ?_) (fun hb => ?_)) <;> conv => whnf) | ((with_reducible refine AskB.mk (fun hb => ?_) (fun hb => ?_)) <;> conv => whnf) | ((with_reducible refine Run.drawX rfl (by decide +kernel) ?_); conv => whnf) | ((with_reducible refine Run.drawT rfl (by decide +kernel) ?_); conv => whnf) | ((with_reducible refine Run.drawW rfl (by decide +kernel) ?_); conv => whnf) | fail)
  refine Run.holdNil 3 1000 75 5 (fun _ _ => .u) rfl ?_
  refine Run.loop [0, 12] (fun (a : Nat × List Cel) => [(3, .row 1000)]) (fun a => [(12, .iter s a.1), (1000, tCel.R 75 a.2)]) (fun a => a.1 ≤ s.size ∧ a.2.length ≤ a.1 ∧ a.2 ++ cells s a.1 = cells s 0) (fun a => s.size - a.1) (0, []) ⟨Nat.zero_le _, Nat.zero_le _, rfl⟩ ⟨Le.refl _, trivial⟩ ⟨MOle.refl _, ⟨rfl, rfl, rfl, fun i j hi => absurd hi (Nat.not_lt_zero _)⟩, trivial⟩ ?_
  intro ⟨p, l⟩ ⟨hp, hl, hc⟩ IH
  simp only at hp hl hc
  show Run _ _ (lst (_ ++ [(3, .row 1000)])) (lstH [(12, .iter s p), (1000, tCel.R 75 l)])
  refine Run.go ?_; (conv => whnf); repeat' (first | ((with_reducible refine Know.mk fun _ => ?_); conv => whnf) | ((with_reducible refine Need.mk ?_ ?_); (first | omega | (dsimp only; omega) | decide | exact bytes_le (by rfl) (by omega) | exact ⟨rfl, by omega, bytes_le (by rfl) (by omega), by omega⟩ | (refine ⟨?_, ?_⟩ <;> (rw [wrap64 (by omega) (by omega)]; omega))); conv => whnf) | ((with_reducible refine Both.mk ?_ ?_) <;> conv => whnf) | ((with_reducible refine Any.mk fun b hb => ?_); conv => whnf) | ((with_reducible refine AskB.dec (fun hb => ?_) (fun hb => ?_)) <;> conv => whnf) | ((with_reducible refine AskB.ndec (fun hb => ?_) (fun hb => ?_)) <;> conv => whnf) | ((with_reducible refine AskB.mk (fun hb => ?_) (fun hb => ?_)) <;> conv => whnf) | ((with_reducible refine Run.drawX rfl (by decide +kernel) ?_); conv => whnf) | ((with_reducible refine Run.drawT rfl (by decide +kernel) ?_); conv => whnf) | ((with_reducible refine Run.drawW rfl (by decide +kernel) ?_); conv => whnf) | fail)
  · have hw := Lib.width_pos s p
    have hle := decode_fit s p (by omega)
    have hd := decode_len s p
    have hnext : l ++ cells s p = (l ++ [cellAt s p]) ++ cells s (p + (Utf8.decode s p).2) := by rw [cells_in (by omega)]; simp
    refine Run.callBX (runeLen_fn (Utf8.decode s p).1) rfl rfl ⟨Le.refl _, trivial⟩ rfl rfl rfl ?_
    (conv => whnf); repeat' (first | ((with_reducible refine Know.mk fun _ => ?_); conv => whnf) | ((with_reducible refine Need.mk ?_ ?_); (first | omega | (dsimp only; omega) | decide | exact bytes_le (by rfl) (by omega) | exact ⟨rfl, by omega, bytes_le (by rfl) (by omega), by omega⟩ | (refine ⟨?_, ?_⟩ <;> (rw [wrap64 (by omega) (by omega)]; omega))); conv => whnf) | ((with_reducible refine Both.mk ?_ ?_) <;> conv => whnf) | ((with_reducible refine Any.mk fun b hb => ?_); conv => whnf) | ((with_reducible refine AskB.dec (fun hb => ?_) (fun hb => ?_)) <;> conv => whnf) | ((with_reducible refine AskB.ndec (fun hb => ?_) (fun hb => ?_)) <;> conv => whnf) | ((with_reducible refine AskB.mk (fun hb => ?_) (fun hb => ?_)) <;> conv => whnf) | ((with_reducible refine Run.drawX rfl (by decide +kernel) ?_); conv => whnf) | ((with_reducible refine Run.drawT rfl (by decide +kernel) ?_); conv => whnf) | ((with_reducible refine Run.drawW rfl (by decide +kernel) ?_); conv => whnf) | fail)
    · refine Run.callBX (decode_fn (s.extract (Int.toNat p) s.size) (by simp; omega)) rfl rfl ⟨Le.refl _, trivial⟩ rfl rfl rfl ?_
      rw [show Utf8.decode (s.extract (Int.toNat p) s.size) 0 = Utf8.decode s p by rw [Lib.tail_decode]; simp]
      (conv => whnf); repeat' (first | ((with_reducible refine Know.mk fun _ => ?_); conv => whnf) | ((with_reducible refine Need.mk ?_ ?_); (first | omega | (dsimp only; omega) | decide | exact bytes_le (by rfl) (by omega) | exact ⟨rfl, by omega, bytes_le (by rfl) (by omega), by omega⟩ | (refine ⟨?_, ?_⟩ <;> (rw [wrap64 (by omega) (by omega)]; omega))); conv => whnf) | ((with_reducible refine Both.mk ?_ ?_) <;> conv => whnf) | ((with_reducible refine Any.mk fun b hb => ?_); conv => whnf) | ((with_reducible refine AskB.dec (fun hb => ?_) (fun hb => ?_)) <;> conv => whnf) | ((with_reducible refine AskB.ndec (fun hb => ?_) (fun hb => ?_)) <;> conv => whnf) | ((with_reducible refine AskB.mk (fun hb => ?_) (fun hb => ?_)) <;> conv => whnf) | ((with_reducible refine Run.drawX rfl (by decide +kernel) ?_); conv => whnf) | ((with_reducible refine Run.drawT rfl (by decide +kernel) ?_); conv => whnf) | ((with_reducible refine Run.drawW rfl (by decide +kernel) ?_); conv => whnf) | fail)
      · refine Run.hold (z := 43) 3 1000 (by rfl) (by rfl) (by rfl) ?_
        refine Run.to _ _ ?_ ?_ (IH (p + (Utf8.decode s p).2, l ++ [cellAt s p]) (by simp only []; omega) ⟨by simp only []; omega, by simp only [List.length_append, List.length_singleton]; omega, by simp only []; rw [← hnext, hc]⟩)
        · exact ⟨Le.refl _, Le.refl _, Le.refl _, trivial⟩
        · refine ⟨MOle.refl _, tCel.push 75 l (cellAt s p) _ (fun j hj => ?_), trivial⟩
          unfold cellAt
          rw [if_pos ⟨by omega, by omega⟩]
          match j, hj with
          | 0, _ => exact Le.refl _
          | 1, _ => exact Le.refl _
          | 2, _ => exact Le.int (by assumption)
          | 3, _ => exact Le.tt
          | 4, _ => exact Le.refl _
      · refine Run.hold (z := 43) 3 1000 (by rfl) (by rfl) (by rfl) ?_
        refine Run.to _ _ ?_ ?_ (IH (p + (Utf8.decode s p).2, l ++ [cellAt s p]) (by simp only []; omega) ⟨by simp only []; omega, by simp only [List.length_append, List.length_singleton]; omega, by simp only []; rw [← hnext, hc]⟩)
        · exact ⟨Le.refl _, Le.refl _, Le.refl _, trivial⟩
        · refine ⟨MOle.refl _, tCel.push 75 l (cellAt s p) _ (fun j hj => ?_), trivial⟩
          unfold cellAt
          rw [if_neg (fun h => by omega)]
          match j, hj with
          | 0, _ => exact Le.refl _
          | 1, _ => exact Le.int (by rcases hd with hd | hd; exact hd; exact absurd hd (by omega))
          | 2, _ => exact Le.refl _
          | 3, _ => exact Le.ff
          | 4, _ => exact Le.refl _
    · refine Run.hold (z := 43) 3 1000 (by rfl) (by rfl) (by rfl) ?_
      refine Run.to _ _ ?_ ?_ (IH (p + (Utf8.decode s p).2, l ++ [cellAt s p]) (by simp only []; omega) ⟨by simp only []; omega, by simp only [List.length_append, List.length_singleton]; omega, by simp only []; rw [← hnext, hc]⟩)
      · exact ⟨Le.refl _, Le.refl _, Le.refl _, trivial⟩
      · refine ⟨MOle.refl _, tCel.push 75 l (cellAt s p) _ (fun j hj => ?_), trivial⟩
        unfold cellAt
        rw [if_neg (fun h => by omega)]
        match j, hj with
        | 0, _ => exact Le.refl _
        | 1, _ => exact Le.int (by rcases hd with hd | hd; exact hd; exact absurd hd (by omega))
        | 2, _ => exact Le.refl _
        | 3, _ => exact Le.ff
        | 4, _ => exact Le.refl _
  · have : p = s.size := by omega
    subst this
    rw [cells_out (Nat.lt_irrefl _), List.append_nil] at hc
    rw [← hc]
    exact Run.leave (ts := [2]) (.inr ⟨_, rfl⟩) rfl Tryd.func39 rfl (Le.refl _)
end Go.Proofs.YtfodjmemdkibpaaDoor.V
