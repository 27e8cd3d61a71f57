/-
fold.steps walked: which functions a sum names.
-/
import Derived.Test.YtfodjmemdkibpaaDoorMD
import Derived.Test.YtfodjmemdkibpaaDoorVt
namespace Go.Proofs.YtfodjmemdkibpaaDoor.V
open Go Go.Proofs Go.RowKit
set_option linter.unusedVariables false
set_option linter.unusedSimpArgs false
set_option maxRecDepth 100000
set_option maxHeartbeats 2000000
open Go Go.Proofs Go.Proofs.YtfodjmemdkibpaaDoor.V
def tF : Ty Nat := ⟨1, fun f _ => .fn f, 53⟩
def stepsF (opt : Int) : List Nat := (if opt % 2 = 1 then [53] else []) ++ (if opt / 2 % 2 = 1 then [54] else []) ++ (if opt / 8 % 2 = 1 then [55] else [])
theorem bits32 : ∀ o : Fin 32, IntKind.i64.wrap ↑(BitVec.ofInt IntKind.i64.bits (o.val : Int) &&& BitVec.ofInt IntKind.i64.bits 1).toNat = (o.val : Int) % 2 ∧
    IntKind.i64.wrap ↑(BitVec.ofInt IntKind.i64.bits (o.val : Int) &&& BitVec.ofInt IntKind.i64.bits 2).toNat = 2 * ((o.val : Int) / 2 % 2) ∧
    IntKind.i64.wrap ↑(BitVec.ofInt IntKind.i64.bits (o.val : Int) &&& BitVec.ofInt IntKind.i64.bits 4).toNat = 4 * ((o.val : Int) / 4 % 2) ∧
    IntKind.i64.wrap ↑(BitVec.ofInt IntKind.i64.bits (o.val : Int) &&& BitVec.ofInt IntKind.i64.bits 8).toNat = 8 * ((o.val : Int) / 8 % 2) ∧
    IntKind.i64.wrap ↑(BitVec.ofInt IntKind.i64.bits (o.val : Int) &&& BitVec.ofInt IntKind.i64.bits 16).toNat = 16 * ((o.val : Int) / 16 % 2) := by decide +kernel
theorem steps38_fn (o : Int) (h0 : 0 ≤ o) (h1 : o ≤ 31) : Fn Tryd.prog 38 [.int .i64 o] (tF.L (stepsF o)) := by
  obtain ⟨k, rfl⟩ : ∃ k : Fin 32, (k.val : Int) = o := ⟨⟨o.toNat, by omega⟩, by simp only []; omega⟩
  obtain ⟨e1, e2, e4, e8, e16⟩ := bits32 k
  refine Fn.of Tryd.f38 _ Tryd.func38 rfl (by decide) (by show 1 ≤ _; decide) tbOk 13 rfl fun S w0 gl => ?_
  refine Run.go ?_; (conv => whnf); repeat' (first | ((with_reducible refine Know.mk fun _ => ?_); conv => whnf) | ((with_reducible refine Need.mk ?_ ?_); (first | omega | (dsimp only; omega) | decide | exact bytes_le (by rfl) (by omega) | exact ⟨rfl, by omega, bytes_le (by rfl) (by omega), by omega⟩ | (refine ⟨?_, ?_⟩ <;> (rw [wrap64 (by omega) (by omega)]; omega))); conv => whnf) | ((with_reducible refine Both.mk ?_ ?_) <;> conv => whnf) | ((with_reducible refine Any.mk fun b hb => ?_); conv => whnf) | ((with_reducible refine AskB.dec (fun hb => ?_) (fun hb => ?_)) <;> conv => whnf) | ((with_reducible refine AskB.ndec (fun hb => ?_) (fun hb => ?_)) <;> conv => whnf) | ((with_reducible refine AskB.mk (fun hb => ?_) (fun hb => ?_)) <;> conv => whnf) | ((with_reducible refine Run.drawX rfl (by decide +kernel) ?_); conv => whnf) | ((with_reducible refine Run.drawT rfl (by decide +kernel) ?_); conv => whnf) | ((with_reducible refine Run.drawW rfl (by decide +kernel) ?_); conv => whnf) | fail)
  refine Run.makeFunc rfl rfl rfl rfl rfl ?_
  refine Run.holdBoxNil 3 0 90 83 1 (fun _ _ => .u) (by rfl) (by rfl) rfl rfl ?_
  refine Run.tidy [3, 4, 5] [1, 3, 5, 90] ?_; (conv => whnf)
  refine Run.go ?_; (conv => whnf); repeat' (first | ((with_reducible refine Know.mk fun _ => ?_); conv => whnf) | ((with_reducible refine Need.mk ?_ ?_); (first | omega | (dsimp only; omega) | decide | exact bytes_le (by rfl) (by omega) | exact ⟨rfl, by omega, bytes_le (by rfl) (by omega), by omega⟩ | (refine ⟨?_, ?_⟩ <;> (rw [wrap64 (by omega) (by omega)]; omega))); conv => whnf) | ((with_reducible refine Both.mk ?_ ?_) <;> conv => whnf) | ((with_reducible refine Any.mk fun b hb => ?_); conv => whnf) | ((with_reducible refine AskB.dec (fun hb => ?_) (fun hb => ?_)) <;> conv => whnf) | ((with_reducible refine AskB.ndec (fun hb => ?_) (fun hb => ?_)) <;> conv => whnf) | ((with_reducible refine AskB.mk (fun hb => ?_) (fun hb => ?_)) <;> conv => whnf) | ((with_reducible refine Run.drawX rfl (by decide +kernel) ?_); conv => whnf) | ((with_reducible refine Run.drawT rfl (by decide +kernel) ?_); conv => whnf) | ((with_reducible refine Run.drawW rfl (by decide +kernel) ?_); conv => whnf) | fail)
  all_goals
    refine Run.inlineC 700 Tryd.f52 _ 14 rfl rfl rfl rfl rfl (by decide) Tryd.func52 rfl (by decide) rfl (by show 4 ≤ 14; decide) rfl rfl (fun a hsz hdf => ?_)
    refine Run.go ?_; (conv => whnf); repeat' (first | ((with_reducible refine Know.mk fun _ => ?_); conv => whnf) | ((with_reducible refine Need.mk ?_ ?_); (first | omega | (dsimp only; omega) | decide | exact bytes_le (by rfl) (by omega) | exact ⟨rfl, by omega, bytes_le (by rfl) (by omega), by omega⟩ | (refine ⟨?_, ?_⟩ <;> (rw [wrap64 (by omega) (by omega)]; omega))); conv => whnf) | ((with_reducible refine Both.mk ?_ ?_) <;> conv => whnf) | ((with_reducible refine Any.mk fun b hb => ?_); conv => whnf) | ((with_reducible refine AskB.dec (fun hb => ?_) (fun hb => ?_)) <;> conv => whnf) | ((with_reducible refine AskB.ndec (fun hb => ?_) (fun hb => ?_)) <;> conv => whnf) | ((with_reducible refine AskB.mk (fun hb => ?_) (fun hb => ?_)) <;> conv => whnf) | ((with_reducible refine Run.drawX rfl (by decide +kernel) ?_); conv => whnf) | ((with_reducible refine Run.drawT rfl (by decide +kernel) ?_); conv => whnf) | ((with_reducible refine Run.drawW rfl (by decide +kernel) ?_); conv => whnf) | fail)
    all_goals
      refine Run.back 700 (ts := []) hsz hdf (.inl rfl) (by rfl) Tryd.func52 rfl ?_
      try refine Run.holdBoxRow 3 0 90 13 (by rfl) (by rfl) (by rfl) rfl rfl rfl ?_
      refine Run.tidy [3, 4] [1, 3, 5, 90] ?_; (conv => whnf)
      refine Run.go ?_; (conv => whnf); repeat' (first | ((with_reducible refine Know.mk fun _ => ?_); conv => whnf) | ((with_reducible refine Need.mk ?_ ?_); (first | omega | (dsimp only; omega) | decide | exact bytes_le (by rfl) (by omega) | exact ⟨rfl, by omega, bytes_le (by rfl) (by omega), by omega⟩ | (refine ⟨?_, ?_⟩ <;> (rw [wrap64 (by omega) (by omega)]; omega))); conv => whnf) | ((with_reducible refine Both.mk ?_ ?_) <;> conv => whnf) | ((with_reducible refine Any.mk fun b hb => ?_); conv => whnf) | ((with_reducible refine AskB.dec (fun hb => ?_) (fun hb => ?_)) <;> conv => whnf) | ((with_reducible refine AskB.ndec (fun hb => ?_) (fun hb => ?_)) <;> conv => whnf) | ((with_reducible refine AskB.mk (fun hb => ?_) (fun hb => ?_)) <;> conv => whnf) | ((with_reducible refine Run.drawX rfl (by decide +kernel) ?_); conv => whnf) | ((with_reducible refine Run.drawT rfl (by decide +kernel) ?_); conv => whnf) | ((with_reducible refine Run.drawW rfl (by decide +kernel) ?_); conv => whnf) | fail)
  all_goals
    refine Run.inlineC 700 Tryd.f52 _ 14 rfl rfl rfl rfl rfl (by decide) Tryd.func52 rfl (by decide) rfl (by show 4 ≤ 14; decide) rfl rfl (fun a hsz hdf => ?_)
    refine Run.go ?_; (conv => whnf); repeat' (first | ((with_reducible refine Know.mk fun _ => ?_); conv => whnf) | ((with_reducible refine Need.mk ?_ ?_); (first | omega | (dsimp only; omega) | decide | exact bytes_le (by rfl) (by omega) | exact ⟨rfl, by omega, bytes_le (by rfl) (by omega), by omega⟩ | (refine ⟨?_, ?_⟩ <;> (rw [wrap64 (by omega) (by omega)]; omega))); conv => whnf) | ((with_reducible refine Both.mk ?_ ?_) <;> conv => whnf) | ((with_reducible refine Any.mk fun b hb => ?_); conv => whnf) | ((with_reducible refine AskB.dec (fun hb => ?_) (fun hb => ?_)) <;> conv => whnf) | ((with_reducible refine AskB.ndec (fun hb => ?_) (fun hb => ?_)) <;> conv => whnf) | ((with_reducible refine AskB.mk (fun hb => ?_) (fun hb => ?_)) <;> conv => whnf) | ((with_reducible refine Run.drawX rfl (by decide +kernel) ?_); conv => whnf) | ((with_reducible refine Run.drawT rfl (by decide +kernel) ?_); conv => whnf) | ((with_reducible refine Run.drawW rfl (by decide +kernel) ?_); conv => whnf) | fail)
    all_goals
      refine Run.back 700 (ts := []) hsz hdf (.inl rfl) (by rfl) Tryd.func52 rfl ?_
      try refine Run.holdBoxRow 3 0 90 13 (by rfl) (by rfl) (by rfl) rfl rfl rfl ?_
      refine Run.tidy [3, 4] [1, 3, 5, 90] ?_; (conv => whnf)
      refine Run.go ?_; (conv => whnf); repeat' (first | ((with_reducible refine Know.mk fun _ => ?_); conv => whnf) | ((with_reducible refine Need.mk ?_ ?_); (first | omega | (dsimp only; omega) | decide | exact bytes_le (by rfl) (by omega) | exact ⟨rfl, by omega, bytes_le (by rfl) (by omega), by omega⟩ | (refine ⟨?_, ?_⟩ <;> (rw [wrap64 (by omega) (by omega)]; omega))); conv => whnf) | ((with_reducible refine Both.mk ?_ ?_) <;> conv => whnf) | ((with_reducible refine Any.mk fun b hb => ?_); conv => whnf) | ((with_reducible refine AskB.dec (fun hb => ?_) (fun hb => ?_)) <;> conv => whnf) | ((with_reducible refine AskB.ndec (fun hb => ?_) (fun hb => ?_)) <;> conv => whnf) | ((with_reducible refine AskB.mk (fun hb => ?_) (fun hb => ?_)) <;> conv => whnf) | ((with_reducible refine Run.drawX rfl (by decide +kernel) ?_); conv => whnf) | ((with_reducible refine Run.drawT rfl (by decide +kernel) ?_); conv => whnf) | ((with_reducible refine Run.drawW rfl (by decide +kernel) ?_); conv => whnf) | fail)
  all_goals
    refine Run.inlineC 700 Tryd.f52 _ 14 rfl rfl rfl rfl rfl (by decide) Tryd.func52 rfl (by decide) rfl (by show 4 ≤ 14; decide) rfl rfl (fun a hsz hdf => ?_)
    refine Run.go ?_; (conv => whnf); repeat' (first | ((with_reducible refine Know.mk fun _ => ?_); conv => whnf) | ((with_reducible refine Need.mk ?_ ?_); (first | omega | (dsimp only; omega) | decide | exact bytes_le (by rfl) (by omega) | exact ⟨rfl, by omega, bytes_le (by rfl) (by omega), by omega⟩ | (refine ⟨?_, ?_⟩ <;> (rw [wrap64 (by omega) (by omega)]; omega))); conv => whnf) | ((with_reducible refine Both.mk ?_ ?_) <;> conv => whnf) | ((with_reducible refine Any.mk fun b hb => ?_); conv => whnf) | ((with_reducible refine AskB.dec (fun hb => ?_) (fun hb => ?_)) <;> conv => whnf) | ((with_reducible refine AskB.ndec (fun hb => ?_) (fun hb => ?_)) <;> conv => whnf) | ((with_reducible refine AskB.mk (fun hb => ?_) (fun hb => ?_)) <;> conv => whnf) | ((with_reducible refine Run.drawX rfl (by decide +kernel) ?_); conv => whnf) | ((with_reducible refine Run.drawT rfl (by decide +kernel) ?_); conv => whnf) | ((with_reducible refine Run.drawW rfl (by decide +kernel) ?_); conv => whnf) | fail)
    all_goals
      refine Run.back 700 (ts := []) hsz hdf (.inl rfl) (by rfl) Tryd.func52 rfl ?_
      try refine Run.holdBoxRow 3 0 90 13 (by rfl) (by rfl) (by rfl) rfl rfl rfl ?_
      refine Run.tidy [3, 4] [1, 3, 5, 90] ?_; (conv => whnf)
      refine Run.go ?_; (conv => whnf); repeat' (first | ((with_reducible refine Know.mk fun _ => ?_); conv => whnf) | ((with_reducible refine Need.mk ?_ ?_); (first | omega | (dsimp only; omega) | decide | exact bytes_le (by rfl) (by omega) | exact ⟨rfl, by omega, bytes_le (by rfl) (by omega), by omega⟩ | (refine ⟨?_, ?_⟩ <;> (rw [wrap64 (by omega) (by omega)]; omega))); conv => whnf) | ((with_reducible refine Both.mk ?_ ?_) <;> conv => whnf) | ((with_reducible refine Any.mk fun b hb => ?_); conv => whnf) | ((with_reducible refine AskB.dec (fun hb => ?_) (fun hb => ?_)) <;> conv => whnf) | ((with_reducible refine AskB.ndec (fun hb => ?_) (fun hb => ?_)) <;> conv => whnf) | ((with_reducible refine AskB.mk (fun hb => ?_) (fun hb => ?_)) <;> conv => whnf) | ((with_reducible refine Run.drawX rfl (by decide +kernel) ?_); conv => whnf) | ((with_reducible refine Run.drawT rfl (by decide +kernel) ?_); conv => whnf) | ((with_reducible refine Run.drawW rfl (by decide +kernel) ?_); conv => whnf) | fail)
  all_goals refine Run.leave (ts := [2]) (.inr ⟨_, rfl⟩) rfl Tryd.func38 rfl ?_
  all_goals unfold stepsF
  all_goals first | rw [if_pos (show (k.val : Int) % 2 = 1 by omega)] | rw [if_neg (show ¬ (k.val : Int) % 2 = 1 by omega)]
  all_goals first | rw [if_pos (show (k.val : Int) / 2 % 2 = 1 by omega)] | rw [if_neg (show ¬ (k.val : Int) / 2 % 2 = 1 by omega)]
  all_goals first | rw [if_pos (show (k.val : Int) / 8 % 2 = 1 by omega)] | rw [if_neg (show ¬ (k.val : Int) / 8 % 2 = 1 by omega)]
  all_goals
    refine Le.sl (fun i j hi hj => ?_)
    obtain rfl : j = 0 := by have : j < 1 := hj; omega
    first
    | (exact absurd (show i < 0 from hi) (Nat.not_lt_zero _))
    | (have h3 : i = 0 := by have : i < 1 := hi; omega
       subst h3; exact Le.refl _)
    | (have h3 : i = 0 ∨ i = 1 := by have : i < 2 := hi; omega
       rcases h3 with rfl | rfl <;> exact Le.refl _)
    | (have h3 : i = 0 ∨ i = 1 ∨ i = 2 := by have : i < 3 := hi; omega
       rcases h3 with rfl | rfl | rfl <;> exact Le.refl _)
end Go.Proofs.YtfodjmemdkibpaaDoor.V
