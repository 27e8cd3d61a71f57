/-
SplitTurned walked.
-/
import Derived.Test.YtfodjmemdkibpaaDoorWr
import Derived.Test.YtfodjmemdkibpaaDoorRs
namespace Go.Proofs.YtfodjmemdkibpaaDoor.V
open Go Go.Proofs Go.RowKit
set_option linter.unusedVariables false
set_option linter.unusedSimpArgs false
set_option maxRecDepth 100000
set_option maxHeartbeats 2000000
open Go Go.Proofs Go.Proofs.YtfodjmemdkibpaaDoor.V
theorem right_take (s : ByteArray) (h : (wordsOf s).2 = 0) (n : Nat) (hn : n < (wordsOf s).1.2.length) : rightB (wordsOf s).1.1 ((wordsOf s).1.2.take n) = true := by
  unfold rightB
  exact decide_eq_true (wordsOf_cut s h n hn)
theorem right_none (s : ByteArray) (hn : 0 < (wordsOf s).1.2.length) : rightB s [] = false := by
  unfold rightB
  refine decide_eq_false (fun e => ?_)
  have : s ++ catW [] = s := by simp [catW]
  rw [this] at e
  rw [e] at hn
  exact Nat.lt_irrefl 0 hn
theorem takeW {l : List Wrd} {n : Nat} (hn : n ≤ l.length) : Le (.sl n tWrd.sz (tWrd.G l)) (tWrd.L (l.take n)) := by
  have h : tWrd.L (l.take n) = .sl n tWrd.sz (tWrd.G (l.take n)) := by unfold Ty.L; rw [List.length_take, Nat.min_eq_left hn]
  rw [h]
  refine Le.sl (fun i j hi hj => ?_)
  unfold Ty.G
  rw [List.getD, List.getD, List.getElem?_take_of_lt hi]
  exact Le.refl _
theorem law6_fn (s : ByteArray) (n : Int) : Fn Tryd.prog 6 [.str s, .int .i64 n] .tt := by
  refine Fn.of Tryd.f6 _ Tryd.func6 rfl (by decide) (by show 2 ≤ _; decide) tbOk 46 rfl fun S w0 gl => ?_
  refine Run.go ?_; (conv => whnf); repeat' (first | ((with_reducible refine Know.mk fun _ => ?_); conv => whnf) | ((with_reducible refine Need.mk ?_ ?_); (first | omega | (dsimp only; omega) | decide | exact bytes_le (by rfl) (by omega) | exact ⟨rfl, by omega, bytes_le (by rfl) (by omega), by omega⟩ | (refine ⟨?_, ?_⟩ <;> (rw [wrap64 (by omega) (by omega)]; omega))); conv => whnf) | ((with_reducible refine Both.mk ?_ ?_) <;> conv => whnf) | ((with_reducible refine Any.mk fun b hb => ?_); conv => whnf) | ((with_reducible refine AskB.dec (fun hb => ?_) (fun hb => ?_)) <;> conv => whnf) | ((with_reducible refine AskB.ndec (fun hb => ?_) (fun hb => ?_)) <;> conv => whnf) | ((with_reducible refine AskB.mk (fun hb => ?_) (fun hb => ?_)) <;> conv => whnf) | ((with_reducible refine Run.drawX rfl (by decide +kernel) ?_); conv => whnf) | ((with_reducible refine Run.drawT rfl (by decide +kernel) ?_); conv => whnf) | ((with_reducible refine Run.drawW rfl (by decide +kernel) ?_); conv => whnf) | fail)
  refine Run.callBX awake14_fn rfl rfl trivial rfl rfl rfl ?_
  (conv => whnf); repeat' (first | ((with_reducible refine Know.mk fun _ => ?_); conv => whnf) | ((with_reducible refine Need.mk ?_ ?_); (first | omega | (dsimp only; omega) | decide | exact bytes_le (by rfl) (by omega) | exact ⟨rfl, by omega, bytes_le (by rfl) (by omega), by omega⟩ | (refine ⟨?_, ?_⟩ <;> (rw [wrap64 (by omega) (by omega)]; omega))); conv => whnf) | ((with_reducible refine Both.mk ?_ ?_) <;> conv => whnf) | ((with_reducible refine Any.mk fun b hb => ?_); conv => whnf) | ((with_reducible refine AskB.dec (fun hb => ?_) (fun hb => ?_)) <;> conv => whnf) | ((with_reducible refine AskB.ndec (fun hb => ?_) (fun hb => ?_)) <;> conv => whnf) | ((with_reducible refine AskB.mk (fun hb => ?_) (fun hb => ?_)) <;> conv => whnf) | ((with_reducible refine Run.drawX rfl (by decide +kernel) ?_); conv => whnf) | ((with_reducible refine Run.drawT rfl (by decide +kernel) ?_); conv => whnf) | ((with_reducible refine Run.drawW rfl (by decide +kernel) ?_); conv => whnf) | fail)
  refine Run.callBX (words15_fn s) rfl rfl ⟨Le.refl _, trivial⟩ rfl rfl rfl ?_
  have hfew := wordsOf_few s
  have hback := wordsOf_back s
  have hsize := wordsOf_size s
  have hfit := fit_of s
  have htake := right_take s
  have hnone := right_none s
  have hw2 : IntKind.i64.wrap (((wordsOf s).1.2.length : Int) - 1) = ((wordsOf s).1.2.length : Int) - 1 := wrap64 (by omega) (by omega)
  unfold wordsL
  generalize wordsOf s = W at *
  (conv => whnf); repeat' (first | ((with_reducible refine Know.mk fun _ => ?_); conv => whnf) | ((with_reducible refine Need.mk ?_ ?_); (first | omega | (dsimp only; omega) | decide | exact bytes_le (by rfl) (by omega) | exact ⟨rfl, by omega, bytes_le (by rfl) (by omega), by omega⟩ | (refine ⟨?_, ?_⟩ <;> (rw [wrap64 (by omega) (by omega)]; omega))); conv => whnf) | ((with_reducible refine Both.mk ?_ ?_) <;> conv => whnf) | ((with_reducible refine Any.mk fun b hb => ?_); conv => whnf) | ((with_reducible refine AskB.dec (fun hb => ?_) (fun hb => ?_)) <;> conv => whnf) | ((with_reducible refine AskB.ndec (fun hb => ?_) (fun hb => ?_)) <;> conv => whnf) | ((with_reducible refine AskB.mk (fun hb => ?_) (fun hb => ?_)) <;> conv => whnf) | ((with_reducible refine Run.drawX rfl (by decide +kernel) ?_); conv => whnf) | ((with_reducible refine Run.drawT rfl (by decide +kernel) ?_); conv => whnf) | ((with_reducible refine Run.drawW rfl (by decide +kernel) ?_); conv => whnf) | fail)
  all_goals try exact Run.leave (ts := [4]) (.inr ⟨_, rfl⟩) rfl Tryd.func6 rfl (Le.refl _)
  have h0 : W.2 = 0 := by assumption
  have hn0 : 0 ≤ n := by omega
  have hnl : n.toNat < W.1.2.length := by omega
  have htk := htake h0 n.toNat hnl
  have hfn := hfit
  have hft : FitW W.1.1 (W.1.2.take n.toNat) := ⟨by have h9 := hfit.1; rw [List.length_take]; omega, by have h9 := hfit.2; have h8 := catW_takeLe W.1.2 n.toNat; omega⟩
  refine Run.callBX (right19_fn W.1.1 (W.1.2.take n.toNat) hft) rfl rfl ⟨Le.refl _, ?_, trivial⟩ rfl rfl rfl ?_
  · have ht := takeW (l := W.1.2) (n := n.toNat) (by omega)
    show Le (.sl (n.toNat - 0) tWrd.sz _) _
    exact ht
  rw [htk]
  (conv => whnf); repeat' (first | ((with_reducible refine Know.mk fun _ => ?_); conv => whnf) | ((with_reducible refine Need.mk ?_ ?_); (first | omega | (dsimp only; omega) | decide | exact bytes_le (by rfl) (by omega) | exact ⟨rfl, by omega, bytes_le (by rfl) (by omega), by omega⟩ | (refine ⟨?_, ?_⟩ <;> (rw [wrap64 (by omega) (by omega)]; omega))); conv => whnf) | ((with_reducible refine Both.mk ?_ ?_) <;> conv => whnf) | ((with_reducible refine Any.mk fun b hb => ?_); conv => whnf) | ((with_reducible refine AskB.dec (fun hb => ?_) (fun hb => ?_)) <;> conv => whnf) | ((with_reducible refine AskB.ndec (fun hb => ?_) (fun hb => ?_)) <;> conv => whnf) | ((with_reducible refine AskB.mk (fun hb => ?_) (fun hb => ?_)) <;> conv => whnf) | ((with_reducible refine Run.drawX rfl (by decide +kernel) ?_); conv => whnf) | ((with_reducible refine Run.drawT rfl (by decide +kernel) ?_); conv => whnf) | ((with_reducible refine Run.drawW rfl (by decide +kernel) ?_); conv => whnf) | fail)
  · refine Run.callBX (join18_fn W.1.1 W.1.2 hfit.1 hfit.2) rfl rfl ⟨Le.refl _, Le.refl _, trivial⟩ rfl rfl rfl ?_
    rw [hback h0]
    have hs0 := hsize h0
    (conv => whnf); repeat' (first | ((with_reducible refine Know.mk fun _ => ?_); conv => whnf) | ((with_reducible refine Need.mk ?_ ?_); (first | omega | (dsimp only; omega) | decide | exact bytes_le (by rfl) (by omega) | exact ⟨rfl, by omega, bytes_le (by rfl) (by omega), by omega⟩ | (refine ⟨?_, ?_⟩ <;> (rw [wrap64 (by omega) (by omega)]; omega))); conv => whnf) | ((with_reducible refine Both.mk ?_ ?_) <;> conv => whnf) | ((with_reducible refine Any.mk fun b hb => ?_); conv => whnf) | ((with_reducible refine AskB.dec (fun hb => ?_) (fun hb => ?_)) <;> conv => whnf) | ((with_reducible refine AskB.ndec (fun hb => ?_) (fun hb => ?_)) <;> conv => whnf) | ((with_reducible refine AskB.mk (fun hb => ?_) (fun hb => ?_)) <;> conv => whnf) | ((with_reducible refine Run.drawX rfl (by decide +kernel) ?_); conv => whnf) | ((with_reducible refine Run.drawT rfl (by decide +kernel) ?_); conv => whnf) | ((with_reducible refine Run.drawW rfl (by decide +kernel) ?_); conv => whnf) | fail)
    refine Run.callBX (right19_fn s [] ⟨by simp, by simp [catW]; omega⟩) rfl rfl ⟨Le.refl _, tWrd.nil, trivial⟩ rfl rfl rfl ?_
    rw [hnone (by omega)]
    (conv => whnf); repeat' (first | ((with_reducible refine Know.mk fun _ => ?_); conv => whnf) | ((with_reducible refine Need.mk ?_ ?_); (first | omega | (dsimp only; omega) | decide | exact bytes_le (by rfl) (by omega) | exact ⟨rfl, by omega, bytes_le (by rfl) (by omega), by omega⟩ | (refine ⟨?_, ?_⟩ <;> (rw [wrap64 (by omega) (by omega)]; omega))); conv => whnf) | ((with_reducible refine Both.mk ?_ ?_) <;> conv => whnf) | ((with_reducible refine Any.mk fun b hb => ?_); conv => whnf) | ((with_reducible refine AskB.dec (fun hb => ?_) (fun hb => ?_)) <;> conv => whnf) | ((with_reducible refine AskB.ndec (fun hb => ?_) (fun hb => ?_)) <;> conv => whnf) | ((with_reducible refine AskB.mk (fun hb => ?_) (fun hb => ?_)) <;> conv => whnf) | ((with_reducible refine Run.drawX rfl (by decide +kernel) ?_); conv => whnf) | ((with_reducible refine Run.drawT rfl (by decide +kernel) ?_); conv => whnf) | ((with_reducible refine Run.drawW rfl (by decide +kernel) ?_); conv => whnf) | fail)
    exact Run.leave (ts := [4]) (.inr ⟨_, rfl⟩) rfl Tryd.func6 rfl (Le.tt' rfl)
  · exact absurd hb (by decide)
end Go.Proofs.YtfodjmemdkibpaaDoor.V
