/-
siglumref19.Telling walked.
-/
import Derived.Test.YtnadacaoehpdnaaDoorWe
namespace Go.Proofs.YtnadacaoehpdnaaDoor.V
open Go Go.Proofs Go.RowKit
set_option linter.unusedVariables false
set_option linter.unusedSimpArgs false
set_option maxRecDepth 100000
set_option maxHeartbeats 2000000
open Go Go.Proofs Go.Proofs.YtnadacaoehpdnaaDoor.V
theorem tell35_fn (m : List (List Int)) : Fn Tryd.prog 35 [mxA m] (tellL m) := by
  refine Fn.of Tryd.f35 _ Tryd.func35 rfl (by decide) (by show 1 ≤ _; decide) tbOk 56 rfl fun S w0 gl => ?_
  unfold mxA
  refine Run.go ?_; (conv => whnf); repeat' (first | ((with_reducible refine Know.mk fun _ => ?_); conv => whnf) | ((with_reducible refine Need.mk ?_ ?_); (first | omega | (dsimp only; omega) | decide | exact bytes_le (by rfl) (by omega) | exact ⟨rfl, by omega, bytes_le (by rfl) (by omega), by omega⟩ | (refine ⟨?_, ?_⟩ <;> (rw [wrap64 (by omega) (by omega)]; omega))); conv => whnf) | ((with_reducible refine Both.mk ?_ ?_) <;> conv => whnf) | ((with_reducible refine Any.mk fun b hb => ?_); conv => whnf) | ((with_reducible refine AskB.dec (fun hb => ?_) (fun hb => ?_)) <;> conv => whnf) | ((with_reducible refine AskB.ndec (fun hb => ?_) (fun hb => ?_)) <;> conv => whnf) | ((with_reducible refine AskB.mk (fun hb => ?_) (fun hb => ?_)) <;> conv => whnf) | ((with_reducible refine Run.drawX rfl (by decide +kernel) ?_); conv => whnf) | ((with_reducible refine Run.drawT rfl (by decide +kernel) ?_); conv => whnf) | ((with_reducible refine Run.drawW rfl (by decide +kernel) ?_); conv => whnf) | fail)
  refine Run.callAX (check36_fn m) rfl rfl ⟨?_, trivial⟩ rfl rfl rfl ?_
  · refine Le.agg (n := 1) (fun j hj => ?_)
    have hj0 : j = 0 := by omega
    subst hj0; exact Le.refl _
  have hpos : codeM m = 0 → 0 < m.length := fun h => (codeM_zero h).1
  (conv => whnf); repeat' (first | ((with_reducible refine Know.mk fun _ => ?_); conv => whnf) | ((with_reducible refine Need.mk ?_ ?_); (first | omega | (dsimp only; omega) | decide | exact bytes_le (by rfl) (by omega) | exact ⟨rfl, by omega, bytes_le (by rfl) (by omega), by omega⟩ | (refine ⟨?_, ?_⟩ <;> (rw [wrap64 (by omega) (by omega)]; omega))); conv => whnf) | ((with_reducible refine Both.mk ?_ ?_) <;> conv => whnf) | ((with_reducible refine Any.mk fun b hb => ?_); conv => whnf) | ((with_reducible refine AskB.dec (fun hb => ?_) (fun hb => ?_)) <;> conv => whnf) | ((with_reducible refine AskB.ndec (fun hb => ?_) (fun hb => ?_)) <;> conv => whnf) | ((with_reducible refine AskB.mk (fun hb => ?_) (fun hb => ?_)) <;> conv => whnf) | ((with_reducible refine Run.drawX rfl (by decide +kernel) ?_); conv => whnf) | ((with_reducible refine Run.drawT rfl (by decide +kernel) ?_); conv => whnf) | ((with_reducible refine Run.drawW rfl (by decide +kernel) ?_); conv => whnf) | fail)
  · have hok := codeM_zero hb
    have hm12 := hok.2.1
    have hm1 := hok.1
    have h0 := (hok.2.2 0 hok.1).2.1
    have hrow : ∀ i, i < m.length → (m.getD i tRow.z).length = (m.getD 0 tRow.z).length := fun i hi => (hok.2.2 i hi).1
    refine Run.holdNil 4 90 3 1 (tI.G []) rfl ?_
    refine Run.loop [1, 4] (fun (s : Nat) => [(5, .int .i64 (s : Int))]) (fun s => [(1, .box 59 [tRow.L m]), (90, tI.R 3 (tellN m s))]) (fun s => s ≤ (m.getD 0 tRow.z).length) (fun s => (m.getD 0 tRow.z).length - s) 0 (Nat.zero_le _) ⟨Le.refl _, trivial⟩ ⟨MOle.refl _, MOle.refl _, trivial⟩ ?_
    intro s hs IH
    have hw1 : IntKind.i64.wrap ((s : Int) + 1) = ((s + 1 : Nat) : Int) := wrap64 (by omega) (by omega)
    have htl := tellN_len m s
    refine Run.go ?_; (conv => whnf); repeat' (first | ((with_reducible refine Know.mk fun _ => ?_); conv => whnf) | ((with_reducible refine Need.mk ?_ ?_); (first | omega | (dsimp only; omega) | decide | exact bytes_le (by rfl) (by omega) | exact ⟨rfl, by omega, bytes_le (by rfl) (by omega), by omega⟩ | (refine ⟨?_, ?_⟩ <;> (rw [wrap64 (by omega) (by omega)]; omega))); conv => whnf) | ((with_reducible refine Both.mk ?_ ?_) <;> conv => whnf) | ((with_reducible refine Any.mk fun b hb => ?_); conv => whnf) | ((with_reducible refine AskB.dec (fun hb => ?_) (fun hb => ?_)) <;> conv => whnf) | ((with_reducible refine AskB.ndec (fun hb => ?_) (fun hb => ?_)) <;> conv => whnf) | ((with_reducible refine AskB.mk (fun hb => ?_) (fun hb => ?_)) <;> conv => whnf) | ((with_reducible refine Run.drawX rfl (by decide +kernel) ?_); conv => whnf) | ((with_reducible refine Run.drawT rfl (by decide +kernel) ?_); conv => whnf) | ((with_reducible refine Run.drawW rfl (by decide +kernel) ?_); conv => whnf) | fail)
    · have hsl : s < (m.getD 0 tRow.z).length := by simp only [Int.toNat_zero] at *; omega
      refine Run.loop [1, 4, 5] (fun (x : Nat) => [(6, .int .i64 (twN (fun k => cntN m s m.length (k : Int)) x : Nat)), (7, .int .i64 (x : Int))]) (fun x => [(1, .box 59 [tRow.L m]), (90, tI.R 3 (tellN m s))]) (fun x => x ≤ 12) (fun x => 12 - x) 0 (Nat.zero_le _) ⟨Le.refl _, Le.refl _, trivial⟩ ⟨MOle.refl _, MOle.refl _, trivial⟩ ?_
      intro x hx IHx
      have hw2 : IntKind.i64.wrap ((x : Int) + 1) = ((x + 1 : Nat) : Int) := wrap64 (by omega) (by omega)
      have htw := twN_le (fun k => cntN m s m.length (k : Int)) x
      have hw3 : IntKind.i64.wrap (((twN (fun k => cntN m s m.length (k : Int)) x : Nat) : Int) + 1) = ((twN (fun k => cntN m s m.length (k : Int)) x + 1 : Nat) : Int) := wrap64 (by omega) (by omega)
      refine Run.go ?_; (conv => whnf); repeat' (first | ((with_reducible refine Know.mk fun _ => ?_); conv => whnf) | ((with_reducible refine Need.mk ?_ ?_); (first | omega | (dsimp only; omega) | decide | exact bytes_le (by rfl) (by omega) | exact ⟨rfl, by omega, bytes_le (by rfl) (by omega), by omega⟩ | (refine ⟨?_, ?_⟩ <;> (rw [wrap64 (by omega) (by omega)]; omega))); conv => whnf) | ((with_reducible refine Both.mk ?_ ?_) <;> conv => whnf) | ((with_reducible refine Any.mk fun b hb => ?_); conv => whnf) | ((with_reducible refine AskB.dec (fun hb => ?_) (fun hb => ?_)) <;> conv => whnf) | ((with_reducible refine AskB.ndec (fun hb => ?_) (fun hb => ?_)) <;> conv => whnf) | ((with_reducible refine AskB.mk (fun hb => ?_) (fun hb => ?_)) <;> conv => whnf) | ((with_reducible refine Run.drawX rfl (by decide +kernel) ?_); conv => whnf) | ((with_reducible refine Run.drawT rfl (by decide +kernel) ?_); conv => whnf) | ((with_reducible refine Run.drawW rfl (by decide +kernel) ?_); conv => whnf) | fail)
      · refine Run.loop [1, 4, 5, 6, 7] (fun (i : Nat) => [(8, .int .i64 (cntN m s i (x : Int) : Nat)), (9, .int .i64 (i : Int))]) (fun i => [(1, .box 59 [tRow.L m]), (90, tI.R 3 (tellN m s))]) (fun i => i ≤ m.length) (fun i => m.length - i) 0 (Nat.zero_le _) ⟨Le.refl _, Le.refl _, trivial⟩ ⟨MOle.refl _, MOle.refl _, trivial⟩ ?_
        intro i hi IHi
        have hw4 : IntKind.i64.wrap ((i : Int) + 1) = ((i + 1 : Nat) : Int) := wrap64 (by omega) (by omega)
        have hcle := cntN_le m s i (x : Int)
        have hw5 : IntKind.i64.wrap (((cntN m s i (x : Int) : Nat) : Int) + 1) = ((cntN m s i (x : Int) + 1 : Nat) : Int) := wrap64 (by omega) (by omega)
        have hrl : (i : Int) < (m.length : Int) → (s : Int) < ((m.getD (↑i : Int).toNat tRow.z).length : Int) := fun h => by
          have := hrow i (by omega)
          simp only [Int.toNat_natCast]; omega
        refine Run.go ?_; (conv => whnf); repeat' (first | ((with_reducible refine Know.mk fun _ => ?_); conv => whnf) | ((with_reducible refine Need.mk ?_ ?_); (first | omega | (dsimp only; omega) | decide | exact bytes_le (by rfl) (by omega) | exact ⟨rfl, by omega, bytes_le (by rfl) (by omega), by omega⟩ | (refine ⟨?_, ?_⟩ <;> (rw [wrap64 (by omega) (by omega)]; omega))); conv => whnf) | ((with_reducible refine Both.mk ?_ ?_) <;> conv => whnf) | ((with_reducible refine Any.mk fun b hb => ?_); conv => whnf) | ((with_reducible refine AskB.dec (fun hb => ?_) (fun hb => ?_)) <;> conv => whnf) | ((with_reducible refine AskB.ndec (fun hb => ?_) (fun hb => ?_)) <;> conv => whnf) | ((with_reducible refine AskB.mk (fun hb => ?_) (fun hb => ?_)) <;> conv => whnf) | ((with_reducible refine Run.drawX rfl (by decide +kernel) ?_); conv => whnf) | ((with_reducible refine Run.drawT rfl (by decide +kernel) ?_); conv => whnf) | ((with_reducible refine Run.drawW rfl (by decide +kernel) ?_); conv => whnf) | fail)
        · refine Run.to _ _ ?_ ?_ (IHi (i + 1) (by omega) (by omega))
          · refine ⟨Le.refl _, Le.refl _, Le.refl _, Le.refl _, Le.refl _, Le.int ?_, Le.int hw4, trivial⟩
            rw [hw5, cntN, if_pos (by simp only [Int.toNat_natCast] at hb; exact hb)]
          · exact ⟨MOle.refl _, MOle.refl _, trivial⟩
        · refine Run.to _ _ ?_ ?_ (IHi (i + 1) (by omega) (by omega))
          · refine ⟨Le.refl _, Le.refl _, Le.refl _, Le.refl _, Le.refl _, Le.int ?_, Le.int hw4, trivial⟩
            rw [cntN, if_neg (by simp only [Int.toNat_natCast] at hb; exact hb)]; rfl
          · exact ⟨MOle.refl _, MOle.refl _, trivial⟩
        · have hie : i = m.length := by omega
          subst hie
          refine Run.to _ _ ?_ ?_ (IHx (x + 1) (by omega) (by omega))
          · refine ⟨Le.refl _, Le.refl _, Le.refl _, Le.int ?_, Le.int hw2, trivial⟩
            rw [hw3, twN, if_pos (by omega)]
          · exact ⟨MOle.refl _, MOle.refl _, trivial⟩
        · have hie : i = m.length := by omega
          subst hie
          refine Run.to _ _ ?_ ?_ (IHx (x + 1) (by omega) (by omega))
          · refine ⟨Le.refl _, Le.refl _, Le.refl _, Le.int ?_, Le.int hw2, trivial⟩
            rw [twN, if_neg (by omega)]; rfl
          · exact ⟨MOle.refl _, MOle.refl _, trivial⟩
      · have hxe : x = 12 := by omega
        subst hxe
        have ht : tells m s := by unfold tells; omega
        refine Run.hold 4 90 rfl rfl rfl ?_
        refine Run.to _ _ ?_ ?_ (IH (s + 1) (by omega) (by omega))
        · exact ⟨Le.refl _, Le.refl _, Le.int hw1, trivial⟩
        · refine ⟨MOle.refl _, ?_, trivial⟩
          rw [tellN, if_pos ht]
          exact tI.push 3 (tellN m s) (s : Int) _ (fun j hj => by
            have hj0 : j = 0 := by have : j < 1 := hj; omega
            subst hj0; exact Le.refl _)
      · have hxe : x = 12 := by omega
        subst hxe
        have ht : ¬ tells m s := by unfold tells; omega
        refine Run.to _ _ ?_ ?_ (IH (s + 1) (by omega) (by omega))
        · exact ⟨Le.refl _, Le.refl _, Le.int hw1, trivial⟩
        · refine ⟨MOle.refl _, ?_, trivial⟩
          rw [tellN, if_neg ht, List.append_nil]
          exact MOle.refl _
    · refine Run.leave (ts := [2,3]) (.inr ⟨_, rfl⟩) rfl Tryd.func35 rfl (resT ⟨?_, Le.int (codeM_yes hok).symm, trivial⟩)
      have hse : s = (m.getD 0 tRow.z).length := by simp only [Int.toNat_zero] at *; omega
      subst hse
      unfold tellA; rw [if_pos hok]
      exact Le.refl _
  · have hno : ¬ OkM m := fun h => hb (codeM_yes h)
    refine Run.leave (ts := [2,3]) (.inr ⟨_, rfl⟩) rfl Tryd.func35 rfl (resT ⟨?_, Le.int (codeM_no hno).symm, trivial⟩)
    unfold tellA; rw [if_neg hno]
    exact Le.nils _ _
end Go.Proofs.YtnadacaoehpdnaaDoor.V
