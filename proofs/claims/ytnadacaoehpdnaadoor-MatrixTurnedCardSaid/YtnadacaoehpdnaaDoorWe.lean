/-
matrix.Telling walked.
-/
import Derived.Test.YtnadacaoehpdnaaDoorWd
import Derived.Test.YtnadacaoehpdnaaDoorRb
namespace Go.Proofs.YtnadacaoehpdnaaDoor.V
open Go Go.Proofs Go.RowKit
set_option linter.unusedVariables false
set_option linter.unusedSimpArgs false
set_option maxRecDepth 100000
set_option maxHeartbeats 2000000
open Go Go.Proofs Go.Proofs.YtnadacaoehpdnaaDoor.V
noncomputable def tellL (m : List (List Int)) : AV := tupL [tI.L (tellA m), .int .i64 (codeM m)]
theorem tell34_fn (m : List (List Int)) : Fn Tryd.prog 34 [mxA m] (tellL m) := by
  refine Fn.of Tryd.f34 _ Tryd.func34 rfl (by decide) (by show 1 ≤ _; decide) tbOk 62 rfl fun S w0 gl => ?_
  unfold mxA
  refine Run.go ?_; (conv => whnf); repeat' (first | ((with_reducible refine Know.mk fun _ => ?_); conv => whnf) | ((with_reducible refine Need.mk ?_ ?_); (first | omega | (dsimp only; omega) | decide | exact bytes_le (by rfl) (by omega) | exact ⟨rfl, by omega, bytes_le (by rfl) (by omega), by omega⟩ | (refine ⟨?_, ?_⟩ <;> (rw [wrap64 (by omega) (by omega)]; omega))); conv => whnf) | ((with_reducible refine Both.mk ?_ ?_) <;> conv => whnf) | ((with_reducible refine Any.mk fun b hb => ?_); conv => whnf) | ((with_reducible refine AskB.dec (fun hb => ?_) (fun hb => ?_)) <;> conv => whnf) | ((with_reducible refine AskB.ndec (fun hb => ?_) (fun hb => ?_)) <;> conv => whnf) | ((with_reducible refine AskB.mk (fun hb => ?_) (fun hb => ?_)) <;> conv => whnf) | ((with_reducible refine Run.drawX rfl (by decide +kernel) ?_); conv => whnf) | ((with_reducible refine Run.drawT rfl (by decide +kernel) ?_); conv => whnf) | ((with_reducible refine Run.drawW rfl (by decide +kernel) ?_); conv => whnf) | fail)
  refine Run.callAX (check32_fn m) rfl rfl ⟨?_, trivial⟩ rfl rfl rfl ?_
  · refine Le.agg (n := 1) (fun j hj => ?_)
    have hj0 : j = 0 := by omega
    subst hj0; exact Le.refl _
  have hpos : codeM m = 0 → 0 < m.length := fun h => (codeM_zero h).1
  (conv => whnf); repeat' (first | ((with_reducible refine Know.mk fun _ => ?_); conv => whnf) | ((with_reducible refine Need.mk ?_ ?_); (first | omega | (dsimp only; omega) | decide | exact bytes_le (by rfl) (by omega) | exact ⟨rfl, by omega, bytes_le (by rfl) (by omega), by omega⟩ | (refine ⟨?_, ?_⟩ <;> (rw [wrap64 (by omega) (by omega)]; omega))); conv => whnf) | ((with_reducible refine Both.mk ?_ ?_) <;> conv => whnf) | ((with_reducible refine Any.mk fun b hb => ?_); conv => whnf) | ((with_reducible refine AskB.dec (fun hb => ?_) (fun hb => ?_)) <;> conv => whnf) | ((with_reducible refine AskB.ndec (fun hb => ?_) (fun hb => ?_)) <;> conv => whnf) | ((with_reducible refine AskB.mk (fun hb => ?_) (fun hb => ?_)) <;> conv => whnf) | ((with_reducible refine Run.drawX rfl (by decide +kernel) ?_); conv => whnf) | ((with_reducible refine Run.drawT rfl (by decide +kernel) ?_); conv => whnf) | ((with_reducible refine Run.drawW rfl (by decide +kernel) ?_); conv => whnf) | fail)
  · have hok := codeM_zero hb
    have hm12 := hok.2.1
    have h0 := (hok.2.2 0 hok.1).2.1
    have hrow : ∀ i, i < m.length → (m.getD i tRow.z).length = (m.getD 0 tRow.z).length := fun i hi => (hok.2.2 i hi).1
    refine Run.holdNil 5 90 3 1 (tI.G []) rfl ?_
    refine Run.loop [1, 5, 20] (fun (s : Nat) => [(21, .int .i64 (s : Int))]) (fun s => [(1, .box 59 [tRow.L m]), (90, tI.R 3 (tellN m s))]) (fun s => s ≤ (m.getD 0 tRow.z).length) (fun s => (m.getD 0 tRow.z).length - s) 0 (Nat.zero_le _) ⟨Le.refl _, trivial⟩ ⟨MOle.refl _, MOle.refl _, trivial⟩ ?_
    intro s hs IH
    have hw1 : IntKind.i64.wrap ((s : Int) + 1) = ((s + 1 : Nat) : Int) := wrap64 (by omega) (by omega)
    have htl := tellN_len m s
    refine Run.go ?_; (conv => whnf); repeat' (first | ((with_reducible refine Know.mk fun _ => ?_); conv => whnf) | ((with_reducible refine Need.mk ?_ ?_); (first | omega | (dsimp only; omega) | decide | exact bytes_le (by rfl) (by omega) | exact ⟨rfl, by omega, bytes_le (by rfl) (by omega), by omega⟩ | (refine ⟨?_, ?_⟩ <;> (rw [wrap64 (by omega) (by omega)]; omega))); conv => whnf) | ((with_reducible refine Both.mk ?_ ?_) <;> conv => whnf) | ((with_reducible refine Any.mk fun b hb => ?_); conv => whnf) | ((with_reducible refine AskB.dec (fun hb => ?_) (fun hb => ?_)) <;> conv => whnf) | ((with_reducible refine AskB.ndec (fun hb => ?_) (fun hb => ?_)) <;> conv => whnf) | ((with_reducible refine AskB.mk (fun hb => ?_) (fun hb => ?_)) <;> conv => whnf) | ((with_reducible refine Run.drawX rfl (by decide +kernel) ?_); conv => whnf) | ((with_reducible refine Run.drawT rfl (by decide +kernel) ?_); conv => whnf) | ((with_reducible refine Run.drawW rfl (by decide +kernel) ?_); conv => whnf) | fail)
    · have hsl : s < (m.getD 0 tRow.z).length := by simp only [Int.toNat_zero] at *; omega
      refine Run.hide 7 7 rfl ?_
      refine Run.loop [1, 5, 6, 7, 20, 21, 25, 26] (fun (i : Nat) => [(8, .int .i64 (twN (fun k => cntN m s i (k : Int)) 12 : Nat)), (27, .int .i64 (i : Int))]) (fun i => [(1, .box 59 [tRow.L m]), (7, .box 100 (arrL 12 (fun k => (cntN m s i (k : Int) : Nat)))), (90, tI.R 3 (tellN m s))]) (fun i => i ≤ m.length) (fun i => m.length - i) 0 (Nat.zero_le _) ⟨Le.refl _, Le.refl _, trivial⟩ ⟨MOle.refl _, MOle.refl _, MOle.refl _, trivial⟩ ?_
      intro i hi IHi
      have hw2 : IntKind.i64.wrap ((i : Int) + 1) = ((i + 1 : Nat) : Int) := wrap64 (by omega) (by omega)
      have htw := twN_le (fun k => cntN m s i (k : Int)) 12
      have hw3 : IntKind.i64.wrap (((twN (fun k => cntN m s i (k : Int)) 12 : Nat) : Int) + 1) = ((twN (fun k => cntN m s i (k : Int)) 12 + 1 : Nat) : Int) := wrap64 (by omega) (by omega)
      have hrl : (i : Int) < (m.length : Int) → (s : Int) < ((m.getD (↑i : Int).toNat tRow.z).length : Int) := fun h => by
        have := hrow i (by omega)
        simp only [Int.toNat_natCast]; omega
      refine Run.go ?_; (conv => whnf); repeat' (first | ((with_reducible refine Know.mk fun _ => ?_); conv => whnf) | ((with_reducible refine Need.mk ?_ ?_); (first | omega | (dsimp only; omega) | decide | exact bytes_le (by rfl) (by omega) | exact ⟨rfl, by omega, bytes_le (by rfl) (by omega), by omega⟩ | (refine ⟨?_, ?_⟩ <;> (rw [wrap64 (by omega) (by omega)]; omega))); conv => whnf) | ((with_reducible refine Both.mk ?_ ?_) <;> conv => whnf) | ((with_reducible refine Any.mk fun b hb => ?_); conv => whnf) | ((with_reducible refine AskB.dec (fun hb => ?_) (fun hb => ?_)) <;> conv => whnf) | ((with_reducible refine AskB.ndec (fun hb => ?_) (fun hb => ?_)) <;> conv => whnf) | ((with_reducible refine AskB.mk (fun hb => ?_) (fun hb => ?_)) <;> conv => whnf) | ((with_reducible refine Run.drawX rfl (by decide +kernel) ?_); conv => whnf) | ((with_reducible refine Run.drawT rfl (by decide +kernel) ?_); conv => whnf) | ((with_reducible refine Run.drawW rfl (by decide +kernel) ?_); conv => whnf) | fail)
      · refine Run.to _ _ ?_ ?_ (IHi (i + 1) (by omega) (by omega))
        · refine ⟨Le.refl _, Le.refl _, Le.refl _, Le.refl _, Le.refl _, Le.refl _, Le.refl _, Le.refl _, Le.int ?_, Le.int hw2, trivial⟩
          congr 1
          refine twN_congr (fun k _ => ?_)
          rw [cntN, if_neg (by simp only [Int.toNat_natCast] at hb; omega)]; rfl
        · refine ⟨MOle.refl _, ?_, MOle.refl _, trivial⟩
          have : (fun k : Nat => ((cntN m s i (k : Int) : Nat) : Int)) = (fun k : Nat => ((cntN m s (i + 1) (k : Int) : Nat) : Int)) := funext fun k => by
            rw [cntN, if_neg (by simp only [Int.toNat_natCast] at hb; omega)]; rfl
          rw [this]; exact MOle.refl _
      · have hil : i < m.length := by omega
        have hxr := (hok.2.2 i hil).2.2 s (by rw [hrow i hil]; exact hsl)
        have hx0 : 0 ≤ (m.getD i tRow.z).getD s tI.z := by simp only [Int.toNat_natCast] at hb; omega
        obtain ⟨K, hK⟩ : ∃ K : Nat, (m.getD i tRow.z).getD s tI.z = (K : Int) := ⟨((m.getD i tRow.z).getD s tI.z).toNat, by omega⟩
        have hK12 : K < 12 := by omega
        have hcle := cntN_le m s i (K : Int)
        have hwc : IntKind.i64.wrap (((cntN m s i (K : Int) : Nat) : Int) + 1) = ((cntN m s i (K : Int) + 1 : Nat) : Int) := wrap64 (by omega) (by omega)
        have hcnt : ∀ j : Nat, cntN m s (i + 1) (j : Int) = cntN m s i (j : Int) + if j = K then 1 else 0 := fun j => by
          rw [cntN, hK]
          by_cases e : j = K
          · subst e; rw [if_pos rfl, if_pos rfl]
          · rw [if_neg (by omega), if_neg e]
        refine Run.arrAddr (i := 4) (rest := List.range' 5 4) (x := .tmp 7) (y := .tmp 39) (t := 100) (T := 100) (len := 12) (e := 3) (id := 7) (l := arrL 12 (fun k => (cntN m s i (k : Int) : Nat))) (K : Int) rfl rfl rfl rfl rfl rfl (by show AV.int .i64 ((m.getD i tRow.z).getD s tI.z) = _; rw [hK]) rfl rfl rfl ⟨by omega, by omega⟩ ?_
        refine Run.loadBox (i := 5) (rest := List.range' 6 3) (x := .tmp 40) (T := 100) (id := 7) (off := K) (l := arrL 12 (fun k => (cntN m s i (k : Int) : Nat))) rfl rfl rfl rfl rfl rfl (arrL_at hK12) rfl ?_
        refine Run.go ?_; (conv => whnf); repeat' (first | ((with_reducible refine Know.mk fun _ => ?_); conv => whnf) | ((with_reducible refine Need.mk ?_ ?_); (first | omega | (dsimp only; omega) | decide | exact bytes_le (by rfl) (by omega) | exact ⟨rfl, by omega, bytes_le (by rfl) (by omega), by omega⟩ | (refine ⟨?_, ?_⟩ <;> (rw [wrap64 (by omega) (by omega)]; omega))); conv => whnf) | ((with_reducible refine Both.mk ?_ ?_) <;> conv => whnf) | ((with_reducible refine Any.mk fun b hb => ?_); conv => whnf) | ((with_reducible refine AskB.dec (fun hb => ?_) (fun hb => ?_)) <;> conv => whnf) | ((with_reducible refine AskB.ndec (fun hb => ?_) (fun hb => ?_)) <;> conv => whnf) | ((with_reducible refine AskB.mk (fun hb => ?_) (fun hb => ?_)) <;> conv => whnf) | ((with_reducible refine Run.drawX rfl (by decide +kernel) ?_); conv => whnf) | ((with_reducible refine Run.drawT rfl (by decide +kernel) ?_); conv => whnf) | ((with_reducible refine Run.drawW rfl (by decide +kernel) ?_); conv => whnf) | fail)
        refine Run.arrAddr (i := 7) (rest := List.range' 8 1) (x := .tmp 7) (y := .tmp 39) (t := 100) (T := 100) (len := 12) (e := 3) (id := 7) (l := arrL 12 (fun k => (cntN m s i (k : Int) : Nat))) (K : Int) rfl rfl rfl rfl rfl rfl (by show AV.int .i64 ((m.getD i tRow.z).getD s tI.z) = _; rw [hK]) rfl rfl rfl ⟨by omega, by omega⟩ ?_
        refine Run.storeBox (i := 8) (rest := []) (x := .tmp 43) (y := .tmp 42) (T := 100) (id := 7) (off := K) (l := arrL 12 (fun k => (cntN m s i (k : Int) : Nat))) (kd := .i64) (n := IntKind.i64.wrap (((cntN m s i (K : Int) : Nat) : Int) + 1)) rfl rfl rfl rfl rfl rfl rfl (by rw [arrL_len]; exact hK12) rfl rfl ?_
        refine Run.to [(1, .box 1 0), (5, .row 90), (6, .int .i64 (s : Int)), (7, .obj 7), (8, .int .i64 (twN (fun k => cntN m s i (k : Int)) 12 : Nat)), (10, tI.L (m.getD i tRow.z)), (20, .int .i64 ((m.getD (Int.toNat 0) tRow.z).length : Int)), (21, .int .i64 (s : Int)), (25, tRow.L m), (26, .int .i64 (m.length : Int)), (27, .int .i64 (i : Int))]
          [(1, .box 59 [tRow.L m]), (7, .box 100 (arrL 12 (fun k => (cntN m s (i + 1) (k : Int) : Nat)))), (90, tI.R 3 (tellN m s))] ⟨Le.refl _, Le.refl _, Le.refl _, Le.refl _, Le.refl _, Le.refl _, Le.refl _, Le.refl _, Le.refl _, Le.refl _, Le.refl _, trivial⟩ ⟨MOle.refl _, arrL_set hK12 (fun j _ => ?_), MOle.refl _, trivial⟩ ?_
        · rw [hcnt j]
          by_cases e : j = K
          · subst e; rw [if_pos rfl, if_pos rfl, hwc]
          · rw [if_neg e, if_neg e]; rfl
        have hslr : (s : Int) < ((m.getD i tRow.z).length : Int) := by rw [hrow i hil]; omega
        have htwn : twN (fun k => cntN m s (i + 1) (k : Int)) 12 = twN (fun k => cntN m s i (k : Int)) 12 + if cntN m s i (K : Int) + 1 = 2 then 1 else 0 :=
          twN_step hK12 (by show cntN m s (i + 1) (K : Int) = _; rw [hcnt K, if_pos rfl]) (fun j hj => by show cntN m s (i + 1) (j : Int) = _; rw [hcnt j, if_neg hj]; rfl)
        refine Run.go ?_; (conv => whnf); repeat' (first | ((with_reducible refine Know.mk fun _ => ?_); conv => whnf) | ((with_reducible refine Need.mk ?_ ?_); (first | omega | (dsimp only; omega) | decide | exact bytes_le (by rfl) (by omega) | exact ⟨rfl, by omega, bytes_le (by rfl) (by omega), by omega⟩ | (refine ⟨?_, ?_⟩ <;> (rw [wrap64 (by omega) (by omega)]; omega))); conv => whnf) | ((with_reducible refine Both.mk ?_ ?_) <;> conv => whnf) | ((with_reducible refine Any.mk fun b hb => ?_); conv => whnf) | ((with_reducible refine AskB.dec (fun hb => ?_) (fun hb => ?_)) <;> conv => whnf) | ((with_reducible refine AskB.ndec (fun hb => ?_) (fun hb => ?_)) <;> conv => whnf) | ((with_reducible refine AskB.mk (fun hb => ?_) (fun hb => ?_)) <;> conv => whnf) | ((with_reducible refine Run.drawX rfl (by decide +kernel) ?_); conv => whnf) | ((with_reducible refine Run.drawT rfl (by decide +kernel) ?_); conv => whnf) | ((with_reducible refine Run.drawW rfl (by decide +kernel) ?_); conv => whnf) | fail)
        refine Run.arrAddr (i := 4) (rest := List.range' 5 2) (x := .tmp 7) (y := .tmp 47) (t := 100) (T := 100) (len := 12) (e := 3) (id := 7) (l := arrL 12 (fun k => (cntN m s (i + 1) (k : Int) : Nat))) (K : Int) rfl rfl rfl rfl rfl rfl (by show AV.int .i64 ((m.getD i tRow.z).getD s tI.z) = _; rw [hK]) rfl rfl rfl ⟨by omega, by omega⟩ ?_
        refine Run.loadBox (i := 5) (rest := List.range' 6 1) (x := .tmp 48) (T := 100) (id := 7) (off := K) (l := arrL 12 (fun k => (cntN m s (i + 1) (k : Int) : Nat))) rfl rfl rfl rfl rfl rfl (arrL_at hK12) rfl ?_
        have hcK := hcnt K
        rw [if_pos rfl] at hcK
        refine Run.go ?_; (conv => whnf); repeat' (first | ((with_reducible refine Know.mk fun _ => ?_); conv => whnf) | ((with_reducible refine Need.mk ?_ ?_); (first | omega | (dsimp only; omega) | decide | exact bytes_le (by rfl) (by omega) | exact ⟨rfl, by omega, bytes_le (by rfl) (by omega), by omega⟩ | (refine ⟨?_, ?_⟩ <;> (rw [wrap64 (by omega) (by omega)]; omega))); conv => whnf) | ((with_reducible refine Both.mk ?_ ?_) <;> conv => whnf) | ((with_reducible refine Any.mk fun b hb => ?_); conv => whnf) | ((with_reducible refine AskB.dec (fun hb => ?_) (fun hb => ?_)) <;> conv => whnf) | ((with_reducible refine AskB.ndec (fun hb => ?_) (fun hb => ?_)) <;> conv => whnf) | ((with_reducible refine AskB.mk (fun hb => ?_) (fun hb => ?_)) <;> conv => whnf) | ((with_reducible refine Run.drawX rfl (by decide +kernel) ?_); conv => whnf) | ((with_reducible refine Run.drawT rfl (by decide +kernel) ?_); conv => whnf) | ((with_reducible refine Run.drawW rfl (by decide +kernel) ?_); conv => whnf) | fail)
        · refine Run.to _ _ ?_ ?_ (IHi (i + 1) (by omega) (by omega))
          · refine ⟨Le.refl _, Le.refl _, Le.refl _, Le.refl _, Le.refl _, Le.refl _, Le.refl _, Le.refl _, Le.int ?_, Le.int hw2, trivial⟩
            rw [hw3, htwn, if_pos (by omega)]
          · exact ⟨MOle.refl _, MOle.refl _, MOle.refl _, trivial⟩
        · refine Run.to _ _ ?_ ?_ (IHi (i + 1) (by omega) (by omega))
          · refine ⟨Le.refl _, Le.refl _, Le.refl _, Le.refl _, Le.refl _, Le.refl _, Le.refl _, Le.refl _, Le.int ?_, Le.int hw2, trivial⟩
            rw [htwn, if_neg (by omega)]; rfl
          · exact ⟨MOle.refl _, MOle.refl _, MOle.refl _, trivial⟩
      · have hie : i = m.length := by omega
        subst hie
        have ht : tells m s := by unfold tells; omega
        refine Run.hold 5 90 rfl rfl rfl ?_
        refine Run.to _ _ ?_ ?_ (IH (s + 1) (by omega) (by omega))
        · exact ⟨Le.refl _, Le.refl _, Le.refl _, Le.int hw1, trivial⟩
        · refine ⟨MOle.refl _, ?_, trivial⟩
          rw [tellN, if_pos ht]
          exact tI.push 3 (tellN m s) (s : Int) _ (fun j hj => by
            have hj0 : j = 0 := by have : j < 1 := hj; omega
            subst hj0; exact Le.refl _)
      · have hie : i = m.length := by omega
        subst hie
        have ht : ¬ tells m s := by unfold tells; omega
        refine Run.to _ _ ?_ ?_ (IH (s + 1) (by omega) (by omega))
        · exact ⟨Le.refl _, Le.refl _, Le.refl _, Le.int hw1, trivial⟩
        · refine ⟨MOle.refl _, ?_, trivial⟩
          rw [tellN, if_neg ht, List.append_nil]
          exact MOle.refl _
    · refine Run.leave (ts := [2,3]) (.inr ⟨_, rfl⟩) rfl Tryd.func34 rfl (resT ⟨?_, Le.int (codeM_yes hok).symm, trivial⟩)
      have hse : s = (m.getD 0 tRow.z).length := by simp only [Int.toNat_zero] at *; omega
      subst hse
      unfold tellA; rw [if_pos hok]
      exact Le.refl _
  · have hno : ¬ OkM m := fun h => hb (codeM_yes h)
    refine Run.leave (ts := [2,3]) (.inr ⟨_, rfl⟩) rfl Tryd.func34 rfl (resT ⟨?_, Le.refl _, trivial⟩)
    unfold tellA; rw [if_neg hno]
    exact Le.nils _ _
end Go.Proofs.YtnadacaoehpdnaaDoor.V
