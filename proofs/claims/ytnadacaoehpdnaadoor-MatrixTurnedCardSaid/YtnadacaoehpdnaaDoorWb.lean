/-
siglumref19.Check, siglumref14.Ints, siglumref19.Same walked.
-/
import Derived.Test.YtnadacaoehpdnaaDoorWa
namespace Go.Proofs.YtnadacaoehpdnaaDoor.V
open Go Go.Proofs Go.RowKit
set_option linter.unusedVariables false
set_option linter.unusedSimpArgs false
set_option maxRecDepth 100000
set_option maxHeartbeats 2000000
open Go Go.Proofs Go.Proofs.YtnadacaoehpdnaaDoor.V
theorem check36_fn (m : List (List Int)) : Fn Tryd.prog 36 [mxA m] (.int .i64 (codeM m)) := by
  refine Fn.of Tryd.f36 _ Tryd.func36 rfl (by decide) (by show 1 ≤ _; decide) tbOk 72 rfl fun S w0 gl => ?_
  unfold mxA
  refine Run.go ?_; (conv => whnf); repeat' (first | ((with_reducible refine Know.mk fun _ => ?_); conv => whnf) | ((with_reducible refine Need.mk ?_ ?_); (first | omega | (dsimp only; omega) | decide | exact bytes_le (by rfl) (by omega) | exact ⟨rfl, by omega, bytes_le (by rfl) (by omega), by omega⟩ | (refine ⟨?_, ?_⟩ <;> (rw [wrap64 (by omega) (by omega)]; omega))); conv => whnf) | ((with_reducible refine Both.mk ?_ ?_) <;> conv => whnf) | ((with_reducible refine Any.mk fun b hb => ?_); conv => whnf) | ((with_reducible refine AskB.dec (fun hb => ?_) (fun hb => ?_)) <;> conv => whnf) | ((with_reducible refine AskB.ndec (fun hb => ?_) (fun hb => ?_)) <;> conv => whnf) | ((with_reducible refine AskB.mk (fun hb => ?_) (fun hb => ?_)) <;> conv => whnf) | ((with_reducible refine Run.drawX rfl (by decide +kernel) ?_); conv => whnf) | ((with_reducible refine Run.drawT rfl (by decide +kernel) ?_); conv => whnf) | ((with_reducible refine Run.drawW rfl (by decide +kernel) ?_); conv => whnf) | fail)
  case _ => exact Run.leave (ts := [2]) (.inr ⟨_, rfl⟩) rfl Tryd.func36 rfl (Le.int (codeM_no (fun h => by have := h.1; omega)).symm)
  case _ => exact Run.leave (ts := [2]) (.inr ⟨_, rfl⟩) rfl Tryd.func36 rfl (Le.int (codeM_no (fun h => by have := h.2.1; omega)).symm)
  case _ => exact Run.leave (ts := [2]) (.inr ⟨_, rfl⟩) rfl Tryd.func36 rfl (Le.int (codeM_no (fun h => by have h2 := (h.2.2 0 h.1).2.1; simp only [Int.toNat_zero] at *; omega)).symm)
  have h0 : (m.getD 0 tRow.z).length ≤ 4096 := by simp only [Int.toNat_zero] at *; omega
  refine Run.loop [1] (fun (i : Nat) => [(3, .int .i64 (i : Int))]) (fun i => [(1, .box 59 [tRow.L m])]) (fun i => i ≤ m.length ∧ ∀ i', i' < i → RowOk m i') (fun i => m.length - i) 0 ⟨Nat.zero_le _, fun _ h => absurd h (Nat.not_lt_zero _)⟩ ⟨Le.refl _, trivial⟩ ⟨MOle.refl _, trivial⟩ ?_
  intro i ⟨hi, hc⟩ IH
  have hw : IntKind.i64.wrap ((i : Int) + 1) = ((i + 1 : Nat) : Int) := wrap64 (by omega) (by omega)
  refine Run.go ?_; (conv => whnf); repeat' (first | ((with_reducible refine Know.mk fun _ => ?_); conv => whnf) | ((with_reducible refine Need.mk ?_ ?_); (first | omega | (dsimp only; omega) | decide | exact bytes_le (by rfl) (by omega) | exact ⟨rfl, by omega, bytes_le (by rfl) (by omega), by omega⟩ | (refine ⟨?_, ?_⟩ <;> (rw [wrap64 (by omega) (by omega)]; omega))); conv => whnf) | ((with_reducible refine Both.mk ?_ ?_) <;> conv => whnf) | ((with_reducible refine Any.mk fun b hb => ?_); conv => whnf) | ((with_reducible refine AskB.dec (fun hb => ?_) (fun hb => ?_)) <;> conv => whnf) | ((with_reducible refine AskB.ndec (fun hb => ?_) (fun hb => ?_)) <;> conv => whnf) | ((with_reducible refine AskB.mk (fun hb => ?_) (fun hb => ?_)) <;> conv => whnf) | ((with_reducible refine Run.drawX rfl (by decide +kernel) ?_); conv => whnf) | ((with_reducible refine Run.drawT rfl (by decide +kernel) ?_); conv => whnf) | ((with_reducible refine Run.drawW rfl (by decide +kernel) ?_); conv => whnf) | fail)
  · have hlen : (m.getD i tRow.z).length = (m.getD 0 tRow.z).length := by simp only [Int.toNat_natCast, Int.toNat_zero] at *; omega
    refine Run.loop [1, 3] (fun (j : Nat) => [(4, .int .i64 (j : Int))]) (fun j => [(1, .box 59 [tRow.L m])]) (fun j => j ≤ (m.getD i tRow.z).length ∧ ∀ j', j' < j → -1 ≤ (m.getD i tRow.z).getD j' tI.z ∧ (m.getD i tRow.z).getD j' tI.z < 12) (fun j => (m.getD i tRow.z).length - j) 0 ⟨Nat.zero_le _, fun _ h => absurd h (Nat.not_lt_zero _)⟩ ⟨Le.refl _, trivial⟩ ⟨MOle.refl _, trivial⟩ ?_
    intro j ⟨hj, hcj⟩ IHj
    have hwj : IntKind.i64.wrap ((j : Int) + 1) = ((j + 1 : Nat) : Int) := wrap64 (by omega) (by omega)
    refine Run.go ?_; (conv => whnf); repeat' (first | ((with_reducible refine Know.mk fun _ => ?_); conv => whnf) | ((with_reducible refine Need.mk ?_ ?_); (first | omega | (dsimp only; omega) | decide | exact bytes_le (by rfl) (by omega) | exact ⟨rfl, by omega, bytes_le (by rfl) (by omega), by omega⟩ | (refine ⟨?_, ?_⟩ <;> (rw [wrap64 (by omega) (by omega)]; omega))); conv => whnf) | ((with_reducible refine Both.mk ?_ ?_) <;> conv => whnf) | ((with_reducible refine Any.mk fun b hb => ?_); conv => whnf) | ((with_reducible refine AskB.dec (fun hb => ?_) (fun hb => ?_)) <;> conv => whnf) | ((with_reducible refine AskB.ndec (fun hb => ?_) (fun hb => ?_)) <;> conv => whnf) | ((with_reducible refine AskB.mk (fun hb => ?_) (fun hb => ?_)) <;> conv => whnf) | ((with_reducible refine Run.drawX rfl (by decide +kernel) ?_); conv => whnf) | ((with_reducible refine Run.drawT rfl (by decide +kernel) ?_); conv => whnf) | ((with_reducible refine Run.drawW rfl (by decide +kernel) ?_); conv => whnf) | fail)
    case _ => exact Run.leave (ts := [2]) (.inr ⟨_, rfl⟩) rfl Tryd.func36 rfl (Le.int (codeM_no (fun h => by have h2 := ((h.2.2 i (by omega)).2.2 j (by simp only [Int.toNat_natCast] at *; omega)).1; simp only [Int.toNat_natCast] at hb; omega)).symm)
    case _ => exact Run.leave (ts := [2]) (.inr ⟨_, rfl⟩) rfl Tryd.func36 rfl (Le.int (codeM_no (fun h => by have h2 := ((h.2.2 i (by omega)).2.2 j (by simp only [Int.toNat_natCast] at *; omega)).2; simp only [Int.toNat_natCast] at hb; omega)).symm)
    case _ =>
      refine Run.to _ _ ?_ ?_ (IHj (j + 1) (by simp only [Int.toNat_natCast] at *; omega) ⟨by simp only [Int.toNat_natCast] at *; omega, ?_⟩)
      · exact ⟨Le.refl _, Le.refl _, Le.int hwj, trivial⟩
      · exact ⟨MOle.refl _, trivial⟩
      · intro j' hj'
        rcases Nat.lt_succ_iff_lt_or_eq.mp hj' with h | h
        · exact hcj j' h
        · subst h; simp only [Int.toNat_natCast] at *; exact ⟨by omega, by omega⟩
    case _ =>
      refine Run.to _ _ ?_ ?_ (IH (i + 1) (by omega) ⟨by omega, ?_⟩)
      · exact ⟨Le.refl _, Le.int hw, trivial⟩
      · exact ⟨MOle.refl _, trivial⟩
      · intro i' hi'
        rcases Nat.lt_succ_iff_lt_or_eq.mp hi' with h | h
        · exact hc i' h
        · subst h
          have hje : j = (m.getD i' tRow.z).length := by simp only [Int.toNat_natCast] at *; omega
          subst hje
          exact ⟨hlen, by omega, hcj⟩
  · exact Run.leave (ts := [2]) (.inr ⟨_, rfl⟩) rfl Tryd.func36 rfl (Le.int (codeM_no (fun h => hb (by exact_mod_cast (h.2.2 i (by omega)).1))).symm)
  · have hie : i = m.length := by omega
    subst hie
    exact Run.leave (ts := [2]) (.inr ⟨_, rfl⟩) rfl Tryd.func36 rfl (Le.int (codeM_yes ⟨by omega, by omega, hc⟩).symm)
theorem ints17_fn (a b : List Int) (ha : a.length ≤ 100000) : Fn Tryd.prog 17 [tI.L a, tI.L b] (.bool (decide (a = b))) := by
  refine Fn.of Tryd.f17 _ Tryd.func17 rfl (by decide) (by show 2 ≤ _; decide) tbOk 26 rfl fun S w0 gl => ?_
  refine Run.go ?_; (conv => whnf); repeat' (first | ((with_reducible refine Know.mk fun _ => ?_); conv => whnf) | ((with_reducible refine Need.mk ?_ ?_); (first | omega | (dsimp only; omega) | decide | exact bytes_le (by rfl) (by omega) | exact ⟨rfl, by omega, bytes_le (by rfl) (by omega), by omega⟩ | (refine ⟨?_, ?_⟩ <;> (rw [wrap64 (by omega) (by omega)]; omega))); conv => whnf) | ((with_reducible refine Both.mk ?_ ?_) <;> conv => whnf) | ((with_reducible refine Any.mk fun b hb => ?_); conv => whnf) | ((with_reducible refine AskB.dec (fun hb => ?_) (fun hb => ?_)) <;> conv => whnf) | ((with_reducible refine AskB.ndec (fun hb => ?_) (fun hb => ?_)) <;> conv => whnf) | ((with_reducible refine AskB.mk (fun hb => ?_) (fun hb => ?_)) <;> conv => whnf) | ((with_reducible refine Run.drawX rfl (by decide +kernel) ?_); conv => whnf) | ((with_reducible refine Run.drawT rfl (by decide +kernel) ?_); conv => whnf) | ((with_reducible refine Run.drawW rfl (by decide +kernel) ?_); conv => whnf) | fail)
  · have hab : a.length = b.length := by omega
    refine Run.loop [0, 1] (fun (i : Nat) => [(5, .int .i64 (i : Int))]) (fun i => []) (fun i => i ≤ a.length ∧ a.take i = b.take i) (fun i => a.length - i) 0 ⟨Nat.zero_le _, rfl⟩ ⟨Le.refl _, trivial⟩ trivial ?_
    intro i ⟨hi, hc⟩ IH
    have hw : IntKind.i64.wrap ((i : Int) + 1) = ((i + 1 : Nat) : Int) := wrap64 (by omega) (by omega)
    have hat : i < a.length → a.take (i + 1) = a.take i ++ [a.getD i tI.z] ∧ b.take (i + 1) = b.take i ++ [b.getD i tI.z] := fun h => by
      rw [List.take_succ_eq_append_getElem h, List.take_succ_eq_append_getElem (hab ▸ h), List.getD, List.getD, List.getElem?_eq_getElem h, List.getElem?_eq_getElem (hab ▸ h)]
      exact ⟨rfl, rfl⟩
    refine Run.go ?_; (conv => whnf); repeat' (first | ((with_reducible refine Know.mk fun _ => ?_); conv => whnf) | ((with_reducible refine Need.mk ?_ ?_); (first | omega | (dsimp only; omega) | decide | exact bytes_le (by rfl) (by omega) | exact ⟨rfl, by omega, bytes_le (by rfl) (by omega), by omega⟩ | (refine ⟨?_, ?_⟩ <;> (rw [wrap64 (by omega) (by omega)]; omega))); conv => whnf) | ((with_reducible refine Both.mk ?_ ?_) <;> conv => whnf) | ((with_reducible refine Any.mk fun b hb => ?_); conv => whnf) | ((with_reducible refine AskB.dec (fun hb => ?_) (fun hb => ?_)) <;> conv => whnf) | ((with_reducible refine AskB.ndec (fun hb => ?_) (fun hb => ?_)) <;> conv => whnf) | ((with_reducible refine AskB.mk (fun hb => ?_) (fun hb => ?_)) <;> conv => whnf) | ((with_reducible refine Run.drawX rfl (by decide +kernel) ?_); conv => whnf) | ((with_reducible refine Run.drawT rfl (by decide +kernel) ?_); conv => whnf) | ((with_reducible refine Run.drawW rfl (by decide +kernel) ?_); conv => whnf) | fail)
    · have hil : i < a.length := by omega
      obtain ⟨t1, t2⟩ := hat hil
      refine Run.to _ _ ?_ ?_ (IH (i + 1) (by omega) ⟨by omega, ?_⟩)
      · exact ⟨Le.refl _, Le.refl _, Le.int hw, trivial⟩
      · exact trivial
      · simp only [Int.toNat_natCast] at hb
        rw [t1, t2, hc, hb]
    · refine Run.leave (ts := [4]) (.inr ⟨_, rfl⟩) rfl Tryd.func17 rfl (Le.ff.trans (Le.bool (decide_eq_false (fun h => ?_)).symm))
      subst h
      exact hb rfl
    · have hie : i = a.length := by omega
      refine Run.leave (ts := [4]) (.inr ⟨_, rfl⟩) rfl Tryd.func17 rfl (Le.tt.trans (Le.bool (decide_eq_true ?_).symm))
      rw [hie, List.take_length, hab, List.take_length] at hc
      exact hc
  · refine Run.leave (ts := [4]) (.inr ⟨_, rfl⟩) rfl Tryd.func17 rfl (Le.ff.trans (Le.bool (decide_eq_false (fun h => ?_)).symm))
    rw [h] at hb; exact hb rfl
theorem same30_fn (a b : List (List Int)) (ha : a.length ≤ 100000) (har : ∀ r ∈ a, r.length ≤ 100000) : Fn Tryd.prog 30 [mxA a, mxA b] (.bool (decide (a = b))) := by
  refine Fn.of Tryd.f30 _ Tryd.func30 rfl (by decide) (by show 2 ≤ _; decide) tbOk 32 rfl fun S w0 gl => ?_
  unfold mxA
  refine Run.go ?_; (conv => whnf); repeat' (first | ((with_reducible refine Know.mk fun _ => ?_); conv => whnf) | ((with_reducible refine Need.mk ?_ ?_); (first | omega | (dsimp only; omega) | decide | exact bytes_le (by rfl) (by omega) | exact ⟨rfl, by omega, bytes_le (by rfl) (by omega), by omega⟩ | (refine ⟨?_, ?_⟩ <;> (rw [wrap64 (by omega) (by omega)]; omega))); conv => whnf) | ((with_reducible refine Both.mk ?_ ?_) <;> conv => whnf) | ((with_reducible refine Any.mk fun b hb => ?_); conv => whnf) | ((with_reducible refine AskB.dec (fun hb => ?_) (fun hb => ?_)) <;> conv => whnf) | ((with_reducible refine AskB.ndec (fun hb => ?_) (fun hb => ?_)) <;> conv => whnf) | ((with_reducible refine AskB.mk (fun hb => ?_) (fun hb => ?_)) <;> conv => whnf) | ((with_reducible refine Run.drawX rfl (by decide +kernel) ?_); conv => whnf) | ((with_reducible refine Run.drawT rfl (by decide +kernel) ?_); conv => whnf) | ((with_reducible refine Run.drawW rfl (by decide +kernel) ?_); conv => whnf) | fail)
  · have hab : a.length = b.length := by omega
    refine Run.loop [2, 3] (fun (i : Nat) => [(5, .int .i64 (i : Int))]) (fun i => [(2, .box 59 [tRow.L a]), (3, .box 59 [tRow.L b])]) (fun i => i ≤ a.length ∧ a.take i = b.take i) (fun i => a.length - i) 0 ⟨Nat.zero_le _, rfl⟩ ⟨Le.refl _, trivial⟩ ⟨MOle.refl _, MOle.refl _, trivial⟩ ?_
    intro i ⟨hi, hc⟩ IH
    have hw : IntKind.i64.wrap ((i : Int) + 1) = ((i + 1 : Nat) : Int) := wrap64 (by omega) (by omega)
    have hat : i < a.length → a.take (i + 1) = a.take i ++ [a.getD i tRow.z] ∧ b.take (i + 1) = b.take i ++ [b.getD i tRow.z] := fun h => by
      rw [List.take_succ_eq_append_getElem h, List.take_succ_eq_append_getElem (hab ▸ h), List.getD, List.getD, List.getElem?_eq_getElem h, List.getElem?_eq_getElem (hab ▸ h)]
      exact ⟨rfl, rfl⟩
    refine Run.go ?_; (conv => whnf); repeat' (first | ((with_reducible refine Know.mk fun _ => ?_); conv => whnf) | ((with_reducible refine Need.mk ?_ ?_); (first | omega | (dsimp only; omega) | decide | exact bytes_le (by rfl) (by omega) | exact ⟨rfl, by omega, bytes_le (by rfl) (by omega), by omega⟩ | (refine ⟨?_, ?_⟩ <;> (rw [wrap64 (by omega) (by omega)]; omega))); conv => whnf) | ((with_reducible refine Both.mk ?_ ?_) <;> conv => whnf) | ((with_reducible refine Any.mk fun b hb => ?_); conv => whnf) | ((with_reducible refine AskB.dec (fun hb => ?_) (fun hb => ?_)) <;> conv => whnf) | ((with_reducible refine AskB.ndec (fun hb => ?_) (fun hb => ?_)) <;> conv => whnf) | ((with_reducible refine AskB.mk (fun hb => ?_) (fun hb => ?_)) <;> conv => whnf) | ((with_reducible refine Run.drawX rfl (by decide +kernel) ?_); conv => whnf) | ((with_reducible refine Run.drawT rfl (by decide +kernel) ?_); conv => whnf) | ((with_reducible refine Run.drawW rfl (by decide +kernel) ?_); conv => whnf) | fail)
    · have hil : i < a.length := by omega
      obtain ⟨t1, t2⟩ := hat hil
      have hm : a.getD i tRow.z ∈ a := by rw [List.getD, List.getElem?_eq_getElem hil]; exact List.getElem_mem hil
      refine CallQ.flat (ints17_fn (a.getD i tRow.z) (b.getD i tRow.z) (har _ hm)) rfl ⟨Le.refl _, Le.refl _, trivial⟩ rfl ?_
      (conv => whnf); repeat' (first | ((with_reducible refine Know.mk fun _ => ?_); conv => whnf) | ((with_reducible refine Need.mk ?_ ?_); (first | omega | (dsimp only; omega) | decide | exact bytes_le (by rfl) (by omega) | exact ⟨rfl, by omega, bytes_le (by rfl) (by omega), by omega⟩ | (refine ⟨?_, ?_⟩ <;> (rw [wrap64 (by omega) (by omega)]; omega))); conv => whnf) | ((with_reducible refine Both.mk ?_ ?_) <;> conv => whnf) | ((with_reducible refine Any.mk fun b hb => ?_); conv => whnf) | ((with_reducible refine AskB.dec (fun hb => ?_) (fun hb => ?_)) <;> conv => whnf) | ((with_reducible refine AskB.ndec (fun hb => ?_) (fun hb => ?_)) <;> conv => whnf) | ((with_reducible refine AskB.mk (fun hb => ?_) (fun hb => ?_)) <;> conv => whnf) | ((with_reducible refine Run.drawX rfl (by decide +kernel) ?_); conv => whnf) | ((with_reducible refine Run.drawT rfl (by decide +kernel) ?_); conv => whnf) | ((with_reducible refine Run.drawW rfl (by decide +kernel) ?_); conv => whnf) | fail)
      · refine Run.to _ _ ?_ ?_ (IH (i + 1) (by omega) ⟨by omega, ?_⟩)
        · exact ⟨Le.refl _, Le.refl _, Le.int hw, trivial⟩
        · exact ⟨MOle.refl _, MOle.refl _, trivial⟩
        · have he : a.getD i tRow.z = b.getD i tRow.z := by assumption
          rw [t1, t2, hc, he]
      · refine Run.leave (ts := [4]) (.inr ⟨_, rfl⟩) rfl Tryd.func30 rfl (Le.ff.trans (Le.bool (decide_eq_false (fun h => ?_)).symm))
        subst h
        exact hb rfl
    · have hie : i = a.length := by omega
      refine Run.leave (ts := [4]) (.inr ⟨_, rfl⟩) rfl Tryd.func30 rfl (Le.tt.trans (Le.bool (decide_eq_true ?_).symm))
      rw [hie, List.take_length, hab, List.take_length] at hc
      exact hc
  · refine Run.leave (ts := [4]) (.inr ⟨_, rfl⟩) rfl Tryd.func30 rfl (Le.ff.trans (Le.bool (decide_eq_false (fun h => ?_)).symm))
    rw [h] at hb; exact hb rfl
end Go.Proofs.YtnadacaoehpdnaaDoor.V
