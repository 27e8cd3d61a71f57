/-
matrix.Check walked.
-/
import Derived.Test.YtnadacaoehpdnaaDoorMD
import Derived.Test.YtnadacaoehpdnaaDoorVt
namespace Go.Proofs.YtnadacaoehpdnaaDoor.V
open Go Go.Proofs Go.RowKit
set_option linter.unusedVariables false
set_option linter.unusedSimpArgs false
set_option maxRecDepth 100000
set_option maxHeartbeats 2000000
open Go Go.Proofs Go.Proofs.YtnadacaoehpdnaaDoor.V
def tRow : Ty (List Int) := ⟨1, fun l _ => tI.L l, []⟩
def mxA (m : List (List Int)) : AV := .agg 1 (fun _ => tRow.L m)
def RowOk (m : List (List Int)) (i : Nat) : Prop := (m.getD i tRow.z).length = (m.getD 0 tRow.z).length ∧ (m.getD i tRow.z).length ≤ 4096 ∧ ∀ j, j < (m.getD i tRow.z).length → -1 ≤ (m.getD i tRow.z).getD j tI.z ∧ (m.getD i tRow.z).getD j tI.z < 12
def OkM (m : List (List Int)) : Prop := 0 < m.length ∧ m.length ≤ 12 ∧ ∀ i, i < m.length → RowOk m i
open Classical in
noncomputable def codeM (m : List (List Int)) : Int := if OkM m then 0 else 190
theorem codeM_yes {m : List (List Int)} (h : OkM m) : codeM m = 0 := if_pos h
theorem codeM_no {m : List (List Int)} (h : ¬ OkM m) : codeM m = 190 := if_neg h
theorem codeM_two (m : List (List Int)) : codeM m = 0 ∨ codeM m = 190 := by
  by_cases h : OkM m
  · exact .inl (codeM_yes h)
  · exact .inr (codeM_no h)
theorem codeM_zero {m : List (List Int)} (h : codeM m = 0) : OkM m := by
  by_cases h2 : OkM m
  · exact h2
  · rw [codeM_no h2] at h; cases h
theorem check32_fn (m : List (List Int)) : Fn Tryd.prog 32 [mxA m] (.int .i64 (codeM m)) := by
  refine Fn.of Tryd.f32 _ Tryd.func32 rfl (by decide) (by show 1 ≤ _; decide) tbOk 51 rfl fun S w0 gl => ?_
  unfold mxA
  refine Run.go ?_; (conv => whnf); repeat' (first | ((with_reducible refine Know.mk fun _ => ?_); conv => whnf) | ((with_reducible refine Need.mk ?_ ?_); (first | omega | (dsimp only; omega) | decide | exact bytes_le (by rfl) (by omega) | exact ⟨rfl, by omega, bytes_le (by rfl) (by omega), by omega⟩ | (refine ⟨?_, ?_⟩ <;> (rw [wrap64 (by omega) (by omega)]; omega))); conv => whnf) | ((with_reducible refine Both.mk ?_ ?_) <;> conv => whnf) | ((with_reducible refine Any.mk fun b hb => ?_); conv => whnf) | ((with_reducible refine AskB.dec (fun hb => ?_) (fun hb => ?_)) <;> conv => whnf) | ((with_reducible refine AskB.ndec (fun hb => ?_) (fun hb => ?_)) <;> conv => whnf) | ((with_reducible refine AskB.mk (fun hb => ?_) (fun hb => ?_)) <;> conv => whnf) | ((with_reducible refine Run.drawX rfl (by decide +kernel) ?_); conv => whnf) | ((with_reducible refine Run.drawT rfl (by decide +kernel) ?_); conv => whnf) | ((with_reducible refine Run.drawW rfl (by decide +kernel) ?_); conv => whnf) | fail)
  case _ => exact Run.leave (ts := [2]) (.inr ⟨_, rfl⟩) rfl Tryd.func32 rfl (Le.int (codeM_no (fun h => by have := h.1; omega)).symm)
  case _ => exact Run.leave (ts := [2]) (.inr ⟨_, rfl⟩) rfl Tryd.func32 rfl (Le.int (codeM_no (fun h => by have := h.2.1; omega)).symm)
  refine Run.loop [1, 18, 19] (fun (i : Nat) => [(20, .int .i64 (i : Int))]) (fun i => [(1, .box 59 [tRow.L m])]) (fun i => i ≤ m.length ∧ ∀ i', i' < i → RowOk m i') (fun i => m.length - i) 0 ⟨Nat.zero_le _, fun _ h => absurd h (Nat.not_lt_zero _)⟩ ⟨Le.refl _, trivial⟩ ⟨MOle.refl _, trivial⟩ ?_
  intro i ⟨hi, hc⟩ IH
  have hw : IntKind.i64.wrap ((i : Int) + 1) = ((i + 1 : Nat) : Int) := wrap64 (by omega) (by omega)
  refine Run.go ?_; (conv => whnf); repeat' (first | ((with_reducible refine Know.mk fun _ => ?_); conv => whnf) | ((with_reducible refine Need.mk ?_ ?_); (first | omega | (dsimp only; omega) | decide | exact bytes_le (by rfl) (by omega) | exact ⟨rfl, by omega, bytes_le (by rfl) (by omega), by omega⟩ | (refine ⟨?_, ?_⟩ <;> (rw [wrap64 (by omega) (by omega)]; omega))); conv => whnf) | ((with_reducible refine Both.mk ?_ ?_) <;> conv => whnf) | ((with_reducible refine Any.mk fun b hb => ?_); conv => whnf) | ((with_reducible refine AskB.dec (fun hb => ?_) (fun hb => ?_)) <;> conv => whnf) | ((with_reducible refine AskB.ndec (fun hb => ?_) (fun hb => ?_)) <;> conv => whnf) | ((with_reducible refine AskB.mk (fun hb => ?_) (fun hb => ?_)) <;> conv => whnf) | ((with_reducible refine Run.drawX rfl (by decide +kernel) ?_); conv => whnf) | ((with_reducible refine Run.drawT rfl (by decide +kernel) ?_); conv => whnf) | ((with_reducible refine Run.drawW rfl (by decide +kernel) ?_); conv => whnf) | fail)
  · exact Run.leave (ts := [2]) (.inr ⟨_, rfl⟩) rfl Tryd.func32 rfl (Le.int (codeM_no (fun h => by have h2 := (h.2.2 i (by omega)).2.1; simp only [Int.toNat_natCast] at hb; omega)).symm)
  · have hlen : (m.getD i tRow.z).length ≤ 4096 := by simp only [Int.toNat_natCast] at *; omega
    have heq : (m.getD i tRow.z).length = (m.getD 0 tRow.z).length := by simp only [Int.toNat_natCast, Int.toNat_zero] at *; omega
    refine Run.loop [1, 18, 19, 20, 37, 38] (fun (j : Nat) => [(39, .int .i64 (j : Int))]) (fun j => [(1, .box 59 [tRow.L m])]) (fun j => j ≤ (m.getD i tRow.z).length ∧ ∀ j', j' < j → -1 ≤ (m.getD i tRow.z).getD j' tI.z ∧ (m.getD i tRow.z).getD j' tI.z < 12) (fun j => (m.getD i tRow.z).length - j) 0 ⟨Nat.zero_le _, fun _ h => absurd h (Nat.not_lt_zero _)⟩ ⟨Le.refl _, trivial⟩ ⟨MOle.refl _, trivial⟩ ?_
    intro j ⟨hj, hcj⟩ IHj
    have hwj : IntKind.i64.wrap ((j : Int) + 1) = ((j + 1 : Nat) : Int) := wrap64 (by omega) (by omega)
    refine Run.go ?_; (conv => whnf); repeat' (first | ((with_reducible refine Know.mk fun _ => ?_); conv => whnf) | ((with_reducible refine Need.mk ?_ ?_); (first | omega | (dsimp only; omega) | decide | exact bytes_le (by rfl) (by omega) | exact ⟨rfl, by omega, bytes_le (by rfl) (by omega), by omega⟩ | (refine ⟨?_, ?_⟩ <;> (rw [wrap64 (by omega) (by omega)]; omega))); conv => whnf) | ((with_reducible refine Both.mk ?_ ?_) <;> conv => whnf) | ((with_reducible refine Any.mk fun b hb => ?_); conv => whnf) | ((with_reducible refine AskB.dec (fun hb => ?_) (fun hb => ?_)) <;> conv => whnf) | ((with_reducible refine AskB.ndec (fun hb => ?_) (fun hb => ?_)) <;> conv => whnf) | ((with_reducible refine AskB.mk (fun hb => ?_) (fun hb => ?_)) <;> conv => whnf) | ((with_reducible refine Run.drawX rfl (by decide +kernel) ?_); conv => whnf) | ((with_reducible refine Run.drawT rfl (by decide +kernel) ?_); conv => whnf) | ((with_reducible refine Run.drawW rfl (by decide +kernel) ?_); conv => whnf) | fail)
    case _ => exact Run.leave (ts := [2]) (.inr ⟨_, rfl⟩) rfl Tryd.func32 rfl (Le.int (codeM_no (fun h => by have h2 := ((h.2.2 i (by omega)).2.2 j (by simp only [Int.toNat_natCast] at *; omega)).1; simp only [Int.toNat_natCast] at hb; omega)).symm)
    case _ => exact Run.leave (ts := [2]) (.inr ⟨_, rfl⟩) rfl Tryd.func32 rfl (Le.int (codeM_no (fun h => by have h2 := ((h.2.2 i (by omega)).2.2 j (by simp only [Int.toNat_natCast] at *; omega)).2; simp only [Int.toNat_natCast] at hb; omega)).symm)
    case _ =>
      refine Run.to _ _ ?_ ?_ (IHj (j + 1) (by simp only [Int.toNat_natCast] at *; omega) ⟨by simp only [Int.toNat_natCast] at *; omega, ?_⟩)
      · exact ⟨Le.refl _, Le.refl _, Le.refl _, Le.refl _, Le.refl _, Le.refl _, Le.int hwj, trivial⟩
      · exact ⟨MOle.refl _, trivial⟩
      · intro j' hj'
        rcases Nat.lt_succ_iff_lt_or_eq.mp hj' with h | h
        · exact hcj j' h
        · subst h; simp only [Int.toNat_natCast] at *; exact ⟨by omega, by omega⟩
    case _ =>
      refine Run.to _ _ ?_ ?_ (IH (i + 1) (by omega) ⟨by omega, ?_⟩)
      · exact ⟨Le.refl _, Le.refl _, Le.refl _, Le.int hw, trivial⟩
      · exact ⟨MOle.refl _, trivial⟩
      · intro i' hi'
        rcases Nat.lt_succ_iff_lt_or_eq.mp hi' with h | h
        · exact hc i' h
        · subst h
          have hje : j = (m.getD i' tRow.z).length := by simp only [Int.toNat_natCast] at *; omega
          subst hje
          exact ⟨heq, hlen, hcj⟩
  · exact Run.leave (ts := [2]) (.inr ⟨_, rfl⟩) rfl Tryd.func32 rfl (Le.int (codeM_no (fun h => hb (by exact_mod_cast (h.2.2 i (by omega)).1))).symm)
  · have hie : i = m.length := by omega
    subst hie
    exact Run.leave (ts := [2]) (.inr ⟨_, rfl⟩) rfl Tryd.func32 rfl (Le.int (codeM_yes ⟨by omega, by omega, hc⟩).symm)
end Go.Proofs.YtnadacaoehpdnaaDoor.V
