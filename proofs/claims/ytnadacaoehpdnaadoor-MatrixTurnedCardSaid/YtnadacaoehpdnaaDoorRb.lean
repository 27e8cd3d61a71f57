/-
Which sites tell trees apart, in plain words.
-/
import Derived.Test.YtnadacaoehpdnaaDoorWa
namespace Go.Proofs.YtnadacaoehpdnaaDoor.V
open Go
set_option linter.unusedVariables false
set_option linter.unusedSimpArgs false
/-- How many of the first i rows have state k at site s. -/
def cntN (m : List (List Int)) (s : Nat) : Nat → Int → Nat
  | 0, _ => 0
  | i + 1, k => cntN m s i k + if (m.getD i tRow.z).getD s tI.z = k then 1 else 0
/-- How many of the states below K are there twice or more. -/
def twN (f : Nat → Nat) : Nat → Nat
  | 0 => 0
  | K + 1 => twN f K + if 1 < f K then 1 else 0
def tells (m : List (List Int)) (s : Nat) : Prop := 1 < twN (fun k => cntN m s m.length (k : Int)) 12
instance (m : List (List Int)) (s : Nat) : Decidable (tells m s) := by unfold tells; infer_instance
def tellN (m : List (List Int)) : Nat → List Int
  | 0 => []
  | s + 1 => tellN m s ++ if tells m s then [(s : Int)] else []
open Classical in
noncomputable def tellA (m : List (List Int)) : List Int := if OkM m then tellN m (m.getD 0 tRow.z).length else []
theorem cntN_le (m : List (List Int)) (s i : Nat) (k : Int) : cntN m s i k ≤ i := by
  induction i with
  | zero => exact Nat.le_refl _
  | succ i ih => unfold cntN; split <;> omega
theorem twN_le (f : Nat → Nat) (K : Nat) : twN f K ≤ K := by
  induction K with
  | zero => exact Nat.le_refl _
  | succ K ih => unfold twN; split <;> omega
theorem twN_congr {f g : Nat → Nat} {K : Nat} (h : ∀ j, j < K → f j = g j) : twN f K = twN g K := by
  induction K with
  | zero => rfl
  | succ K ih =>
    unfold twN
    rw [ih (fun j hj => h j (by omega)), h K (by omega)]
theorem twN_step {f g : Nat → Nat} {K k : Nat} (hk : k < K) (h1 : g k = f k + 1) (h2 : ∀ j, j ≠ k → g j = f j) : twN g K = twN f K + if f k + 1 = 2 then 1 else 0 := by
  induction K with
  | zero => omega
  | succ K ih =>
    unfold twN
    by_cases e : k = K
    · subst e
      rw [twN_congr (f := g) (g := f) (fun j hj => h2 j (by omega)), h1]
      by_cases e2 : f k + 1 = 2
      · rw [if_pos e2, if_pos (by omega), if_neg (by omega)]
      · rw [if_neg e2]
        by_cases e3 : 1 < f k
        · rw [if_pos (by omega), if_pos e3]
        · rw [if_neg (by omega), if_neg e3]
    · rw [ih (by omega), h2 K (fun h => e h.symm)]; omega
theorem tellN_len (m : List (List Int)) (s : Nat) : (tellN m s).length ≤ s := by
  induction s with
  | zero => exact Nat.le_refl _
  | succ s ih => unfold tellN; rw [List.length_append]; split <;> simp <;> omega
theorem tellA_len (m : List (List Int)) : (tellA m).length ≤ 4096 := by
  unfold tellA
  split
  · rename_i h
    have := tellN_len m (m.getD 0 tRow.z).length
    have h2 := (h.2.2 0 h.1).2.1
    omega
  · simp
end Go.Proofs.YtnadacaoehpdnaaDoor.V
