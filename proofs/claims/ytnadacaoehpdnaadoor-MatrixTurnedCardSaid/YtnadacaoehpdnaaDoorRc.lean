/-
What a text of a matrix says, line by line, in plain words.
-/
import Derived.Test.YtnadacaoehpdnaaDoorWd
namespace Go.Proofs.YtnadacaoehpdnaaDoor.V
open Go
set_option linter.unusedVariables false
set_option linter.unusedSimpArgs false
/-- A sign's state; -2: it is none. -/
def ixB (b : UInt8) : Int := Lib.indexByte signL b - 1
/-- The same, as the document looks for it. -/
def scanX (b : UInt8) : Nat → Int
  | 0 => -2
  | k + 1 => if signL.getD k 0 = b then (k : Int) - 1 else scanX b k
theorem all_bytes {p : UInt8 → Prop} (h : ∀ n : Fin 256, p (UInt8.ofNat n.val)) (b : UInt8) : p b := by
  have := h ⟨b.toNat, b.toNat_lt⟩
  simpa using this
theorem ix_all : ∀ n : Fin 256, scanX (UInt8.ofNat n.val) 13 = ixB (UInt8.ofNat n.val) ∧ -2 ≤ ixB (UInt8.ofNat n.val) ∧ ixB (UInt8.ofNat n.val) < 12 ∧ (-1 ≤ ixB (UInt8.ofNat n.val) → (UInt8.ofNat n.val).toNat < 128) ∧ (-1 ≤ ixB (UInt8.ofNat n.val) → signC (ixB (UInt8.ofNat n.val)) = UInt8.ofNat n.val) := by decide +kernel
theorem scan_ix (b : UInt8) : scanX b 13 = ixB b := all_bytes (p := fun b => scanX b 13 = ixB b) (fun n => (ix_all n).1) b
theorem ix_range (b : UInt8) : -2 ≤ ixB b ∧ ixB b < 12 := all_bytes (p := fun b => -2 ≤ ixB b ∧ ixB b < 12) (fun n => ⟨(ix_all n).2.1, (ix_all n).2.2.1⟩) b
theorem ix_ascii (b : UInt8) (h : -1 ≤ ixB b) : b.toNat < 128 := all_bytes (p := fun b => -1 ≤ ixB b → b.toNat < 128) (fun n => (ix_all n).2.2.2.1) b h
theorem ix_sign (b : UInt8) (h : -1 ≤ ixB b) : signC (ixB b) = b := all_bytes (p := fun b => -1 ≤ ixB b → signC (ixB b) = b) (fun n => (ix_all n).2.2.2.2) b h
theorem sign_all : ∀ n : Fin 13, ixB (signC ((n.val : Int) - 1)) = (n.val : Int) - 1 ∧ signC ((n.val : Int) - 1) ≠ 10 := by decide +kernel
theorem sign_ix (x : Int) (h : -1 ≤ x ∧ x < 12) : ixB (signC x) = x ∧ signC x ≠ 10 := by
  have := sign_all ⟨(x + 1).toNat, by omega⟩
  have e : (((x + 1).toNat : Nat) : Int) - 1 = x := by omega
  simp only [e] at this
  exact this
open Classical in
/-- Line by line: the rows that are there already, the lines that are left. -/
noncomputable def goP : List (List UInt8) → List (List Int) → List (List Int) × Int × Int
  | [], m => (m, 0, 0)
  | [l], m => if l = [] ∧ m ≠ [] then (m, 0, 0) else ([], (m.length : Int), 190)
  | l :: l2 :: r, m => if OkM (m ++ [l.map ixB]) then goP (l2 :: r) (m ++ [l.map ixB]) else ([], (m.length : Int), 190)
noncomputable def parseA (l : List UInt8) : List (List Int) × Int × Int := if 65536 < l.length then ([], 0, 1) else goP (splitL l) []
noncomputable def parseL (l : List UInt8) : AV := tupL [mxA (parseA l).1, .int .i64 (parseA l).2.1, .int .i64 (parseA l).2.2]
theorem goP_last {l : List UInt8} {m : List (List Int)} : goP [l] m = if l = [] ∧ m ≠ [] then (m, 0, 0) else ([], (m.length : Int), 190) := by
  rw [goP]
theorem goP_ok {l : List UInt8} {r : List (List UInt8)} {m : List (List Int)} (hr : r ≠ []) (h : OkM (m ++ [l.map ixB])) : goP (l :: r) m = goP r (m ++ [l.map ixB]) := by
  cases r with
  | nil => exact absurd rfl hr
  | cons l2 r => rw [goP, if_pos h]
theorem goP_no {l : List UInt8} {r : List (List UInt8)} {m : List (List Int)} (hr : r ≠ []) (h : ¬ OkM (m ++ [l.map ixB])) : goP (l :: r) m = ([], (m.length : Int), 190) := by
  cases r with
  | nil => exact absurd rfl hr
  | cons l2 r => rw [goP, if_neg h]
/-- When a row more makes a matrix. -/
theorem ok_push {m : List (List Int)} {r : List Int} (hm : OkM m ∨ m = []) : OkM (m ++ [r]) ↔ m.length < 12 ∧ r.length ≤ 4096 ∧ r.length = ((m ++ [r]).getD 0 tRow.z).length ∧ ∀ j, j < r.length → -1 ≤ r.getD j tI.z ∧ r.getD j tI.z < 12 := by
  have hlast : (m ++ [r]).getD m.length tRow.z = r := by simp [List.getD]
  constructor
  · intro h
    have hl := h.2.1
    rw [List.length_append] at hl
    simp only [List.length_cons, List.length_nil] at hl
    have := h.2.2 m.length (by rw [List.length_append]; simp)
    unfold RowOk at this
    rw [hlast] at this
    exact ⟨by omega, this.2.1, this.1, this.2.2⟩
  · intro ⟨h1, h2, h3, h4⟩
    refine ⟨by rw [List.length_append]; simp, by rw [List.length_append]; simp; omega, fun i hi => ?_⟩
    rw [List.length_append] at hi
    simp only [List.length_cons, List.length_nil] at hi
    by_cases e : i = m.length
    · subst e
      unfold RowOk
      rw [hlast]
      exact ⟨h3, h2, h4⟩
    · have hil : i < m.length := by omega
      have h0 : 0 < m.length := by omega
      have hm' : OkM m := by
        rcases hm with h | h
        · exact h
        · rw [h] at hil; exact absurd hil (Nat.not_lt_zero _)
      have := hm'.2.2 i hil
      have e1 : (m ++ [r]).getD i tRow.z = m.getD i tRow.z := by simp [List.getD, List.getElem?_append_left hil]
      have e2 : (m ++ [r]).getD 0 tRow.z = m.getD 0 tRow.z := by simp only [List.getD, List.getElem?_append_left h0]
      unfold RowOk
      rw [e1, e2]
      exact this
end Go.Proofs.YtnadacaoehpdnaaDoor.V
