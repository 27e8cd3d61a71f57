/-
What a rebuilt table is, in plain words.
-/
import Derived.Test.YtjoecebimleoaaaRa
import Derived.Test.YtjoecebimleoaaaVu
namespace Go.Proofs.Ytjoecebimleoaaa.V
open Go
set_option linter.unusedVariables false

/-- One thing that a reading says: of a witness, at a column, a text; whether there is one. -/
structure Sayn where
  w : Int
  c : Nat
  t : ByteArray
  h : Bool
def sayR (c : Nat) (r : Rd) : List Sayn := r.wits.map fun w => ⟨w, c, r.text, !r.none⟩
def sayE (e : En) : List Sayn := e.rds.flatMap (sayR e.col.toNat)
def says (es : List En) : List Sayn := es.flatMap sayE
def appT (w : Int) (l : List Sayn) (row : List ByteArray) : List ByteArray := l.foldl (fun acc s => if s.w = w then acc.set s.c s.t else acc) row
def appH (w : Int) (l : List Sayn) (has : List Bool) : List Bool := l.foldl (fun acc s => if s.w = w then acc.set s.c s.h else acc) has
def rowOk (row : List ByteArray) (has : List Bool) : Prop := ∀ i, i < row.length → has.getD i false = decide (row.getD i ⟨#[]⟩ ≠ ⟨#[]⟩)
def firstOk (row : List ByteArray) (has : List Bool) (es : List En) : Prop := ∀ e ∈ es, (e.rds.getD 0 rd0).none ≠ has.getD e.col.toNat false ∧ (e.rds.getD 0 rd0).text = row.getD e.col.toNat ByteArray.empty
noncomputable def rbCode (row : List ByteArray) (has : List Bool) (es : List En) (n : Int) : Int :=
  open Classical in
  if n < 1 ∨ 12 < n ∨ row.length ≠ has.length ∨ 4096 < row.length then 2 else if ¬ rowOk row has then 2 else if Good n row.length es ∧ firstOk row has es then 0 else 170
def rowsT (n : Int) (l : List Sayn) (row : List ByteArray) : List (List ByteArray) := (List.range n.toNat).map fun (w : Nat) => appT w l row
def rowsH (n : Int) (l : List Sayn) (has : List Bool) : List (List Bool) := (List.range n.toNat).map fun (w : Nat) => appH w l has
noncomputable def rbRows (row : List ByteArray) (has : List Bool) (es : List En) (n : Int) : List (List ByteArray) :=
  if rbCode row has es n = 0 then rowsT n (says es) row else []
noncomputable def rbHas (row : List ByteArray) (has : List Bool) (es : List En) (n : Int) : List (List Bool) :=
  if rbCode row has es n = 0 then rowsH n (says es) has else []
theorem appT_len (w : Int) (l : List Sayn) (row : List ByteArray) : (appT w l row).length = row.length := by
  unfold appT
  induction l generalizing row with
  | nil => rfl
  | cons s l ih => rw [List.foldl_cons, ih]; split <;> simp
theorem appH_len (w : Int) (l : List Sayn) (row : List Bool) : (appH w l row).length = row.length := by
  unfold appH
  induction l generalizing row with
  | nil => rfl
  | cons s l ih => rw [List.foldl_cons, ih]; split <;> simp


theorem rowsT_len (n : Int) (l : List Sayn) (row : List ByteArray) : (rowsT n l row).length = n.toNat := by simp [rowsT]
theorem rowsH_len (n : Int) (l : List Sayn) (row : List Bool) : (rowsH n l row).length = n.toNat := by simp [rowsH]
theorem rowsT_at {n : Int} (l : List Sayn) (row : List ByteArray) {w : Nat} (h : w < n.toNat) : (rowsT n l row).getD w [] = appT w l row := by simp [rowsT, List.getD, h]
theorem rowsH_at {n : Int} (l : List Sayn) (row : List Bool) {w : Nat} (h : w < n.toNat) : (rowsH n l row).getD w [] = appH w l row := by simp [rowsH, List.getD, h]
theorem rowsT_say {n : Int} (l : List Sayn) (row : List ByteArray) (s : Sayn) (h0 : 0 ≤ s.w) (h1 : s.w < n) : (rowsT n l row).set s.w.toNat (((rowsT n l row).getD s.w.toNat []).set s.c s.t) = rowsT n (l ++ [s]) row := by
  rw [rowsT_at l row (by omega : s.w.toNat < n.toNat)]
  refine List.ext_getElem (by simp [rowsT]) fun i h2 h3 => ?_
  have hi : i < n.toNat := by simpa [rowsT] using h3
  have e1 : (rowsT n (l ++ [s]) row)[i] = if s.w = (i : Int) then (appT i l row).set s.c s.t else appT i l row := by
    simp [rowsT, appT, List.foldl_append]
  rw [e1, List.getElem_set]
  by_cases e : s.w.toNat = i
  · have e2 : s.w = (i : Int) := by omega
    rw [if_pos e, if_pos e2, e]
  · have e2 : ¬ s.w = (i : Int) := by omega
    rw [if_neg e, if_neg e2]; simp [rowsT]
theorem rowsH_say {n : Int} (l : List Sayn) (row : List Bool) (s : Sayn) (h0 : 0 ≤ s.w) (h1 : s.w < n) : (rowsH n l row).set s.w.toNat (((rowsH n l row).getD s.w.toNat []).set s.c s.h) = rowsH n (l ++ [s]) row := by
  rw [rowsH_at l row (by omega : s.w.toNat < n.toNat)]
  refine List.ext_getElem (by simp [rowsH]) fun i h2 h3 => ?_
  have hi : i < n.toNat := by simpa [rowsH] using h3
  have e1 : (rowsH n (l ++ [s]) row)[i] = if s.w = (i : Int) then (appH i l row).set s.c s.h else appH i l row := by
    simp [rowsH, appH, List.foldl_append]
  rw [e1, List.getElem_set]
  by_cases e : s.w.toNat = i
  · have e2 : s.w = (i : Int) := by omega
    rw [if_pos e, if_pos e2, e]
  · have e2 : ¬ s.w = (i : Int) := by omega
    rw [if_neg e, if_neg e2]; simp [rowsH]
theorem rowsT_nil (n : Int) (row : List ByteArray) : rowsT n [] row = List.replicate n.toNat row := by
  refine List.ext_getElem (by simp [rowsT]) fun i h2 h3 => by simp [rowsT, appT]
theorem rowsH_nil (n : Int) (row : List Bool) : rowsH n [] row = List.replicate n.toNat row := by
  refine List.ext_getElem (by simp [rowsH]) fun i h2 h3 => by simp [rowsH, appH]
theorem says_take (es : List En) (i : Nat) (h : i < es.length) : says (es.take (i + 1)) = says (es.take i) ++ sayE (es.getD i tEn.z) := by
  unfold says; rw [take_get tEn.z es i h]; simp
theorem sayE_take (c : Nat) (rds : List Rd) (i : Nat) (h : i < rds.length) : (rds.take (i + 1)).flatMap (sayR c) = (rds.take i).flatMap (sayR c) ++ sayR c (rds.getD i tRd.z) := by
  rw [take_get tRd.z rds i h]; simp
theorem sayR_take (c : Nat) (r : Rd) (i : Nat) (h : i < r.wits.length) : (r.wits.take (i + 1)).map (fun w => (⟨w, c, r.text, !r.none⟩ : Sayn)) = (r.wits.take i).map (fun w => ⟨w, c, r.text, !r.none⟩) ++ [⟨r.wits.getD i 0, c, r.text, !r.none⟩] := by
  rw [take_get 0 r.wits i h]; simp
theorem rep_set {α : Type} {n k : Nat} (a b : α) (h : k < n) : (List.replicate k a ++ List.replicate (n - k) b).set k a = List.replicate (k + 1) a ++ List.replicate (n - (k + 1)) b := by
  refine List.ext_getElem (by simp; omega) fun i h1 h2 => ?_
  rw [List.getElem_set]
  by_cases e : k = i
  · subst e; rw [if_pos rfl, List.getElem_append_left (by simp)]; simp
  · rw [if_neg e]
    rcases Nat.lt_or_ge i k with h3 | h3
    · rw [List.getElem_append_left (by simpa using h3), List.getElem_append_left (by simp; omega)]; simp
    · rw [List.getElem_append_right (by simpa using h3), List.getElem_append_right (by simp; omega)]; simp
theorem row_first {row : List ByteArray} {has : List Bool} {n : Int} {es : List En} (hr : rowOk row has) (hg : Good n row.length es) : firstOk row has es ↔ ∀ q, q < es.length → ((es.getD q tEn.z).rds.getD 0 tRd.z).text = row.getD (es.getD q tEn.z).col.toNat ByteArray.empty := by
  constructor
  · intro h q hq
    exact (h _ (getD_mem (z := tEn.z) q hq)).2
  · intro h e he
    obtain ⟨q, hq, rfl⟩ := List.getElem_of_mem he
    have e1 : es.getD q tEn.z = es[q] := by simp [List.getD, hq]
    have h1 := h q hq
    rw [e1] at h1
    obtain ⟨h2, h3, h4⟩ := hg.each _ he
    have h5 : 0 < es[q].rds.length := by have := h4.2.1; omega
    have h6 := (h4.1.each _ (getD_mem (z := tRd.z) 0 h5)).nons
    refine ⟨?_, h1⟩
    have h7 := hr es[q].col.toNat (by omega)
    have h8 : es[q].rds.getD 0 rd0 = es[q].rds.getD 0 tRd.z := rfl
    rw [h7, h8, h6, h1]
    show decide (row.getD es[q].col.toNat ⟨#[]⟩ = ⟨#[]⟩) ≠ decide (row.getD es[q].col.toNat ⟨#[]⟩ ≠ ⟨#[]⟩)
    by_cases h9 : row.getD es[q].col.toNat ⟨#[]⟩ = ⟨#[]⟩ <;> simp [h9]
theorem rb_len (row : List ByteArray) (has : List Bool) (es : List En) (n : Int) : (rbRows row has es n).length = (rbHas row has es n).length := by
  unfold rbRows rbHas; split <;> simp [rowsT, rowsH]
theorem rb_ok {row : List ByteArray} {has : List Bool} {es : List En} {n : Int} (h : rbCode row has es n = 0) : 1 ≤ n ∧ n ≤ 12 ∧ row.length = has.length ∧ row.length ≤ 4096 ∧ rowOk row has ∧ Good n row.length es ∧ firstOk row has es := by
  unfold rbCode at h
  split at h
  · cases h
  · rename_i h1
    split at h
    · cases h
    · rename_i h2
      split at h
      · rename_i h3
        exact ⟨by omega, by omega, by omega, by omega, Classical.not_not.mp h2, h3.1, h3.2⟩
      · cases h
theorem rb_len0 {row : List ByteArray} {has : List Bool} {es : List En} {n : Int} (h : rbCode row has es n ≠ 0) : rbRows row has es n = [] ∧ rbHas row has es n = [] := by
  unfold rbRows rbHas; rw [if_neg h, if_neg h]; exact ⟨rfl, rfl⟩
theorem rb_rowlen {row : List ByteArray} {has : List Bool} {es : List En} {n : Int} {i : Nat} (h : i < (rbRows row has es n).length) : ((rbRows row has es n).getD i []).length = row.length ∧ ((rbHas row has es n).getD i []).length = row.length := by
  by_cases hc : rbCode row has es n = 0
  · have h2 := rb_ok hc
    unfold rbRows at h ⊢
    unfold rbHas
    rw [if_pos hc] at h ⊢
    rw [if_pos hc]
    rw [rowsT_len] at h
    rw [rowsT_at _ _ h, rowsH_at _ _ h, appT_len, appH_len]
    exact ⟨rfl, h2.2.2.1.symm⟩
  · rw [(rb_len0 hc).1] at h; cases h
end Go.Proofs.Ytjoecebimleoaaa.V
