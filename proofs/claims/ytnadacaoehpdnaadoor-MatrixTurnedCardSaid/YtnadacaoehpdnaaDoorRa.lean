/-
A text's lines, in plain words.
-/
import Derived.Test.YtnadacaoehpdnaaDoorMD
namespace Go.Proofs.YtnadacaoehpdnaaDoor.V
open Go
set_option linter.unusedVariables false
set_option linter.unusedSimpArgs false
def bs (l : List UInt8) : ByteArray := ⟨l.toArray⟩
/-- A text's lines: what stands between newlines. -/
def splitL : List UInt8 → List (List UInt8)
  | [] => [[]]
  | b :: l => if b = 10 then [] :: splitL l else (b :: (splitL l).headD []) :: (splitL l).tail
def splitB (l : List UInt8) : List ByteArray := (splitL l).map bs
theorem splitL_ne : ∀ l, splitL l ≠ []
  | [] => by simp [splitL]
  | b :: l => by unfold splitL; split <;> simp
theorem splitL_len : ∀ l, (splitL l).length = Lib.countByte l 10 + 1
  | [] => rfl
  | b :: l => by
    have ih := splitL_len l
    unfold splitL
    by_cases h : b = 10
    · subst h
      rw [if_pos rfl]
      simp only [List.length_cons, ih, Lib.countByte, List.count_cons_self]
    · rw [if_neg h]
      have hc : Lib.countByte (b :: l) 10 = Lib.countByte l 10 := by
        unfold Lib.countByte
        rw [List.count_cons_of_ne h]
      simp only [List.length_cons, List.length_tail, hc, ih]
      omega
theorem splitL_no : ∀ l, Lib.indexByte l 10 = -1 → splitL l = [l]
  | [], _ => rfl
  | b :: l, h => by
    unfold Lib.indexByte at h
    have hge := Lib.indexByte_ge l 10
    by_cases hb : b = 10
    · subst hb; simp at h
    · have hb2 : (b == 10) = false := by simpa using hb
      rw [hb2] at h
      by_cases hi : Lib.indexByte l 10 = -1
      · unfold splitL
        rw [if_neg hb, splitL_no l hi]; rfl
      · have hi2 : (Lib.indexByte l 10 == -1) = false := by simpa using hi
        simp only [hi2, Bool.false_eq_true, if_false] at h
        omega
theorem splitL_at : ∀ (l : List UInt8) (k : Nat), Lib.indexByte l 10 = (k : Int) → k < l.length ∧ splitL l = l.take k :: splitL (l.drop (k + 1))
  | [], k, h => by simp only [Lib.indexByte] at h; omega
  | b :: l, k, h => by
    unfold Lib.indexByte at h
    by_cases hb : b = 10
    · subst hb
      simp at h
      have : k = 0 := by omega
      subst this
      have e : splitL (10 :: l) = [] :: splitL l := by rw [splitL, if_pos rfl]
      rw [e]
      exact ⟨by simp, rfl⟩
    · have hb2 : (b == 10) = false := by simpa using hb
      rw [hb2] at h
      by_cases hi : Lib.indexByte l 10 = -1
      · simp [hi] at h
      · have hi2 : (Lib.indexByte l 10 == -1) = false := by simpa using hi
        simp only [hi2, Bool.false_eq_true, if_false] at h
        obtain ⟨j, rfl⟩ : ∃ j, k = j + 1 := ⟨k - 1, by have := Lib.indexByte_ge l 10; omega⟩
        obtain ⟨h1, h2⟩ := splitL_at l j (by omega)
        refine ⟨by simp; omega, ?_⟩
        show splitL (b :: l) = _
        rw [splitL, if_neg hb, h2]; rfl
theorem splitL_two {l : List UInt8} (h : 2 ≤ (splitL l).length) : ∃ k : Nat, Lib.indexByte l 10 = (k : Int) := by
  have hge := Lib.indexByte_ge l 10
  by_cases hi : Lib.indexByte l 10 = -1
  · rw [splitL_no l hi] at h; simp at h
  · exact ⟨(Lib.indexByte l 10).toNat, by omega⟩
theorem bs_size (l : List UInt8) : (bs l).size = l.length := by simp [bs, ByteArray.size]
theorem bs_data (l : List UInt8) : (bs l).data.toList = l := by simp [bs]
theorem bs_extract (l : List UInt8) (a b : Nat) : (bs l).extract a b = bs ((l.drop a).take (b - a)) := by
  apply ByteArray.ext
  apply Array.ext'
  simp [bs]
theorem bs_of (s : ByteArray) : bs s.data.toList = s := by simp [bs]
/-- A list of which the first i are laid. -/
def part {α : Type} (l : List α) (z : α) (i : Nat) : List α := l.take i ++ List.replicate (l.length - i) z
theorem part_len {α : Type} (l : List α) (z : α) (i : Nat) (h : i ≤ l.length) : (part l z i).length = l.length := by simp [part]; omega
theorem part_set {α : Type} (l : List α) (z : α) (i : Nat) (h : i < l.length) : (part l z i).set i (l.getD i z) = part l z (i + 1) := by
  unfold part
  refine List.ext_getElem (by simp; omega) fun j h1 h2 => ?_
  rw [List.getElem_set]
  by_cases e : i = j
  · subst e
    rw [if_pos rfl, List.getElem_append_left (by simp; omega)]
    simp [List.getD, h]
  · rw [if_neg e]
    rcases Nat.lt_or_ge j i with h3 | h3
    · rw [List.getElem_append_left (by simp; omega), List.getElem_append_left (by simp; omega)]; simp
    · rw [List.getElem_append_right (by simp; omega), List.getElem_append_right (by simp; omega)]; simp
theorem part_all {α : Type} (l : List α) (z : α) : part l z l.length = l := by simp [part]
theorem part_none {α : Type} (l : List α) (z : α) : part l z 0 = List.replicate l.length z := by simp [part]
end Go.Proofs.YtnadacaoehpdnaaDoor.V
