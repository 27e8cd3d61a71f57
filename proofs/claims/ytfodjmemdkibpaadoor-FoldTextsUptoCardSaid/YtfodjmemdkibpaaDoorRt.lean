/-
A text's tokens, in plain words.
-/
import Derived.Test.YtfodjmemdkibpaaDoorRk
namespace Go.Proofs.YtfodjmemdkibpaaDoor.V
open Go
set_option linter.unusedVariables false
structure Tok where
  kind : Int
  at' : Int
  text : ByteArray
def tTok : Ty Tok := ⟨3, fun t j => match j with | 0 => .int .i64 t.kind | 1 => .int .i64 t.at' | _ => .str t.text, ⟨0, 0, .empty⟩⟩
def cel0 : Cel := ⟨0, 0, 0, false, 0⟩
def knd (L : List Cel) (i : Nat) : Int := if i < L.length then kCel (L.getD i cel0) else -1
abbrev wy (L : List Cel) (i : Nat) : Prop := wordy (knd L i) = true
theorem wy_lt {L : List Cel} {i : Nat} (h : wy L i) : i < L.length := by
  unfold wy knd at h
  split at h
  · assumption
  · exact absurd h (by decide)
def wordE (L : List Cel) (i : Nat) : Nat := if h : i < L.length then (if wy L i then wordE L (i + 1) else if knd L i = 4 ∧ wy L (i + 1) then wordE L (i + 2) else i) else i
termination_by L.length - i
def blankE (L : List Cel) (i : Nat) : Nat := if h : i < L.length then (if knd L i = 5 then blankE L (i + 1) else i) else i
termination_by L.length - i
theorem wordE_ge (L : List Cel) (i : Nat) : i ≤ wordE L i ∧ (i ≤ L.length → wordE L i ≤ L.length) := by
  by_cases h : i < L.length
  · rw [wordE, dif_pos h]
    split
    · have := wordE_ge L (i + 1); omega
    · split
      · rename_i h2
        have h3 := wy_lt h2.2
        have := wordE_ge L (i + 2); omega
      · omega
  · rw [wordE, dif_neg h]; omega
termination_by L.length - i
theorem wordE_gt {L : List Cel} {i : Nat} (h : wy L i) : i < wordE L i := by
  rw [wordE, dif_pos (wy_lt h), if_pos h]
  have := wordE_ge L (i + 1); omega
theorem blankE_ge (L : List Cel) (i : Nat) : i ≤ blankE L i ∧ (i ≤ L.length → blankE L i ≤ L.length) := by
  by_cases h : i < L.length
  · rw [blankE, dif_pos h]
    split
    · have := blankE_ge L (i + 1); omega
    · omega
  · rw [blankE, dif_neg h]; omega
termination_by L.length - i
theorem knd_lt {L : List Cel} {i : Nat} (h : 0 ≤ knd L i) : i < L.length := by
  unfold knd at h
  split at h
  · assumption
  · omega
theorem blankE_gt {L : List Cel} {i : Nat} (h : knd L i = 5) : i < blankE L i := by
  rw [blankE, dif_pos (knd_lt (by omega)), if_pos h]
  have := blankE_ge L (i + 1); omega
/-- The kind of the token at i, and the cell behind it. -/
def tokE (L : List Cel) (i : Nat) : Int × Nat :=
  if wy L i then (1, wordE L i)
  else if knd L i = 5 then (2, blankE L i)
  else if knd L i = 6 then (3, if (L.getD i cel0).r = 13 ∧ i + 1 < L.length ∧ (L.getD (i + 1) cel0).r = 10 then i + 2 else i + 1)
  else if knd L i = 7 ∨ knd L i = 4 then (4, i + 1)
  else (5, i + 1)
theorem tokE_gt (L : List Cel) (i : Nat) (h : i < L.length) : i < (tokE L i).2 ∧ (tokE L i).2 ≤ L.length := by
  unfold tokE
  split
  · rename_i h1; exact ⟨wordE_gt h1, (wordE_ge L i).2 (by omega)⟩
  · split
    · rename_i h1; exact ⟨blankE_gt h1, (blankE_ge L i).2 (by omega)⟩
    · split
      · simp only []; split <;> omega
      · split <;> (simp only []; omega)
def posAt (s : ByteArray) (L : List Cel) (i : Nat) : Nat := if i < L.length then (L.getD i cel0).pos else s.size
def toks (s : ByteArray) (base : Int) (L : List Cel) (i : Nat) : List Tok :=
  if h : i < L.length then ⟨(tokE L i).1, base + posAt s L i, s.extract (posAt s L i) (posAt s L (tokE L i).2)⟩ :: toks s base L (tokE L i).2 else []
termination_by L.length - i
decreasing_by have := tokE_gt L i h; omega
theorem toks_in {s : ByteArray} {base : Int} {L : List Cel} {i : Nat} (h : i < L.length) : toks s base L i = ⟨(tokE L i).1, base + posAt s L i, s.extract (posAt s L i) (posAt s L (tokE L i).2)⟩ :: toks s base L (tokE L i).2 := by
  rw [toks, dif_pos h]
theorem toks_out {s : ByteArray} {base : Int} {L : List Cel} {i : Nat} (h : ¬ i < L.length) : toks s base L i = [] := by
  rw [toks, dif_neg h]
/-- The kinds, one by one, and the end's. -/
def kinds (L : List Cel) (i : Nat) : List Int := (L.take i).map kCel ++ List.replicate (L.length + 1 - i) 0
def kindsE (L : List Cel) : List Int := L.map kCel ++ [-1]
theorem kinds_len (L : List Cel) (i : Nat) (h : i ≤ L.length) : (kinds L i).length = L.length + 1 := by simp [kinds]; omega
theorem kindsE_len (L : List Cel) : (kindsE L).length = L.length + 1 := by simp [kindsE]
theorem kinds_set (L : List Cel) (i : Nat) (h : i < L.length) : (kinds L i).set i (kCel (L.getD i cel0)) = kinds L (i + 1) := by
  unfold kinds
  refine List.ext_getElem (by simp; omega) fun j h1 h2 => ?_
  rw [List.getElem_set]
  by_cases e : i = j
  · subst e
    rw [if_pos rfl, List.getElem_append_left (by simp; omega)]
    simp [List.getD, h]
  · rw [if_neg e]
    rcases Nat.lt_or_ge j i with h3 | h3
    · rw [List.getElem_append_left (by simp; omega), List.getElem_append_left (by simp; omega)]; simp
    · rw [List.getElem_append_right (by simp; omega), List.getElem_append_right (by simp; omega)]; simp
theorem kinds_end (L : List Cel) : (kinds L L.length).set L.length (-1) = kindsE L := by
  unfold kinds kindsE
  have : L.length + 1 - L.length = 1 := by omega
  rw [this, List.take_length]
  simp [List.set_append]
theorem kindsE_at (L : List Cel) (i : Nat) (h : i ≤ L.length) : (kindsE L).getD i 0 = knd L i := by
  unfold kindsE knd
  by_cases h1 : i < L.length
  · rw [if_pos h1]; simp [List.getD, List.getElem?_append_left (by simpa using h1 : i < (L.map kCel).length), h1]
  · rw [if_neg h1]
    have : i = L.length := by omega
    subst this
    simp [List.getD]
/-- Places grow. -/
theorem cells_pos (s : ByteArray) (p : Nat) : (∀ c ∈ cells s p, p ≤ c.pos ∧ c.pos < s.size) ∧ (cells s p).Pairwise (fun a b => a.pos < b.pos) := by
  by_cases h : p < s.size
  · have hw := Lib.width_pos s p
    obtain ⟨h1, h2⟩ := cells_pos s (p + (Utf8.decode s p).2)
    have hp : (cellAt s p).pos = p := by unfold cellAt; split <;> rfl
    rw [cells_in h]
    refine ⟨fun c hc => ?_, List.pairwise_cons.mpr ⟨fun c hc => ?_, h2⟩⟩
    · rcases List.mem_cons.mp hc with e | hc
      · rw [e, hp]; omega
      · have := h1 c hc; omega
    · rw [hp]; have := h1 c hc; omega
  · rw [cells_out h]; simp
termination_by s.size - p
theorem posAt_le (s : ByteArray) (i : Nat) : posAt s (cells s 0) i ≤ s.size := by
  unfold posAt
  split
  · rename_i h
    have : (cells s 0).getD i cel0 ∈ cells s 0 := by rw [List.getD, List.getElem?_eq_getElem h]; exact List.getElem_mem h
    exact Nat.le_of_lt ((cells_pos s 0).1 _ this).2
  · exact Nat.le_refl _
theorem posAt_mono (s : ByteArray) (i j : Nat) (h : i ≤ j) : posAt s (cells s 0) i ≤ posAt s (cells s 0) j := by
  by_cases hj : j < (cells s 0).length
  · rcases Nat.eq_or_lt_of_le h with e | e
    · subst e; exact Nat.le_refl _
    · unfold posAt
      rw [if_pos (by omega), if_pos hj]
      have := List.pairwise_iff_getElem.mp (cells_pos s 0).2 i j (by omega) hj e
      rw [List.getD, List.getElem?_eq_getElem (by omega : i < (cells s 0).length), List.getD, List.getElem?_eq_getElem hj]
      exact Nat.le_of_lt this
  · have : posAt s (cells s 0) j = s.size := by unfold posAt; rw [if_neg hj]
    rw [this]; exact posAt_le s i
end Go.Proofs.YtfodjmemdkibpaaDoor.V
