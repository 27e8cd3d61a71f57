/-
A text's words, put on end, give back the text; no word is empty, and between two words something stands.
-/
import Derived.Test.YtfodjmemdkibpaaDoorWj
namespace Go.Proofs.YtfodjmemdkibpaaDoor.V
open Go
set_option linter.unusedVariables false
set_option linter.unusedSimpArgs false
/-- A list's words and what stands between, on end. -/
def catW : List Wrd → ByteArray
  | [] => .empty
  | w :: l => w.text ++ (w.tail ++ catW l)
def catT : List Tok → ByteArray
  | [] => .empty
  | t :: ts => t.text ++ catT ts
theorem specW_cons1 (t : Tok) (ts : List Tok) : specW (t :: ts) = if t.kind = 1 then (.empty, ⟨t.text, (specW ts).1⟩ :: (specW ts).2) else (t.text ++ (specW ts).1, (specW ts).2) := rfl
theorem specW_catT : ∀ ts : List Tok, (specW ts).1 ++ catW (specW ts).2 = catT ts
  | [] => by simp [specW, catW, catT]
  | t :: ts => by
    rw [specW_cons1]
    have ih := specW_catT ts
    by_cases h : t.kind = 1
    · rw [if_pos h]; simp only [catW, catT]; rw [ih]; simp
    · rw [if_neg h]; simp only [catT]; rw [← ih, ByteArray.append_assoc]
theorem contig_catT {s : ByteArray} : ∀ {ts : List Tok} {p : Nat}, Contig s p ts → catT ts = s.extract p s.size
  | [], p, h => by have : p = s.size := h; rw [this, extract_nil]; rfl
  | t :: ts, p, h => by
    obtain ⟨h1, h2, h3, h4⟩ := h
    show t.text ++ catT ts = _
    rw [contig_catT h4]
    conv => lhs; arg 1; rw [h2]
    exact extract_join s _ _ _ (by omega) h3
theorem toksOf_fit {s : ByteArray} (h : ¬ 65536 < s.size) : toksOf s = toks s 0 (cells s 0) 0 := by unfold toksOf; rw [if_neg h]
theorem specW_back (s : ByteArray) (hn : ¬ 65536 < s.size) : (specW (toksOf s)).1 ++ catW (specW (toksOf s)).2 = s := by
  rw [specW_catT, toksOf_fit hn]
  have h := toks_contig s 0
  rw [posAt_zero] at h
  have := contig_catT h
  rw [this]; simp
def ApartT : List Tok → Prop
  | [] => True
  | t :: ts => 0 < t.text.size ∧ (t.kind = 1 → ∀ t' ∈ ts.head?, t'.kind ≠ 1) ∧ ApartT ts
def GoodW : List Wrd → Prop
  | [] => True
  | w :: ws => 0 < w.text.size ∧ (ws ≠ [] → 0 < w.tail.size) ∧ GoodW ws
theorem apart_good : ∀ {ts : List Tok}, ApartT ts → GoodW (specW ts).2
  | [], _ => trivial
  | t :: ts, h => by
    obtain ⟨h1, h2, h3⟩ := h
    have ih := apart_good h3
    rw [specW_cons1]
    by_cases hk : t.kind = 1
    · rw [if_pos hk]
      refine ⟨h1, fun hne => ?_, ih⟩
      cases ts with
      | nil => exact absurd rfl hne
      | cons t' r =>
        have hk' := h2 hk t' rfl
        show 0 < (specW (t' :: r)).1.size
        rw [specW_cons1, if_neg hk']
        have := h3.1
        simp only [ByteArray.size_append]; omega
    · rw [if_neg hk]; exact ih
theorem wordE_stop (L : List Cel) (i : Nat) : ¬ wy L (wordE L i) := by
  by_cases h : i < L.length
  · rw [wordE, dif_pos h]
    split
    · exact wordE_stop L (i + 1)
    · rename_i h1
      split
      · exact wordE_stop L (i + 2)
      · exact h1
  · rw [wordE, dif_neg h]; exact fun h2 => h (wy_lt h2)
termination_by L.length - i
theorem tokE_not {L : List Cel} {i : Nat} (h : ¬ wy L i) : (tokE L i).1 ≠ 1 := by
  unfold tokE
  rw [if_neg h]
  split
  · exact (by decide : (2 : Int) ≠ 1)
  · split
    · exact (by decide : (3 : Int) ≠ 1)
    · split
      · exact (by decide : (4 : Int) ≠ 1)
      · exact (by decide : (5 : Int) ≠ 1)
theorem posAt_lt (s : ByteArray) (i j : Nat) (h : i < j) (hj : j ≤ (cells s 0).length) : posAt s (cells s 0) i < posAt s (cells s 0) j := by
  obtain ⟨h1, h2⟩ := cells_pos s 0
  unfold posAt
  rw [if_pos (by omega)]
  have hi : i < (cells s 0).length := by omega
  rw [List.getD, List.getElem?_eq_getElem hi]
  by_cases hjl : j < (cells s 0).length
  · rw [if_pos hjl, List.getD, List.getElem?_eq_getElem hjl]
    exact List.pairwise_iff_getElem.mp h2 i j hi hjl h
  · rw [if_neg hjl]
    exact (h1 _ (List.getElem_mem hi)).2
theorem toks_apart (s : ByteArray) (i : Nat) : ApartT (toks s 0 (cells s 0) i) := by
  by_cases h : i < (cells s 0).length
  · rw [toks_in h]
    have hg := tokE_gt (cells s 0) i h
    have hlt := posAt_lt s i (tokE (cells s 0) i).2 hg.1 hg.2
    have hl := posAt_le s (tokE (cells s 0) i).2
    refine ⟨by simp; omega, fun hk t' ht => ?_, toks_apart s (tokE (cells s 0) i).2⟩
    have hk' : (tokE (cells s 0) i).1 = 1 := hk
    have hw : wy (cells s 0) i := by
      by_cases hw : wy (cells s 0) i
      · exact hw
      · exact absurd hk' (tokE_not hw)
    have he : (tokE (cells s 0) i).2 = wordE (cells s 0) i := by unfold tokE; rw [if_pos hw]
    rw [he] at ht
    by_cases h2 : wordE (cells s 0) i < (cells s 0).length
    · rw [toks_in h2] at ht
      have : t' = _ := (Option.some.inj ht).symm
      rw [this]
      exact tokE_not (wordE_stop _ i)
    · rw [toks_out h2] at ht; cases ht
  · rw [toks_out h]; trivial
termination_by (cells s 0).length - i
decreasing_by omega
theorem wordsOf_good (s : ByteArray) : GoodW (wordsOf s).1.2 := by
  unfold wordsOf
  split
  · trivial
  · split
    · trivial
    · rename_i h1 _; rw [toksOf_fit h1]; exact apart_good (toks_apart s 0)
theorem wordsOf_back (s : ByteArray) (h : (wordsOf s).2 = 0) : (wordsOf s).1.1 ++ catW (wordsOf s).1.2 = s := by
  unfold wordsOf at h ⊢
  split
  · rename_i h1; rw [if_pos h1] at h; cases h
  · rename_i h1; rw [if_neg h1] at h
    split
    · rename_i h2; rw [if_pos h2] at h; cases h
    · exact specW_back s h1
theorem wordsOf_bad (s : ByteArray) (h : (wordsOf s).2 ≠ 0) : wordsOf s = ((.empty, []), 1) := by
  unfold wordsOf at h ⊢
  split
  · rfl
  · rename_i h1; rw [if_neg h1] at h
    split
    · rfl
    · rename_i h2; rw [if_neg h2] at h; exact absurd rfl h
theorem wordsOf_01 (s : ByteArray) : (wordsOf s).2 = 0 ∨ (wordsOf s).2 = 1 := by
  by_cases h : (wordsOf s).2 = 0
  · exact .inl h
  · rw [wordsOf_bad s h]; exact .inr rfl
theorem good_at : ∀ {l : List Wrd}, GoodW l → ∀ i (h : i < l.length), 0 < (l[i]).text.size ∧ (i + 1 < l.length → 0 < (l[i]).tail.size)
  | w :: ws, g, 0, h => ⟨g.1, fun h2 => g.2.1 (by intro e; subst e; simp at h2)⟩
  | w :: ws, g, i + 1, h => by
    have := good_at g.2.2 i (by simpa using h)
    simp only [List.getElem_cons_succ, List.length_cons]
    exact ⟨this.1, fun h2 => this.2 (by omega)⟩
theorem catW_mem {l : List Wrd} {w : Wrd} (h : w ∈ l) : w.text.size + w.tail.size ≤ (catW l).size := by
  induction l with
  | nil => cases h
  | cons v l ih =>
    simp only [catW, ByteArray.size_append]
    rcases List.mem_cons.mp h with rfl | h
    · omega
    · have := ih h; omega
end Go.Proofs.YtfodjmemdkibpaaDoor.V
