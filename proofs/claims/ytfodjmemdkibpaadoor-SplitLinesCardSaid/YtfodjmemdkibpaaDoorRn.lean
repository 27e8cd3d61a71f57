/-
Two texts with a newline between them: the words of the whole are the words of the two.
-/
import Derived.Test.YtfodjmemdkibpaaDoorRm
namespace Go.Proofs.YtfodjmemdkibpaaDoor.V
open Go
set_option linter.unusedVariables false
set_option linter.unusedSimpArgs false
set_option maxRecDepth 100000
theorem cells_join (s t : ByteArray) : cells (joinT s t) 0 = jL (cells s 0) (cells t 0) s.size := cells_lo s t 0 (Nat.zero_le _)
theorem extract_lo {s t : ByteArray} {p q : Nat} (h : q ≤ s.size) : (joinT s t).extract p q = s.extract p q := by
  unfold joinT
  apply ByteArray.ext
  simp only [ByteArray.data_extract, ByteArray.data_append, Array.append_assoc]
  rw [Array.extract_append]
  have e1 : q - s.data.size = 0 := by show q - s.size = 0; omega
  rw [e1]
  simp
theorem extract_hi (s t : ByteArray) (p q : Nat) : (joinT s t).extract (s.size + 1 + p) (s.size + 1 + q) = t.extract p q := by
  unfold joinT
  apply ByteArray.ext
  simp only [ByteArray.data_extract, ByteArray.data_append]
  rw [Array.extract_append]
  have e0 : (s.data ++ nl.data).size = s.size + 1 := by rw [Array.size_append]; rfl
  rw [e0]
  have e1 : s.size + 1 + p - (s.size + 1) = p := by omega
  have e2 : s.size + 1 + q - (s.size + 1) = q := by omega
  rw [e1, e2]
  have e3 : (s.data ++ nl.data).extract (s.size + 1 + p) (s.size + 1 + q) = #[] := by
    apply Array.eq_empty_of_size_eq_zero
    simp only [Array.size_extract, e0]
    omega
  rw [e3]; simp
theorem extract_mid (s t : ByteArray) : (joinT s t).extract s.size (s.size + 1) = nl := by
  unfold joinT
  apply ByteArray.ext
  simp only [ByteArray.data_extract, ByteArray.data_append]
  rw [Array.extract_append]
  have e0 : (s.data ++ nl.data).size = s.size + 1 := by rw [Array.size_append]; rfl
  rw [e0, Nat.sub_self]
  have e1 : s.size - (s.size + 1) = 0 := by omega
  rw [e1, Array.extract_append]
  have e2 : s.data.size = s.size := rfl
  rw [e2, Nat.sub_self]
  have e3 : s.size + 1 - s.size = 1 := by omega
  rw [e3]
  have e4 : s.data.extract s.size (s.size + 1) = #[] := by
    apply Array.eq_empty_of_size_eq_zero
    simp only [Array.size_extract, e2]
    omega
  rw [e4]
  simp only [Array.empty_append]
  apply Array.ext'
  simp
  rfl
theorem posAt_lo (s t : ByteArray) (i : Nat) (h : i ≤ (cells s 0).length) : posAt (joinT s t) (jL (cells s 0) (cells t 0) s.size) i = posAt s (cells s 0) i := by
  unfold posAt
  rw [if_pos (by rw [jL_len]; omega)]
  by_cases h2 : i < (cells s 0).length
  · rw [if_pos h2, jL_lo h2]
  · have : i = (cells s 0).length := by omega
    rw [if_neg h2, this, jL_mid]; rfl
theorem posAt_hi (s t : ByteArray) (i : Nat) : posAt (joinT s t) (jL (cells s 0) (cells t 0) s.size) ((cells s 0).length + 1 + i) = s.size + 1 + posAt t (cells t 0) i := by
  unfold posAt
  by_cases h2 : i < (cells t 0).length
  · rw [if_pos (by rw [jL_len]; omega), if_pos h2, jL_hi h2]
    show _ + (s.size + 1) = _
    omega
  · rw [if_neg (by rw [jL_len]; omega), if_neg h2, joinT_size]
def NoCr (s : ByteArray) : Prop := ∀ i, i + 1 = (cells s 0).length → ((cells s 0).getD i cel0).r ≠ 13
theorem toks_lo (s t : ByteArray) (hcr : NoCr s) : ∀ (d i : Nat), (cells s 0).length - i = d → i ≤ (cells s 0).length →
    toks (joinT s t) 0 (jL (cells s 0) (cells t 0) s.size) i = toks s 0 (cells s 0) i ++ toks (joinT s t) 0 (jL (cells s 0) (cells t 0) s.size) (cells s 0).length := by
  intro d
  induction d using Nat.strongRecOn with
  | ind d ih =>
    intro i hd hi
    by_cases h : i < (cells s 0).length
    · have hg := tokE_gt (cells s 0) i h
      have htk := tokE_lo (Lt := cells t 0) (n := s.size) h (hcr i)
      rw [toks_in (show i < (jL (cells s 0) (cells t 0) s.size).length by rw [jL_len]; omega), toks_in h, htk, ih _ (by omega) (tokE (cells s 0) i).2 rfl (by omega), posAt_lo s t i (by omega), posAt_lo s t _ hg.2, extract_lo (posAt_le s _)]
      rfl
    · have : i = (cells s 0).length := by omega
      subst this
      rw [toks_out h]; rfl
theorem toks_hi (s t : ByteArray) : ∀ (d i : Nat), (cells t 0).length - i = d →
    toks (joinT s t) 0 (jL (cells s 0) (cells t 0) s.size) ((cells s 0).length + 1 + i) = (toks t 0 (cells t 0) i).map (fun k => ⟨k.kind, k.at' + (s.size + 1 : Nat), k.text⟩) := by
  intro d
  induction d using Nat.strongRecOn with
  | ind d ih =>
    intro i hd
    by_cases h : i < (cells t 0).length
    · have hg := tokE_gt (cells t 0) i h
      have htk := tokE_hi (Ls := cells s 0) (n := s.size) h
      rw [toks_in (show (cells s 0).length + 1 + i < (jL (cells s 0) (cells t 0) s.size).length by rw [jL_len]; omega), toks_in h, htk]
      simp only []
      rw [ih _ (by omega) (tokE (cells t 0) i).2 rfl, posAt_hi, posAt_hi, extract_hi, List.map_cons]
      congr 2
      simp; omega
    · rw [toks_out (by rw [jL_len]; omega), toks_out h]; rfl
theorem toks_join (s t : ByteArray) (hcr : NoCr s) :
    toks (joinT s t) 0 (cells (joinT s t) 0) 0 = toks s 0 (cells s 0) 0 ++ ⟨3, s.size, nl⟩ :: (toks t 0 (cells t 0) 0).map (fun k => ⟨k.kind, k.at' + (s.size + 1 : Nat), k.text⟩) := by
  rw [cells_join, toks_lo s t hcr _ 0 rfl (Nat.zero_le _)]
  congr 1
  rw [toks_in (by rw [jL_len]; omega), tokE_mid]
  simp only []
  have h1 := posAt_lo s t (cells s 0).length (Nat.le_refl _)
  have h2 := posAt_hi s t 0
  rw [Nat.add_zero] at h2
  have h3 := toks_hi s t _ 0 rfl
  rw [Nat.add_zero] at h3
  have h4 : posAt s (cells s 0) (cells s 0).length = s.size := by unfold posAt; rw [if_neg (by omega)]
  have h5 : posAt t (cells t 0) 0 = 0 := posAt_zero t
  rw [h1, h2, h3, h4, h5, Nat.add_zero, extract_mid, Int.zero_add]
/-- What follows is hung to the last word, or to what stands ahead. -/
def hang (x y : ByteArray × List Wrd) : ByteArray × List Wrd :=
  if x.2.length = 0 then (x.1 ++ y.1, y.2) else (x.1, x.2.set (x.2.length - 1) ⟨(x.2.getD (x.2.length - 1) tWrd.z).text, (x.2.getD (x.2.length - 1) tWrd.z).tail ++ y.1⟩ ++ y.2)
theorem specW_cons (t : Tok) (ts : List Tok) : specW (t :: ts) = if t.kind = 1 then (.empty, ⟨t.text, (specW ts).1⟩ :: (specW ts).2) else (t.text ++ (specW ts).1, (specW ts).2) := rfl
theorem specW_map (d : Int) : ∀ (ts : List Tok), specW (ts.map (fun k => ⟨k.kind, k.at' + d, k.text⟩)) = specW ts
  | [] => rfl
  | t :: ts => by
    rw [List.map_cons, specW_cons, specW_cons, specW_map d ts]
theorem specW_app : ∀ (A B : List Tok), specW (A ++ B) = hang (specW A) (specW B)
  | [], B => by simp [specW, hang]
  | t :: A, B => by
    rw [List.cons_append]
    have ih := specW_app A B
    rw [specW_cons, specW_cons]
    by_cases hk : t.kind = 1
    · rw [if_pos hk, if_pos hk, ih]
      unfold hang
      simp only [List.length_cons]
      by_cases h0 : (specW A).2.length = 0
      · have e : (specW A).2 = [] := List.length_eq_zero_iff.mp h0
        rw [if_pos h0, e]
        simp
      · rw [if_neg h0, if_neg (by omega)]
        have e1 : (specW A).2.length + 1 - 1 = ((specW A).2.length - 1) + 1 := by omega
        rw [e1, List.set_cons_succ, List.getD_cons_succ]
        rfl
    · rw [if_neg hk, if_neg hk, ih]
      unfold hang
      by_cases h0 : (specW A).2.length = 0
      · rw [if_pos h0, if_pos h0]; simp [ByteArray.append_assoc]
      · rw [if_neg h0, if_neg h0]
theorem specW_join (s t : ByteArray) (hcr : NoCr s) : specW (toks (joinT s t) 0 (cells (joinT s t) 0) 0) = hang (specW (toks s 0 (cells s 0) 0)) (nl ++ (specW (toks t 0 (cells t 0) 0)).1, (specW (toks t 0 (cells t 0) 0)).2) := by
  rw [toks_join s t hcr, specW_app]
  congr 1
  rw [specW_cons, if_neg (show ¬ (3 : Int) = 1 by decide), specW_map ((s.size + 1 : Nat) : Int) (toks t 0 (cells t 0) 0)]
/-- The last rune is no carriage return where the last byte is none. -/
theorem noCr_last (s : ByteArray) (p : Nat) (i : Nat) (hi : i + 1 = (cells s p).length) (hr : ((cells s p).getD i cel0).r = 13) : 0 < s.size ∧ bt s (s.size - 1) = 13 := by
  by_cases h : p < s.size
  · have hw := Lib.width_pos s p
    have hf := decode_fit s p h
    rw [cells_in h] at hi hr
    cases i with
    | zero =>
      have hn : (cells s (p + (Utf8.decode s p).2)).length = 0 := by simpa using hi.symm
      have hpe : ¬ p + (Utf8.decode s p).2 < s.size := fun h2 => by rw [cells_in h2] at hn; simp at hn
      rw [List.getD_cons_zero] at hr
      have hd : Utf8.decode s p = (13, 1) := by
        unfold cellAt at hr
        split at hr
        · exact absurd (show (65533 : Int) = 13 from hr) (by decide)
        · have h13 : (Utf8.decode s p).1 = 13 := by
            have : ((Utf8.decode s p).1 : Int) = 13 := hr
            omega
          have hb := bt_lt s p
          rw [dec_at] at h13 ⊢
          unfold Lib.decodeN at h13 ⊢
          repeat' split at h13
          all_goals first | (exfalso; simp only [] at h13; omega) | skip
          rw [if_pos (by assumption)]
          simp only [] at h13
          rw [h13]
      rw [hd] at hpe
      have hps : p = s.size - 1 := by simp only [] at hpe; omega
      refine ⟨by omega, ?_⟩
      have hb := bt_lt s p
      rw [dec_at] at hd
      unfold Lib.decodeN at hd
      rw [← hps]
      repeat' split at hd
      all_goals (have h1 := congrArg Prod.fst hd; simp only [] at h1; omega)
    | succ i =>
      rw [List.getD_cons_succ] at hr
      exact noCr_last s _ i (by simpa using hi) hr
  · rw [cells_out h] at hi; simp at hi
termination_by s.size - p
theorem noCr_of (s : ByteArray) (h : s.size = 0 ∨ bt s (s.size - 1) ≠ 13) : NoCr s := fun i hi hr => by
  obtain ⟨h1, h2⟩ := noCr_last s 0 i hi hr
  rcases h with h | h
  · omega
  · exact h h2
end Go.Proofs.YtfodjmemdkibpaaDoor.V
