/-
Two texts with a newline between them: the tokens, the words.
-/
import Derived.Test.YtfodjmemdkibpaaDoorRl
namespace Go.Proofs.YtfodjmemdkibpaaDoor.V
open Go
set_option linter.unusedVariables false
set_option linter.unusedSimpArgs false
set_option maxRecDepth 100000
section
variable {Ls Lt : List Cel} {n : Nat}
abbrev jL (Ls Lt : List Cel) (n : Nat) : List Cel := Ls ++ nlC n :: Lt.map (shiftC (n + 1))
theorem jL_len : (jL Ls Lt n).length = Ls.length + 1 + Lt.length := by simp; omega
theorem jL_lo {i : Nat} (h : i < Ls.length) : (jL Ls Lt n).getD i cel0 = Ls.getD i cel0 := by simp [List.getD, List.getElem?_append_left h]
theorem jL_mid : (jL Ls Lt n).getD Ls.length cel0 = nlC n := by simp [List.getD]
theorem jL_hi {i : Nat} (h : i < Lt.length) : (jL Ls Lt n).getD (Ls.length + 1 + i) cel0 = shiftC (n + 1) (Lt.getD i cel0) := by
  simp only [List.getD]
  rw [List.getElem?_append_right (by omega), show Ls.length + 1 + i - Ls.length = i + 1 by omega, List.getElem?_cons_succ, List.getElem?_map, List.getElem?_eq_getElem h]; rfl
theorem kCel_shift (d : Nat) (c : Cel) : kCel (shiftC d c) = kCel c := rfl
theorem knd_lo {i : Nat} (h : i < Ls.length) : knd (jL Ls Lt n) i = knd Ls i := by
  unfold knd
  rw [if_pos (by rw [jL_len]; omega), if_pos h, jL_lo h]
theorem knd_mid : knd (jL Ls Lt n) Ls.length = 6 := by
  unfold knd
  rw [if_pos (by rw [jL_len]; omega), jL_mid]
  show kOf 10 = 6
  decide
theorem knd_hi (i : Nat) : knd (jL Ls Lt n) (Ls.length + 1 + i) = knd Lt i := by
  unfold knd
  by_cases h : i < Lt.length
  · rw [if_pos (by rw [jL_len]; omega), if_pos h, jL_hi h, kCel_shift]
  · rw [if_neg (by rw [jL_len]; omega), if_neg h]
theorem wy_out {L : List Cel} {i : Nat} (h : ¬ i < L.length) : ¬ wy L i := fun h2 => h (wy_lt h2)
theorem not_wy_mid : ¬ wy (jL Ls Lt n) Ls.length := by unfold wy; rw [knd_mid]; decide
theorem wy_lo {i : Nat} (h : i ≤ Ls.length) : wy (jL Ls Lt n) i ↔ wy Ls i := by
  by_cases h2 : i < Ls.length
  · unfold wy; rw [knd_lo h2]
  · have : i = Ls.length := by omega
    subst this
    exact ⟨fun h3 => absurd h3 not_wy_mid, fun h3 => absurd h3 (wy_out h2)⟩
theorem wordE_lo : ∀ (d i : Nat), Ls.length - i = d → i ≤ Ls.length → wordE (jL Ls Lt n) i = wordE Ls i := by
  intro d
  induction d using Nat.strongRecOn with
  | ind d ih =>
    intro i hd hi
    by_cases h : i < Ls.length
    · rw [wordE.eq_def (jL Ls Lt n) i, wordE.eq_def Ls i, dif_pos (by rw [jL_len]; omega), dif_pos h]
      by_cases hw : wy Ls i
      · rw [if_pos hw, if_pos ((wy_lo hi).mpr hw), ih _ (by omega) (i + 1) rfl (by omega)]
      · rw [if_neg hw, if_neg (fun h2 => hw ((wy_lo hi).mp h2))]
        by_cases hk : knd Ls i = 4 ∧ wy Ls (i + 1)
        · have := wy_lt hk.2
          rw [if_pos hk, if_pos ⟨by rw [knd_lo h]; exact hk.1, (wy_lo (by omega)).mpr hk.2⟩, ih _ (by omega) (i + 2) rfl (by omega)]
        · rw [if_neg hk, if_neg (fun h2 => hk ⟨by rw [← knd_lo h]; exact h2.1, (wy_lo (by omega)).mp h2.2⟩)]
    · have : i = Ls.length := by omega
      subst this
      rw [wordE.eq_def (jL Ls Lt n), wordE.eq_def Ls, dif_pos (by rw [jL_len]; omega), dif_neg h, if_neg not_wy_mid, if_neg (fun h2 => absurd h2.1 (by rw [knd_mid]; decide))]
theorem blankE_lo : ∀ (d i : Nat), Ls.length - i = d → i ≤ Ls.length → blankE (jL Ls Lt n) i = blankE Ls i := by
  intro d
  induction d with
  | zero =>
    intro i hd hi
    have : i = Ls.length := by omega
    subst this
    rw [blankE.eq_def (jL Ls Lt n), blankE.eq_def Ls, dif_pos (by rw [jL_len]; omega), dif_neg (by omega), if_neg (by rw [knd_mid]; decide)]
  | succ d ih =>
    intro i hd hi
    have h : i < Ls.length := by omega
    rw [blankE.eq_def (jL Ls Lt n) i, blankE.eq_def Ls i, dif_pos (by rw [jL_len]; omega), dif_pos h, knd_lo h]
    by_cases hk : knd Ls i = 5
    · rw [if_pos hk, if_pos hk, ih (i + 1) (by omega) (by omega)]
    · rw [if_neg hk, if_neg hk]
theorem tokE_lo {i : Nat} (h : i < Ls.length) (hcr : i + 1 = Ls.length → (Ls.getD i cel0).r ≠ 13) : tokE (jL Ls Lt n) i = tokE Ls i := by
  unfold tokE
  rw [wordE_lo _ i rfl (by omega), blankE_lo _ i rfl (by omega), jL_lo h]
  have hk := knd_lo (Lt := Lt) (n := n) h
  have hc : ((Ls.getD i cel0).r = 13 ∧ i + 1 < (jL Ls Lt n).length ∧ ((jL Ls Lt n).getD (i + 1) cel0).r = 10) = ((Ls.getD i cel0).r = 13 ∧ i + 1 < Ls.length ∧ (Ls.getD (i + 1) cel0).r = 10) := by
    apply propext
    by_cases h1 : i + 1 < Ls.length
    · rw [jL_lo h1, jL_len]
      exact ⟨fun ⟨a, b, c⟩ => ⟨a, h1, c⟩, fun ⟨a, b, c⟩ => ⟨a, by omega, c⟩⟩
    · exact ⟨fun ⟨a, b, c⟩ => absurd a (hcr (by omega)), fun ⟨a, b, c⟩ => absurd b h1⟩
  have hw : wy (jL Ls Lt n) i = wy Ls i := propext (wy_lo (by omega))
  simp only [hk, hc, hw]
theorem wordE_hi : ∀ (d i : Nat), Lt.length - i = d → wordE (jL Ls Lt n) (Ls.length + 1 + i) = Ls.length + 1 + wordE Lt i := by
  intro d
  induction d using Nat.strongRecOn with
  | ind d ih =>
    intro i hd
    have hwy : ∀ j, wy (jL Ls Lt n) (Ls.length + 1 + j) = wy Lt j := fun j => by unfold wy; rw [knd_hi]
    rw [wordE.eq_def (jL Ls Lt n), wordE.eq_def Lt i]
    by_cases h : i < Lt.length
    · rw [dif_pos (by rw [jL_len]; omega), dif_pos h]
      have e1 : Ls.length + 1 + i + 1 = Ls.length + 1 + (i + 1) := by omega
      have e2 : Ls.length + 1 + i + 2 = Ls.length + 1 + (i + 2) := by omega
      simp only [e1, e2, knd_hi, hwy]
      by_cases h1 : wy Lt i
      · rw [if_pos h1, if_pos h1]; exact ih _ (by omega) (i + 1) rfl
      · rw [if_neg h1, if_neg h1]
        by_cases h2 : knd Lt i = 4 ∧ wy Lt (i + 1)
        · rw [if_pos h2, if_pos h2]; exact ih _ (by omega) (i + 2) rfl
        · rw [if_neg h2, if_neg h2]
    · rw [dif_neg (by rw [jL_len]; omega), dif_neg h]
theorem blankE_hi : ∀ (d i : Nat), Lt.length - i = d → blankE (jL Ls Lt n) (Ls.length + 1 + i) = Ls.length + 1 + blankE Lt i := by
  intro d
  induction d using Nat.strongRecOn with
  | ind d ih =>
    intro i hd
    rw [blankE.eq_def (jL Ls Lt n), blankE.eq_def Lt i]
    by_cases h : i < Lt.length
    · rw [dif_pos (by rw [jL_len]; omega), dif_pos h, knd_hi]
      split
      · exact ih _ (by omega) (i + 1) rfl
      · rfl
    · rw [dif_neg (by rw [jL_len]; omega), dif_neg h]
theorem tokE_hi {i : Nat} (h : i < Lt.length) : tokE (jL Ls Lt n) (Ls.length + 1 + i) = ((tokE Lt i).1, Ls.length + 1 + (tokE Lt i).2) := by
  unfold tokE
  have hwy : wy (jL Ls Lt n) (Ls.length + 1 + i) = wy Lt i := by unfold wy; rw [knd_hi]
  rw [wordE_hi _ i rfl, blankE_hi _ i rfl, jL_hi h]
  have hc : ((shiftC (n + 1) (Lt.getD i cel0)).r = 13 ∧ Ls.length + 1 + i + 1 < (jL Ls Lt n).length ∧ ((jL Ls Lt n).getD (Ls.length + 1 + i + 1) cel0).r = 10) = ((Lt.getD i cel0).r = 13 ∧ i + 1 < Lt.length ∧ (Lt.getD (i + 1) cel0).r = 10) := by
    apply propext
    rw [jL_len]
    by_cases h1 : i + 1 < Lt.length
    · rw [show Ls.length + 1 + i + 1 = Ls.length + 1 + (i + 1) by omega, jL_hi h1]
      exact ⟨fun ⟨a, b, c⟩ => ⟨a, h1, c⟩, fun ⟨a, b, c⟩ => ⟨a, by omega, c⟩⟩
    · exact ⟨fun ⟨a, b, c⟩ => absurd b (by omega), fun ⟨a, b, c⟩ => absurd b h1⟩
  simp only [knd_hi, hc, hwy]
  repeat' split
  all_goals rfl
theorem tokE_mid : tokE (jL Ls Lt n) Ls.length = (3, Ls.length + 1) := by
  unfold tokE
  rw [if_neg not_wy_mid, if_neg (by rw [knd_mid]; decide), if_pos knd_mid, jL_mid, if_neg (fun h => absurd (show (10 : Int) = 13 from h.1) (by decide))]
end
end Go.Proofs.YtfodjmemdkibpaaDoor.V
