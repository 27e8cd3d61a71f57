/-
A rune's kind, in plain words.
-/
import Derived.Test.YtfodjmemdkibpaaDoorRa
namespace Go.Proofs.YtfodjmemdkibpaaDoor.V
open Go
set_option linter.unusedVariables false
abbrev isJoiner (r : Int) : Prop := r = 39 ∨ r = 45 ∨ r = 173 ∨ (8204 ≤ r ∧ r ≤ 8205) ∨ r = 8217
abbrev isDigit (r : Int) : Prop := (48 ≤ r ∧ r ≤ 57) ∨ (1632 ≤ r ∧ r ≤ 1641)
abbrev isLetter (r : Int) : Prop := (65 ≤ r ∧ r ≤ 90) ∨ (97 ≤ r ∧ r ≤ 122) ∨ r = 170 ∨ r = 181 ∨ r = 186 ∨ (192 ≤ r ∧ r ≤ 214) ∨ (216 ≤ r ∧ r ≤ 246) ∨ (248 ≤ r ∧ r ≤ 687) ∨ (880 ≤ r ∧ r ≤ 893) ∨ (895 ≤ r ∧ r ≤ 902) ∨ (904 ≤ r ∧ r ≤ 1153) ∨ (1162 ≤ r ∧ r ≤ 1327) ∨ (7680 ≤ r ∧ r ≤ 8191) ∨ (64256 ≤ r ∧ r ≤ 64262) ∨ r = 9676
abbrev isAccent (r : Int) : Prop := (768 ≤ r ∧ r ≤ 879) ∨ (1155 ≤ r ∧ r ≤ 1161) ∨ (7616 ≤ r ∧ r ≤ 7679) ∨ (8400 ≤ r ∧ r ≤ 8447)
abbrev isLine (r : Int) : Prop := r = 10 ∨ r = 13 ∨ r = 133 ∨ (8232 ≤ r ∧ r ≤ 8233)
abbrev isBlank (r : Int) : Prop := r = 9 ∨ (11 ≤ r ∧ r ≤ 12) ∨ r = 32 ∨ r = 160 ∨ (8194 ≤ r ∧ r ≤ 8202) ∨ r = 8239 ∨ r = 12288
abbrev isPoint (r : Int) : Prop := (33 ≤ r ∧ r ≤ 126) ∨ (161 ≤ r ∧ r ≤ 191) ∨ r = 903 ∨ (8208 ≤ r ∧ r ≤ 8231) ∨ (8240 ≤ r ∧ r ≤ 8286)
def kOf (r : Int) : Int := if isJoiner r then 4 else if isDigit r then 3 else if isLetter r then 1 else if isAccent r then 2 else if isLine r then 6 else if isBlank r then 5 else if isPoint r then 7 else 0
def kCel (c : Cel) : Int := if c.bad then 1 else kOf c.r
theorem kOf_joiner {r : Int} (h : isJoiner r) : kOf r = 4 := by
  unfold kOf
  rw [if_pos h]
theorem kOf_digit {r : Int} (h : isDigit r) : kOf r = 3 := by
  unfold kOf
  rw [if_neg (by unfold isJoiner; unfold isDigit at h; omega), if_pos h]
theorem kOf_letter {r : Int} (h : isLetter r) : kOf r = 1 := by
  unfold kOf
  rw [if_neg (by unfold isJoiner; unfold isLetter at h; omega), if_neg (by unfold isDigit; unfold isLetter at h; omega), if_pos h]
theorem kOf_accent {r : Int} (h : isAccent r) : kOf r = 2 := by
  unfold kOf
  rw [if_neg (by unfold isJoiner; unfold isAccent at h; omega), if_neg (by unfold isDigit; unfold isAccent at h; omega), if_neg (by unfold isLetter; unfold isAccent at h; omega), if_pos h]
theorem kOf_line {r : Int} (h : isLine r) : kOf r = 6 := by
  unfold kOf
  rw [if_neg (by unfold isJoiner; unfold isLine at h; omega), if_neg (by unfold isDigit; unfold isLine at h; omega), if_neg (by unfold isLetter; unfold isLine at h; omega), if_neg (by unfold isAccent; unfold isLine at h; omega), if_pos h]
theorem kOf_blank {r : Int} (h : isBlank r) : kOf r = 5 := by
  unfold kOf
  rw [if_neg (by unfold isJoiner; unfold isBlank at h; omega), if_neg (by unfold isDigit; unfold isBlank at h; omega), if_neg (by unfold isLetter; unfold isBlank at h; omega), if_neg (by unfold isAccent; unfold isBlank at h; omega), if_neg (by unfold isLine; unfold isBlank at h; omega), if_pos h]
theorem kOf_point {r : Int} (h : isPoint r) (h0 : ¬ isJoiner r) (h1 : ¬ isDigit r) (h2 : ¬ isLetter r) : kOf r = 7 := by
  unfold kOf
  rw [if_neg h0, if_neg h1, if_neg h2, if_neg (by unfold isAccent; unfold isPoint at h; omega), if_neg (by unfold isLine; unfold isPoint at h; omega), if_neg (by unfold isBlank; unfold isPoint at h; omega), if_pos h]
theorem kOf_other {r : Int} (h0 : ¬ isJoiner r) (h1 : ¬ isDigit r) (h2 : ¬ isLetter r) (h3 : ¬ isAccent r) (h4 : ¬ isLine r) (h5 : ¬ isBlank r) (h6 : ¬ isPoint r) : kOf r = 0 := by
  unfold kOf
  rw [if_neg h0, if_neg h1, if_neg h2, if_neg h3, if_neg h4, if_neg h5, if_neg h6]
theorem kOf_range (r : Int) : 0 ≤ kOf r ∧ kOf r ≤ 7 := by
  unfold kOf
  repeat' split
  all_goals omega
theorem kCel_range (c : Cel) : 0 ≤ kCel c ∧ kCel c ≤ 7 := by
  unfold kCel
  split
  · omega
  · exact kOf_range _
def wordy (k : Int) : Bool := decide (k = 1 ∨ k = 2 ∨ k = 3)
end Go.Proofs.YtfodjmemdkibpaaDoor.V
