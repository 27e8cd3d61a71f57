/-
The document's cells, in plain words: the same as the program's.
-/
import Derived.Test.YtfodjmemdkibpaaDoorWa
import Derived.Test.YtfodjmemdkibpaaDoorMD
import Derived.Test.YtfodjmemdkibpaaDoorRa
namespace Go.Proofs.YtfodjmemdkibpaaDoor.V
open Go
set_option linter.unusedVariables false
def wantsV (b : Int) : Nat := if b < 128 then 1 else if 194 ≤ b ∧ b ≤ 223 then 2 else if 224 ≤ b ∧ b ≤ 239 then 3 else if 240 ≤ b ∧ b ≤ 244 then 4 else 0
def secondV (a b : Int) : Bool := if a = 224 then decide (160 ≤ b ∧ b ≤ 191) else if a = 237 then decide (128 ≤ b ∧ b ≤ 159) else if a = 240 then decide (144 ≤ b ∧ b ≤ 191) else if a = 244 then decide (128 ≤ b ∧ b ≤ 143) else decide (128 ≤ b ∧ b ≤ 191)
def fitsE (s : ByteArray) (i n k : Nat) : Nat := if h : k < n ∧ i + k < s.size then (if (k = 1 ∧ secondV (bt s i) (bt s (i + k)) = false) ∨ (1 < k ∧ ¬ (128 ≤ bt s (i + k) ∧ bt s (i + k) ≤ 191)) then k else fitsE s i n (k + 1)) else k
termination_by n - k
def fitsV (s : ByteArray) (i : Nat) : Nat := if wantsV (bt s i) = 0 then 0 else fitsE s i (wantsV (bt s i)) 1
theorem fitsE_out {s : ByteArray} {i n k : Nat} (h : ¬ (k < n ∧ i + k < s.size)) : fitsE s i n k = k := by rw [fitsE, dif_neg h]
theorem fitsE_bad {s : ByteArray} {i n k : Nat} (h : k < n ∧ i + k < s.size) (h2 : (k = 1 ∧ secondV (bt s i) (bt s (i + k)) = false) ∨ (1 < k ∧ ¬ (128 ≤ bt s (i + k) ∧ bt s (i + k) ≤ 191))) : fitsE s i n k = k := by rw [fitsE, dif_pos h, if_pos h2]
theorem fitsE_go {s : ByteArray} {i n k : Nat} (h : k < n ∧ i + k < s.size) (h2 : ¬ ((k = 1 ∧ secondV (bt s i) (bt s (i + k)) = false) ∨ (1 < k ∧ ¬ (128 ≤ bt s (i + k) ∧ bt s (i + k) ≤ 191)))) : fitsE s i n k = fitsE s i n (k + 1) := by rw [fitsE, dif_pos h, if_neg h2]
theorem fitsE_le (s : ByteArray) (i n k : Nat) (h : k ≤ n) : k ≤ fitsE s i n k ∧ fitsE s i n k ≤ n := by
  by_cases h1 : k < n ∧ i + k < s.size
  · by_cases h2 : (k = 1 ∧ secondV (bt s i) (bt s (i + k)) = false) ∨ (1 < k ∧ ¬ (128 ≤ bt s (i + k) ∧ bt s (i + k) ≤ 191))
    · rw [fitsE_bad h1 h2]; omega
    · rw [fitsE_go h1 h2]
      have := fitsE_le s i n (k + 1) (by omega); omega
  · rw [fitsE_out h1]; omega
termination_by n - k
/-- All behind k fit. -/
theorem fitsE_all (s : ByteArray) (i n k : Nat) (h : k ≤ n) : fitsE s i n k = n ↔ ∀ j, k ≤ j → j < n → i + j < s.size ∧ (j = 1 → secondV (bt s i) (bt s (i + j)) = true) ∧ (1 < j → 128 ≤ bt s (i + j) ∧ bt s (i + j) ≤ 191) := by
  by_cases h0 : k = n
  · subst h0
    rw [fitsE_out (by omega)]
    exact ⟨fun _ j h1 h2 => absurd h2 (by omega), fun _ => rfl⟩
  by_cases h1 : i + k < s.size
  · by_cases h2 : (k = 1 ∧ secondV (bt s i) (bt s (i + k)) = false) ∨ (1 < k ∧ ¬ (128 ≤ bt s (i + k) ∧ bt s (i + k) ≤ 191))
    · rw [fitsE_bad ⟨by omega, h1⟩ h2]
      refine ⟨fun e => absurd e h0, fun hall => ?_⟩
      have := hall k (Nat.le_refl _) (by omega)
      rcases h2 with ⟨e, h2⟩ | ⟨e, h2⟩
      · rw [this.2.1 e] at h2; cases h2
      · exact absurd (this.2.2 e) h2
    · rw [fitsE_go ⟨by omega, h1⟩ h2, fitsE_all s i n (k + 1) (by omega)]
      refine ⟨fun hall j hj hn => ?_, fun hall j hj hn => hall j (by omega) hn⟩
      by_cases e : j = k
      · subst e
        refine ⟨h1, fun e1 => ?_, fun e1 => ?_⟩
        · cases hsec : secondV (bt s i) (bt s (i + j)) with
          | true => rfl
          | false => exact absurd (.inl ⟨e1, hsec⟩) h2
        · exact Classical.byContradiction fun hc => h2 (.inr ⟨e1, hc⟩)
      · exact hall j (by omega) hn
  · rw [fitsE_out (by omega)]
    exact ⟨fun e => absurd e h0, fun hall => absurd (hall k (Nat.le_refl _) (by omega)).1 h1⟩
termination_by n - k
theorem secondV_iff (a b : Int) : secondV a b = true ↔ (a = 224 ∧ 160 ≤ b ∧ b ≤ 191) ∨ (a = 237 ∧ 128 ≤ b ∧ b ≤ 159) ∨ (a = 240 ∧ 144 ≤ b ∧ b ≤ 191) ∨ (a = 244 ∧ 128 ≤ b ∧ b ≤ 143) ∨ (a ≠ 224 ∧ a ≠ 237 ∧ a ≠ 240 ∧ a ≠ 244 ∧ 128 ≤ b ∧ b ≤ 191) := by
  unfold secondV
  repeat' split
  all_goals (rw [decide_eq_true_iff]; omega)
theorem dec_at (s : ByteArray) (i : Nat) : Utf8.decode s i = Lib.decodeN (s.size - i) (bt s i).toNat (bt s (i + 1)).toNat (bt s (i + 2)).toNat (bt s (i + 3)).toNat := by
  rw [Lib.decode_at, bt_get, bt_get, bt_get, bt_get]
/-- No rune begins so. -/
theorem dec_none (s : ByteArray) (i : Nat) (h : wantsV (bt s i) = 0) : Utf8.decode s i = (65533, 1) := by
  have hb := bt_lt s i
  rw [dec_at]
  generalize bt s i = b0 at *
  unfold wantsV at h
  have : 128 ≤ b0 ∧ (b0 < 194 ∨ 244 < b0) := by
    repeat' split at h
    all_goals first | (exact absurd h (by decide)) | omega
  unfold Lib.decodeN
  repeat' split
  all_goals first | rfl | (exfalso; omega)
def valE (s : ByteArray) (i n : Nat) : Int := if n = 2 then bt s i % 32 * 64 + bt s (i + 1) % 64 else if n = 3 then bt s i % 16 * 4096 + bt s (i + 1) % 64 * 64 + bt s (i + 2) % 64 else if n = 4 then bt s i % 8 * 262144 + bt s (i + 1) % 64 * 4096 + bt s (i + 2) % 64 * 64 + bt s (i + 3) % 64 else bt s i
theorem cellAt_bad (s : ByteArray) (i : Nat) (h : Utf8.decode s i = (65533, 1)) : cellAt s i = ⟨i, 1, 65533, true, bt s i⟩ := by
  unfold cellAt
  rw [h, if_pos ⟨rfl, rfl⟩]
theorem cellAt_good (s : ByteArray) (i r w : Nat) (h : Utf8.decode s i = (r, w)) (hr : ¬ (r = 65533 ∧ w = 1)) : cellAt s i = ⟨i, w, r, false, 0⟩ := by
  unfold cellAt
  rw [h, if_neg hr]
theorem dec_cases (s : ByteArray) (i : Nat) (hi : i < s.size) (h : wantsV (bt s i) ≠ 0) :
    (fitsE s i (wantsV (bt s i)) 1 < wantsV (bt s i) → Utf8.decode s i = (65533, 1)) ∧
    (¬ fitsE s i (wantsV (bt s i)) 1 < wantsV (bt s i) → Utf8.decode s i = ((valE s i (wantsV (bt s i))).toNat, wantsV (bt s i)) ∧ 0 ≤ valE s i (wantsV (bt s i)) ∧ (wantsV (bt s i) = 1 → valE s i (wantsV (bt s i)) < 128)) := by
  have hb := bt_lt s i
  have hb1 := bt_lt s (i + 1)
  have hb2 := bt_lt s (i + 2)
  have hb3 := bt_lt s (i + 3)
  have hle := fitsE_le s i (wantsV (bt s i)) 1 (by omega)
  have hall := fitsE_all s i (wantsV (bt s i)) 1 (by omega)
  have hw : (wantsV (bt s i) = 1 ∧ bt s i < 128) ∨ (wantsV (bt s i) = 2 ∧ 194 ≤ bt s i ∧ bt s i ≤ 223) ∨ (wantsV (bt s i) = 3 ∧ 224 ≤ bt s i ∧ bt s i ≤ 239) ∨ (wantsV (bt s i) = 4 ∧ 240 ≤ bt s i ∧ bt s i ≤ 244) := by
    unfold wantsV at h ⊢
    repeat' split
    all_goals first | omega | (exfalso; rw [if_neg (by omega), if_neg (by omega), if_neg (by omega), if_neg (by omega)] at h; exact h rfl)
  generalize hF : fitsE s i (wantsV (bt s i)) 1 = F at *
  rw [dec_at]
  unfold valE
  generalize hW : wantsV (bt s i) = W at *
  rcases hw with ⟨e, h1⟩ | ⟨e, h1⟩ | ⟨e, h1⟩ | ⟨e, h1⟩
  all_goals subst e
  · refine ⟨fun hlt => absurd hlt (by omega), fun _ => ?_⟩
    simp only [show ¬ (1 = 2) by decide, show ¬ (1 = 3) by decide, show ¬ (1 = 4) by decide, if_false]
    refine ⟨?_, by omega, fun _ => by omega⟩
    unfold Lib.decodeN
    rw [if_pos (by omega)]
  · have ha : (F = 2 ↔ i + 1 < s.size ∧ 128 ≤ bt s (i + 1) ∧ bt s (i + 1) ≤ 191) := by
      rw [hall]
      refine ⟨fun hall => ?_, fun hc j h2 h3 => ?_⟩
      · have h2 := hall 1 (by omega) (by omega)
        have h3 := (secondV_iff _ _).mp (h2.2.1 rfl)
        omega
      · have : j = 1 := by omega
        subst this
        exact ⟨hc.1, fun _ => (secondV_iff _ _).mpr (by omega), fun h => absurd h (by omega)⟩
    simp only [show ¬ (2 = 3) by decide, show ¬ (2 = 4) by decide, if_false, if_true]
    generalize bt s i = b0 at *
    generalize bt s (i + 1) = b1 at *
    generalize bt s (i + 2) = b2 at *
    generalize bt s (i + 3) = b3 at *
    clear hall hF hW
    refine ⟨fun hlt => ?_, fun hlt => ⟨?_, by omega, fun h => absurd h (by decide)⟩⟩
    · have : ¬ (i + 1 < s.size ∧ 128 ≤ b1 ∧ b1 ≤ 191) := fun hc => by have := ha.mpr hc; omega
      unfold Lib.decodeN
      repeat' split
      all_goals first | rfl | (exfalso; omega)
    · have : (i + 1 < s.size ∧ 128 ≤ b1 ∧ b1 ≤ 191) := ha.mp (by omega)
      unfold Lib.decodeN
      rw [if_neg (by omega), if_pos (by omega), if_pos (by omega)]
      congr 1; omega
  · have ha : (F = 3 ↔ i + 1 < s.size ∧ secondV (bt s i) (bt s (i + 1)) = true ∧ i + 2 < s.size ∧ 128 ≤ bt s (i + 2) ∧ bt s (i + 2) ≤ 191) := by
      rw [hall]
      refine ⟨fun hall => ?_, fun hc j h2 h3 => ?_⟩
      · have h2 := hall 1 (by omega) (by omega)
        have h3 := hall 2 (by omega) (by omega)
        exact ⟨h2.1, h2.2.1 rfl, h3.1, h3.2.2 (by omega)⟩
      · rcases (by omega : j = 1 ∨ j = 2) with e | e <;> subst e
        · exact ⟨hc.1, fun _ => hc.2.1, fun h => absurd h (by omega)⟩
        · exact ⟨hc.2.2.1, fun h => absurd h (by omega), fun _ => hc.2.2.2⟩
    rw [secondV_iff] at ha
    simp only [show ¬ (3 = 2) by decide, show ¬ (3 = 4) by decide, if_false, if_true]
    generalize bt s i = b0 at *
    generalize bt s (i + 1) = b1 at *
    generalize bt s (i + 2) = b2 at *
    generalize bt s (i + 3) = b3 at *
    clear hall hF hW
    refine ⟨fun hlt => ?_, fun hlt => ⟨?_, by omega, fun h => absurd h (by decide)⟩⟩
    · have : ¬ (i + 1 < s.size ∧ _ ∧ i + 2 < s.size ∧ 128 ≤ b2 ∧ b2 ≤ 191) := fun hc => by have := ha.mpr hc; omega
      unfold Lib.decodeN
      repeat' split
      all_goals first | rfl | (exfalso; omega)
    · have := ha.mp (by omega)
      unfold Lib.decodeN
      rw [if_neg (by omega), if_neg (by omega), if_pos (by omega), if_pos (by omega)]
      congr 1; omega
  · have ha : (F = 4 ↔ i + 1 < s.size ∧ secondV (bt s i) (bt s (i + 1)) = true ∧ i + 2 < s.size ∧ (128 ≤ bt s (i + 2) ∧ bt s (i + 2) ≤ 191) ∧ i + 3 < s.size ∧ 128 ≤ bt s (i + 3) ∧ bt s (i + 3) ≤ 191) := by
      rw [hall]
      refine ⟨fun hall => ?_, fun hc j h2 h3 => ?_⟩
      · have h2 := hall 1 (by omega) (by omega)
        have h3 := hall 2 (by omega) (by omega)
        have h4 := hall 3 (by omega) (by omega)
        exact ⟨h2.1, h2.2.1 rfl, h3.1, h3.2.2 (by omega), h4.1, h4.2.2 (by omega)⟩
      · rcases (by omega : j = 1 ∨ j = 2 ∨ j = 3) with e | e | e <;> subst e
        · exact ⟨hc.1, fun _ => hc.2.1, fun h => absurd h (by omega)⟩
        · exact ⟨hc.2.2.1, fun h => absurd h (by omega), fun _ => hc.2.2.2.1⟩
        · exact ⟨hc.2.2.2.2.1, fun h => absurd h (by omega), fun _ => hc.2.2.2.2.2⟩
    rw [secondV_iff] at ha
    simp only [show ¬ (4 = 2) by decide, show ¬ (4 = 3) by decide, if_false, if_true]
    generalize bt s i = b0 at *
    generalize bt s (i + 1) = b1 at *
    generalize bt s (i + 2) = b2 at *
    generalize bt s (i + 3) = b3 at *
    clear hall hF hW
    refine ⟨fun hlt => ?_, fun hlt => ⟨?_, by omega, fun h => absurd h (by decide)⟩⟩
    · have : ¬ (i + 1 < s.size ∧ _ ∧ i + 2 < s.size ∧ (128 ≤ b2 ∧ b2 ≤ 191) ∧ i + 3 < s.size ∧ 128 ≤ b3 ∧ b3 ≤ 191) := fun hc => by have := ha.mpr hc; omega
      unfold Lib.decodeN
      repeat' split
      all_goals first | rfl | (exfalso; omega)
    · have := ha.mp (by omega)
      unfold Lib.decodeN
      rw [if_neg (by omega), if_neg (by omega), if_neg (by omega), if_pos (by omega), if_pos (by omega)]
      congr 1; omega
end Go.Proofs.YtfodjmemdkibpaaDoor.V
