/-
A text's cells, in plain words.
-/
import Derived.Test.YtfodjmemdkibpaaDoorMD
import Derived.Lib.TrimU
namespace Go.Proofs.YtfodjmemdkibpaaDoor.V
open Go
set_option linter.unusedVariables false
structure Cel where
  pos : Nat
  w : Nat
  r : Int
  bad : Bool
  byte : Int
def tCel : Ty Cel := ⟨5, fun c j => match j with | 0 => .int .i64 c.pos | 1 => .int .i64 c.w | 2 => .int .i32 c.r | 3 => .bool c.bad | _ => .int .u8 c.byte, ⟨0, 0, 0, false, 0⟩⟩
def cellAt (s : ByteArray) (p : Nat) : Cel := if (Utf8.decode s p).1 = 65533 ∧ (Utf8.decode s p).2 = 1 then ⟨p, 1, 65533, true, bt s p⟩ else ⟨p, (Utf8.decode s p).2, (Utf8.decode s p).1, false, 0⟩
def cells (s : ByteArray) (p : Nat) : List Cel := if p < s.size then cellAt s p :: cells s (p + (Utf8.decode s p).2) else []
termination_by s.size - p
decreasing_by have := Lib.width_pos s p; omega
theorem cells_in {s : ByteArray} {p : Nat} (h : p < s.size) : cells s p = cellAt s p :: cells s (p + (Utf8.decode s p).2) := by rw [cells, if_pos h]
theorem cells_out {s : ByteArray} {p : Nat} (h : ¬ p < s.size) : cells s p = [] := by rw [cells, if_neg h]
def runeLen (r : Int) : Int := if r < 0 then -1 else if r ≤ 127 then 1 else if r ≤ 2047 then 2 else if 55296 ≤ r ∧ r ≤ 57343 then -1 else if r ≤ 65535 then 3 else if r ≤ 1114111 then 4 else -1
/-- What is decoded has the length that its rune has, but for a bad byte. -/
theorem decode_len (s : ByteArray) (p : Nat) : runeLen (Utf8.decode s p).1 = (Utf8.decode s p).2 ∨ ((Utf8.decode s p).1 = 65533 ∧ (Utf8.decode s p).2 = 1) := by
  rw [Lib.decode_at]
  generalize (s.get! p).toNat = b0
  generalize (s.get! (p + 1)).toNat = b1
  generalize (s.get! (p + 2)).toNat = b2
  generalize (s.get! (p + 3)).toNat = b3
  unfold Lib.decodeN
  repeat' split
  all_goals first | exact .inr ⟨rfl, rfl⟩ | (refine .inl ?_; unfold runeLen; simp only []; repeat' split) <;> omega
theorem decode_fit (s : ByteArray) (p : Nat) (h : p < s.size) : (Utf8.decode s p).2 ≤ s.size - p := by
  rw [Lib.decode_at]
  unfold Lib.decodeN
  repeat' split
  all_goals (simp only []; omega)
theorem cells_len (s : ByteArray) (p : Nat) : (cells s p).length ≤ s.size - p := by
  by_cases h : p < s.size
  · have hw := Lib.width_pos s p
    have := cells_len s (p + (Utf8.decode s p).2)
    rw [cells_in h, List.length_cons]; omega
  · rw [cells_out h]; simp
termination_by s.size - p
end Go.Proofs.YtfodjmemdkibpaaDoor.V
