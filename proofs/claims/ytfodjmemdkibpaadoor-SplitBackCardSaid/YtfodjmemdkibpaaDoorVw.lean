/-
Numbers by their bits.
-/
import Derived.Test.YtfodjmemdkibpaaDoorVu
namespace Go.Proofs.YtfodjmemdkibpaaDoor.V
open Go
set_option linter.unusedSimpArgs false
set_option maxRecDepth 100000
theorem wrap32 {a : Int} (h1 : -2147483648 ≤ a) (h2 : a ≤ 2147483647) : IntKind.i32.wrap a = a := by
  show (if (true && decide (a % 4294967296 ≥ 2147483648)) = true then a % 4294967296 - 4294967296 else a % 4294967296) = a
  split
  · rename_i h
    have : a % 4294967296 ≥ 2147483648 := by simpa using h
    omega
  · rename_i h
    have : ¬ a % 4294967296 ≥ 2147483648 := by simpa using h
    omega
theorem and_u8 (m : Nat) (k : Nat) (h : ∀ n : Fin 256, IntKind.u8.wrap ↑(BitVec.ofInt IntKind.u8.bits (n.val : Int) &&& BitVec.ofInt IntKind.u8.bits (m : Int)).toNat = ((n.val % k : Nat) : Int)) (b : Int) (h1 : 0 ≤ b) (h2 : b < 256) :
    IntKind.u8.wrap ↑(BitVec.ofInt IntKind.u8.bits b &&& BitVec.ofInt IntKind.u8.bits (m : Int)).toNat = b % (k : Int) := by
  have := h ⟨b.toNat, by omega⟩
  simp only [Int.toNat_of_nonneg h1] at this
  rw [this]
  simp [Int.toNat_of_nonneg h1]
theorem and_u8_31 (b : Int) (h1 : 0 ≤ b) (h2 : b < 256) : IntKind.u8.wrap ↑(BitVec.ofInt IntKind.u8.bits b &&& BitVec.ofInt IntKind.u8.bits 31).toNat = b % 32 := and_u8 31 32 (by decide +kernel) b h1 h2
theorem and_u8_63 (b : Int) (h1 : 0 ≤ b) (h2 : b < 256) : IntKind.u8.wrap ↑(BitVec.ofInt IntKind.u8.bits b &&& BitVec.ofInt IntKind.u8.bits 63).toNat = b % 64 := and_u8 63 64 (by decide +kernel) b h1 h2
theorem and_u8_15 (b : Int) (h1 : 0 ≤ b) (h2 : b < 256) : IntKind.u8.wrap ↑(BitVec.ofInt IntKind.u8.bits b &&& BitVec.ofInt IntKind.u8.bits 15).toNat = b % 16 := and_u8 15 16 (by decide +kernel) b h1 h2
theorem and_u8_7 (b : Int) (h1 : 0 ≤ b) (h2 : b < 256) : IntKind.u8.wrap ↑(BitVec.ofInt IntKind.u8.bits b &&& BitVec.ofInt IntKind.u8.bits 7).toNat = b % 8 := and_u8 7 8 (by decide +kernel) b h1 h2
theorem or_i32 (x y : Int) (k : Nat) (hx : 0 ≤ x) (hy : 0 ≤ y) (h : x % (2 ^ k : Nat) = 0) (hk : y < (2 ^ k : Nat)) (hs : x + y < 2147483648) :
    IntKind.i32.wrap ↑(BitVec.ofInt IntKind.i32.bits x ||| BitVec.ofInt IntKind.i32.bits y).toNat = x + y := by
  have e1 : (BitVec.ofInt IntKind.i32.bits x).toNat = x.toNat := by
    show (BitVec.ofInt 32 x).toNat = _
    rw [BitVec.toNat_ofInt]; omega
  have e2 : (BitVec.ofInt IntKind.i32.bits y).toNat = y.toNat := by
    show (BitVec.ofInt 32 y).toNat = _
    rw [BitVec.toNat_ofInt]; omega
  rw [BitVec.toNat_or, e1, e2]
  have hd : x.toNat = 2 ^ k * (x.toNat / 2 ^ k) := by
    have : x.toNat % 2 ^ k = 0 := by
      have h3 : ((x.toNat % 2 ^ k : Nat) : Int) = 0 := by rw [Int.natCast_emod, Int.toNat_of_nonneg hx]; exact h
      omega
    have := Nat.div_add_mod x.toNat (2 ^ k)
    omega
  have h4 : y.toNat < 2 ^ k := by
    have : ((y.toNat : Nat) : Int) < (2 ^ k : Nat) := by rw [Int.toNat_of_nonneg hy]; exact hk
    exact_mod_cast this
  have h5 := Nat.two_pow_add_eq_or_of_lt h4 (x.toNat / 2 ^ k)
  rw [← hd] at h5
  rw [← h5]
  have h6 : ((x.toNat + y.toNat : Nat) : Int) = x + y := by omega
  rw [h6]
  exact wrap32 (by omega) (by omega)
theorem bits2 (a b : Int) (ha : 0 ≤ a ∧ a < 256) (hb : 0 ≤ b ∧ b < 256) : IntKind.i32.wrap ↑(BitVec.ofInt IntKind.i32.bits (IntKind.i32.wrap (IntKind.i32.wrap (IntKind.u8.wrap ↑(BitVec.ofInt IntKind.u8.bits a &&& BitVec.ofInt IntKind.u8.bits 31).toNat) * 2 ^ min (Int.toNat 6) IntKind.i32.bits)) ||| BitVec.ofInt IntKind.i32.bits (IntKind.i32.wrap (IntKind.u8.wrap ↑(BitVec.ofInt IntKind.u8.bits b &&& BitVec.ofInt IntKind.u8.bits 63).toNat))).toNat = a % 32 * 64 + b % 64 := by
  rw [and_u8_31 a ha.1 ha.2, and_u8_63 b hb.1 hb.2, wrap32 (a := a % 32) (by omega) (by omega), wrap32 (a := b % 64) (by omega) (by omega)]
  show IntKind.i32.wrap ↑(BitVec.ofInt IntKind.i32.bits (IntKind.i32.wrap (a % 32 * 64)) ||| BitVec.ofInt IntKind.i32.bits (b % 64)).toNat = _
  rw [wrap32 (a := a % 32 * 64) (by omega) (by omega)]
  exact or_i32 _ _ 6 (by omega) (by omega) (by omega) (by omega) (by omega)
theorem bits3 (a b c : Int) (ha : 0 ≤ a ∧ a < 256) (hb : 0 ≤ b ∧ b < 256) (hc : 0 ≤ c ∧ c < 256) : IntKind.i32.wrap ↑(BitVec.ofInt IntKind.i32.bits (IntKind.i32.wrap ↑(BitVec.ofInt IntKind.i32.bits (IntKind.i32.wrap (IntKind.i32.wrap (IntKind.u8.wrap ↑(BitVec.ofInt IntKind.u8.bits a &&& BitVec.ofInt IntKind.u8.bits 15).toNat) * 2 ^ min (Int.toNat 12) IntKind.i32.bits)) ||| BitVec.ofInt IntKind.i32.bits (IntKind.i32.wrap (IntKind.i32.wrap (IntKind.u8.wrap ↑(BitVec.ofInt IntKind.u8.bits b &&& BitVec.ofInt IntKind.u8.bits 63).toNat) * 2 ^ min (Int.toNat 6) IntKind.i32.bits))).toNat) ||| BitVec.ofInt IntKind.i32.bits (IntKind.i32.wrap (IntKind.u8.wrap ↑(BitVec.ofInt IntKind.u8.bits c &&& BitVec.ofInt IntKind.u8.bits 63).toNat))).toNat = a % 16 * 4096 + b % 64 * 64 + c % 64 := by
  rw [and_u8_15 a ha.1 ha.2, and_u8_63 b hb.1 hb.2, and_u8_63 c hc.1 hc.2, wrap32 (a := a % 16) (by omega) (by omega), wrap32 (a := b % 64) (by omega) (by omega), wrap32 (a := c % 64) (by omega) (by omega)]
  show IntKind.i32.wrap ↑(BitVec.ofInt IntKind.i32.bits (IntKind.i32.wrap ↑(BitVec.ofInt IntKind.i32.bits (IntKind.i32.wrap (a % 16 * 4096)) ||| BitVec.ofInt IntKind.i32.bits (IntKind.i32.wrap (b % 64 * 64))).toNat) ||| BitVec.ofInt IntKind.i32.bits (c % 64)).toNat = _
  rw [wrap32 (a := a % 16 * 4096) (by omega) (by omega), wrap32 (a := b % 64 * 64) (by omega) (by omega), or_i32 (a % 16 * 4096) (b % 64 * 64) 12 (by omega) (by omega) (by omega) (by omega) (by omega)]
  exact or_i32 _ _ 6 (by omega) (by omega) (by omega) (by omega) (by omega)
theorem bits4 (a b c d : Int) (ha : 0 ≤ a ∧ a < 256) (hb : 0 ≤ b ∧ b < 256) (hc : 0 ≤ c ∧ c < 256) (hd : 0 ≤ d ∧ d < 256) : IntKind.i32.wrap ↑(BitVec.ofInt IntKind.i32.bits (IntKind.i32.wrap ↑(BitVec.ofInt IntKind.i32.bits (IntKind.i32.wrap ↑(BitVec.ofInt IntKind.i32.bits (IntKind.i32.wrap (IntKind.i32.wrap (IntKind.u8.wrap ↑(BitVec.ofInt IntKind.u8.bits a &&& BitVec.ofInt IntKind.u8.bits 7).toNat) * 2 ^ min (Int.toNat 18) IntKind.i32.bits)) ||| BitVec.ofInt IntKind.i32.bits (IntKind.i32.wrap (IntKind.i32.wrap (IntKind.u8.wrap ↑(BitVec.ofInt IntKind.u8.bits b &&& BitVec.ofInt IntKind.u8.bits 63).toNat) * 2 ^ min (Int.toNat 12) IntKind.i32.bits))).toNat) ||| BitVec.ofInt IntKind.i32.bits (IntKind.i32.wrap (IntKind.i32.wrap (IntKind.u8.wrap ↑(BitVec.ofInt IntKind.u8.bits c &&& BitVec.ofInt IntKind.u8.bits 63).toNat) * 2 ^ min (Int.toNat 6) IntKind.i32.bits))).toNat) ||| BitVec.ofInt IntKind.i32.bits (IntKind.i32.wrap (IntKind.u8.wrap ↑(BitVec.ofInt IntKind.u8.bits d &&& BitVec.ofInt IntKind.u8.bits 63).toNat))).toNat = a % 8 * 262144 + b % 64 * 4096 + c % 64 * 64 + d % 64 := by
  rw [and_u8_7 a ha.1 ha.2, and_u8_63 b hb.1 hb.2, and_u8_63 c hc.1 hc.2, and_u8_63 d hd.1 hd.2, wrap32 (a := a % 8) (by omega) (by omega), wrap32 (a := b % 64) (by omega) (by omega), wrap32 (a := c % 64) (by omega) (by omega), wrap32 (a := d % 64) (by omega) (by omega)]
  show IntKind.i32.wrap ↑(BitVec.ofInt IntKind.i32.bits (IntKind.i32.wrap ↑(BitVec.ofInt IntKind.i32.bits (IntKind.i32.wrap ↑(BitVec.ofInt IntKind.i32.bits (IntKind.i32.wrap (a % 8 * 262144)) ||| BitVec.ofInt IntKind.i32.bits (IntKind.i32.wrap (b % 64 * 4096))).toNat) ||| BitVec.ofInt IntKind.i32.bits (IntKind.i32.wrap (c % 64 * 64))).toNat) ||| BitVec.ofInt IntKind.i32.bits (d % 64)).toNat = _
  rw [wrap32 (a := a % 8 * 262144) (by omega) (by omega), wrap32 (a := b % 64 * 4096) (by omega) (by omega), wrap32 (a := c % 64 * 64) (by omega) (by omega), or_i32 (a % 8 * 262144) (b % 64 * 4096) 18 (by omega) (by omega) (by omega) (by omega) (by omega), or_i32 (a % 8 * 262144 + b % 64 * 4096) (c % 64 * 64) 12 (by omega) (by omega) (by omega) (by omega) (by omega)]
  exact or_i32 _ _ 6 (by omega) (by omega) (by omega) (by omega) (by omega)
end Go.Proofs.YtfodjmemdkibpaaDoor.V
