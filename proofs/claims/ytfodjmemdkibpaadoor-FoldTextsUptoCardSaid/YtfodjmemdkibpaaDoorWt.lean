/-
Parts of folding walked (T).
-/
import Derived.Test.YtfodjmemdkibpaaDoorMD
import Derived.Test.YtfodjmemdkibpaaDoorVt
namespace Go.Proofs.YtfodjmemdkibpaaDoor.V
open Go Go.Proofs Go.RowKit
set_option linter.unusedVariables false
set_option linter.unusedSimpArgs false
set_option maxRecDepth 100000
set_option maxHeartbeats 2000000
open Go Go.Proofs Go.Proofs.YtfodjmemdkibpaaDoor.V
theorem wrong37_fn (o : Int) : Fn Tryd.prog 37 [.int .i64 o] (.bool (decide (o < 0 ∨ 31 < o))) := by
  refine Fn.of Tryd.f37 _ Tryd.func37 rfl (by decide) (by show 1 ≤ _; decide) tbOk 9 rfl fun S w0 gl => ?_
  refine Run.go ?_; (conv => whnf); repeat' (first | ((with_reducible refine Know.mk fun _ => ?_); conv => whnf) | ((with_reducible refine Need.mk ?_ ?_); (first | omega | (dsimp only; omega) | decide | exact bytes_le (by rfl) (by omega) | exact ⟨rfl, by omega, bytes_le (by rfl) (by omega), by omega⟩ | (refine ⟨?_, ?_⟩ <;> (rw [wrap64 (by omega) (by omega)]; omega))); conv => whnf) | ((with_reducible refine Both.mk ?_ ?_) <;> conv => whnf) | ((with_reducible refine Any.mk fun b hb => ?_); conv => whnf) | ((with_reducible refine AskB.dec (fun hb => ?_) (fun hb => ?_)) <;> conv => whnf) | ((with_reducible refine AskB.ndec (fun hb => ?_) (fun hb => ?_)) <;> conv => whnf) | ((with_reducible refine AskB.mk (fun hb => ?_) (fun hb => ?_)) <;> conv => whnf) | ((with_reducible refine Run.drawX rfl (by decide +kernel) ?_); conv => whnf) | ((with_reducible refine Run.drawT rfl (by decide +kernel) ?_); conv => whnf) | ((with_reducible refine Run.drawW rfl (by decide +kernel) ?_); conv => whnf) | fail)
  · exact Run.leave (ts := [2]) (.inr ⟨_, rfl⟩) rfl Tryd.func37 rfl (Le.tt.trans (Le.bool (decide_eq_true (.inl hb)).symm))
  · refine Run.leave (ts := [2]) (.inr ⟨_, rfl⟩) rfl Tryd.func37 rfl (Le.bool ?_)
    by_cases h : 31 < o
    · rw [decide_eq_true h, decide_eq_true (.inr h)]
    · rw [decide_eq_false h, decide_eq_false (fun h2 => h2.elim hb h)]
def letterV (r : Int) : Int := if r = 118 ∨ r = 86 ∨ r = 106 ∨ r = 74 then r - 1 else r
theorem letter55_fn (r : Int) : Fn Tryd.prog 55 [.int .i32 r] (.int .i32 (letterV r)) := by
  refine Fn.of Tryd.f55 _ Tryd.func55 rfl (by decide) (by show 1 ≤ _; decide) tbOk 12 rfl fun S w0 gl => ?_
  have hw : r = 118 ∨ r = 86 ∨ r = 106 ∨ r = 74 → IntKind.i32.wrap (r - 1) = letterV r := fun h => by
    unfold letterV
    rw [if_pos h]
    exact wrap32 (by omega) (by omega)
  refine Run.go ?_; (conv => whnf); repeat' (first | ((with_reducible refine Know.mk fun _ => ?_); conv => whnf) | ((with_reducible refine Need.mk ?_ ?_); (first | omega | (dsimp only; omega) | decide | exact bytes_le (by rfl) (by omega) | exact ⟨rfl, by omega, bytes_le (by rfl) (by omega), by omega⟩ | (refine ⟨?_, ?_⟩ <;> (rw [wrap64 (by omega) (by omega)]; omega))); conv => whnf) | ((with_reducible refine Both.mk ?_ ?_) <;> conv => whnf) | ((with_reducible refine Any.mk fun b hb => ?_); conv => whnf) | ((with_reducible refine AskB.dec (fun hb => ?_) (fun hb => ?_)) <;> conv => whnf) | ((with_reducible refine AskB.ndec (fun hb => ?_) (fun hb => ?_)) <;> conv => whnf) | ((with_reducible refine AskB.mk (fun hb => ?_) (fun hb => ?_)) <;> conv => whnf) | ((with_reducible refine Run.drawX rfl (by decide +kernel) ?_); conv => whnf) | ((with_reducible refine Run.drawT rfl (by decide +kernel) ?_); conv => whnf) | ((with_reducible refine Run.drawW rfl (by decide +kernel) ?_); conv => whnf) | fail)
  iterate 4 (· exact Run.leave (ts := [2]) (.inr ⟨_, rfl⟩) rfl Tryd.func55 rfl (Le.int (hw (by omega))))
  · refine Run.leave (ts := [2]) (.inr ⟨_, rfl⟩) rfl Tryd.func55 rfl (Le.int ?_)
    unfold letterV
    rw [if_neg (by omega)]
theorem ofInt_nat (n : Nat) (h : n < 4294967296) : (BitVec.ofInt IntKind.i32.bits (n : Int)).toNat = n := by
  show (BitVec.ofInt 32 (n : Int)).toNat = n
  rw [BitVec.toNat_ofInt]
  omega
theorem and1_i32 (r : Int) (h1 : 0 ≤ r) (h2 : r < 2147483648) : IntKind.i32.wrap ↑(BitVec.ofInt IntKind.i32.bits r &&& BitVec.ofInt IntKind.i32.bits 1).toNat = r % 2 := by
  obtain ⟨n, rfl⟩ : ∃ n : Nat, r = (n : Int) := ⟨r.toNat, by omega⟩
  have e : (BitVec.ofInt IntKind.i32.bits (n : Int) &&& BitVec.ofInt IntKind.i32.bits 1).toNat = n % 2 := by
    rw [BitVec.toNat_and, ofInt_nat n (by omega), show (BitVec.ofInt IntKind.i32.bits 1).toNat = 1 from rfl, Nat.and_one_is_mod]
  rw [e]
  rw [wrap32 (by omega) (by omega)]; omega
theorem or1_i32 (r : Int) (h1 : 0 ≤ r) (h2 : r < 2147483647) : IntKind.i32.wrap ↑(BitVec.ofInt IntKind.i32.bits r ||| BitVec.ofInt IntKind.i32.bits 1).toNat = r + 1 - r % 2 := by
  obtain ⟨n, rfl⟩ : ∃ n : Nat, r = (n : Int) := ⟨r.toNat, by omega⟩
  have hor : ∀ m : Nat, m % 2 = 0 → m ||| 1 = m + 1 := fun m hm => by
    have := Nat.two_pow_add_eq_or_of_lt (i := 1) (b := 1) (by decide) (m / 2)
    have e1 : 2 ^ 1 * (m / 2) = m := by omega
    rw [e1] at this
    exact this.symm
  have e : (BitVec.ofInt IntKind.i32.bits (n : Int) ||| BitVec.ofInt IntKind.i32.bits 1).toNat = n + 1 - n % 2 := by
    rw [BitVec.toNat_or, ofInt_nat n (by omega), show (BitVec.ofInt IntKind.i32.bits 1).toNat = 1 from rfl]
    rcases Nat.mod_two_eq_zero_or_one n with h | h
    · rw [hor n h]; omega
    · have h3 := hor (n - 1) (by omega)
      have h4 : n - 1 + 1 = n := by omega
      rw [h4] at h3
      rw [← h3, Nat.or_assoc, Nat.or_self, h3]; omega
  rw [e]
  rw [wrap32 (by omega) (by omega)]; omega
/-- A rune's small form. -/
def lowV (r : Int) : Int :=
  if (65 ≤ r ∧ r ≤ 90) ∨ (192 ≤ r ∧ r ≤ 222 ∧ r ≠ 215) ∨ (913 ≤ r ∧ r ≤ 937 ∧ r ≠ 930) ∨ (1040 ≤ r ∧ r ≤ 1071) then r + 32
  else if 1024 ≤ r ∧ r < 1040 then r + 80
  else if r = 376 then 255 else if r = 962 then 963
  else if (313 ≤ r ∧ r ≤ 328) ∨ (377 ≤ r ∧ r ≤ 382) then r + r % 2
  else if (256 ≤ r ∧ r ≤ 311) ∨ (330 ≤ r ∧ r ≤ 375) ∨ (7680 ≤ r ∧ r ≤ 7829) then r + 1 - r % 2
  else r
theorem lower53_fn (r : Int) : Fn Tryd.prog 53 [.int .i32 r] (.int .i32 (lowV r)) := by
  have ha : 0 ≤ r → r < 7830 → IntKind.i32.wrap ↑(BitVec.ofInt IntKind.i32.bits r &&& BitVec.ofInt IntKind.i32.bits 1).toNat = r % 2 ∧ IntKind.i32.wrap ↑(BitVec.ofInt IntKind.i32.bits r ||| BitVec.ofInt IntKind.i32.bits 1).toNat = r + 1 - r % 2 := fun h1 h2 => ⟨and1_i32 r h1 (by omega), or1_i32 r h1 (by omega)⟩
  have h32 : ∀ x : Int, -1000000 ≤ x → x ≤ 1000000 → IntKind.i32.wrap x = x := fun x h1 h2 => wrap32 (by omega) (by omega)
  refine Fn.of Tryd.f53 _ Tryd.func53 rfl (by decide) (by show 1 ≤ _; decide) tbOk 92 rfl fun S w0 gl => ?_
  refine Run.go ?_; (conv => whnf); repeat' (first | ((with_reducible refine Know.mk fun _ => ?_); conv => whnf) | ((with_reducible refine Need.mk ?_ ?_); (first | omega | (dsimp only; omega) | decide | exact bytes_le (by rfl) (by omega) | exact ⟨rfl, by omega, bytes_le (by rfl) (by omega), by omega⟩ | (refine ⟨?_, ?_⟩ <;> (rw [wrap64 (by omega) (by omega)]; omega))); conv => whnf) | ((with_reducible refine Both.mk ?_ ?_) <;> conv => whnf) | ((with_reducible refine Any.mk fun b hb => ?_); conv => whnf) | ((with_reducible refine AskB.dec (fun hb => ?_) (fun hb => ?_)) <;> first | (exfalso; omega) | (conv => whnf)) | ((with_reducible refine AskB.ndec (fun hb => ?_) (fun hb => ?_)) <;> first | (exfalso; omega) | (conv => whnf)) | ((with_reducible refine AskB.mk (fun hb => ?_) (fun hb => ?_)) <;> first | (exfalso; omega) | (conv => whnf)) | ((with_reducible refine Run.drawX rfl (by decide +kernel) ?_); conv => whnf) | ((with_reducible refine Run.drawT rfl (by decide +kernel) ?_); conv => whnf) | ((with_reducible refine Run.drawW rfl (by decide +kernel) ?_); conv => whnf) | fail)
  all_goals refine Run.leave (ts := [2]) (.inr ⟨_, rfl⟩) rfl Tryd.func53 rfl (Le.int ?_)
  all_goals unfold lowV
  all_goals first
    | (rw [if_pos (by omega)]; exact h32 _ (by omega) (by omega))
    | (rw [if_neg (by omega), if_pos (by omega)]; exact h32 _ (by omega) (by omega))
    | (rw [if_neg (by omega), if_neg (by omega), if_pos (by omega)])
    | (rw [if_neg (by omega), if_neg (by omega), if_neg (by omega), if_pos (by omega)])
    | (rw [if_neg (by omega), if_neg (by omega), if_neg (by omega), if_neg (by omega), if_pos (by omega), (ha (by omega) (by omega)).1]; exact h32 _ (by omega) (by omega))
    | (rw [if_neg (by omega), if_neg (by omega), if_neg (by omega), if_neg (by omega), if_neg (by omega), if_pos (by omega), (ha (by omega) (by omega)).2])
    | (rw [if_neg (by omega), if_neg (by omega), if_neg (by omega), if_neg (by omega), if_neg (by omega), if_neg (by omega)])
end Go.Proofs.YtfodjmemdkibpaaDoor.V
