/-
Functions of Go's library: utf8's decoding of a text's first rune.
-/
import Derived.Test.YtfodjmemdkibpaaDoorVt
import Derived.Test.YtfodjmemdkibpaaDoorMD
import Derived.Lib.DecodeN
namespace Go.Proofs.YtfodjmemdkibpaaDoor.V
open Go Go.Proofs Go.RowKit
set_option linter.unusedVariables false
set_option linter.unusedSimpArgs false
set_option maxRecDepth 100000
set_option maxHeartbeats 1000000
open Go Go.Proofs Go.Proofs.YtfodjmemdkibpaaDoor.V
theorem bt_lt (s : ByteArray) (i : Nat) : 0 ≤ bt s i ∧ bt s i < 256 := by
  unfold bt
  have := UInt8.toNat_lt (s.data.toList.getD i 0)
  omega
theorem bt_get (s : ByteArray) (i : Nat) : (s.get! i).toNat = (bt s i).toNat := by
  have : s.data.toList.getD i 0 = s.get! i := by
    cases s with
    | mk d =>
      show d.toList.getD i 0 = d[i]!
      by_cases h : i < d.size
      · rw [getElem!_pos d i h]; simp [List.getD, h]
      · rw [getElem!_neg d i h]; simp [List.getD, h]; rfl
  unfold bt
  rw [this]; simp
theorem firstT_cases (b : Nat) : (240 ≤ firstT b ∧ (b < 194 ∨ 244 < b)) ∨ (firstT b = 2 ∧ 194 ≤ b ∧ b < 224) ∨ (firstT b = 19 ∧ b = 224) ∨ (firstT b = 3 ∧ ((225 ≤ b ∧ b < 237) ∨ (238 ≤ b ∧ b < 240))) ∨ (firstT b = 35 ∧ b = 237) ∨ (firstT b = 52 ∧ b = 240) ∨ (firstT b = 4 ∧ 241 ≤ b ∧ b < 244) ∨ (firstT b = 68 ∧ b = 244) := by
  unfold firstT
  repeat' split
  all_goals omega
theorem dec_bt (s : ByteArray) : Utf8.decode s 0 = Lib.decodeN s.size (bt s (Int.toNat 0)).toNat (bt s (Int.toNat 1)).toNat (bt s (Int.toNat 2)).toNat (bt s (Int.toNat 3)).toNat := by
  rw [Lib.decode_at, bt_get, bt_get, bt_get, bt_get]; rfl
theorem dec_low (n b0 b1 b2 b3 : Nat) (hb : b0 < 194 ∨ 244 < b0) (h256 : b0 < 256) : (Lib.decodeN n b0 b1 b2 b3).2 = 1 := by
  unfold Lib.decodeN
  repeat' split
  all_goals first | rfl | (exfalso; omega)
theorem slow_fn (s : ByteArray) (h : 0 < s.size) : Fn Tryd.prog 71 [.str s] (tupL [.u, .int .i64 (Utf8.decode s 0).2]) := by
  refine Fn.of Tryd.f71 _ Tryd.func71 rfl (by decide) (by show 1 ≤ _; decide) tbOk 117 rfl fun S w0 gl => ?_
  have h0 := bt_lt s (Int.toNat 0)
  have h1 := bt_lt s (Int.toNat 1)
  have h2 := bt_lt s (Int.toNat 2)
  have h3 := bt_lt s (Int.toNat 3)
  have hcl := firstT_cases (idx (bt s (Int.toNat 0)).toNat 1 0)
  refine Run.go ?_; (conv => whnf); repeat' (first | ((with_reducible refine Know.mk fun _ => ?_); conv => whnf) | ((with_reducible refine Need.mk ?_ ?_); (first | omega | (dsimp only; omega) | decide | exact bytes_le (by rfl) (by omega) | exact ⟨rfl, by omega, bytes_le (by rfl) (by omega), by omega⟩ | (refine ⟨?_, ?_⟩ <;> (rw [wrap64 (by omega) (by omega)]; omega))); conv => whnf) | ((with_reducible refine Both.mk ?_ ?_) <;> conv => whnf) | ((with_reducible refine Any.mk fun b hb => ?_); conv => whnf) | ((with_reducible refine AskB.dec (fun hb => ?_) (fun hb => ?_)) <;> conv => whnf) | ((with_reducible refine AskB.ndec (fun hb => ?_) (fun hb => ?_)) <;> conv => whnf) | ((with_reducible refine AskB.mk (fun hb => ?_) (fun hb => ?_)) <;> conv => whnf) | ((with_reducible refine Run.drawX rfl (by decide +kernel) ?_); conv => whnf) | ((with_reducible refine Run.drawT rfl (by decide +kernel) ?_); conv => whnf) | ((with_reducible refine Run.drawW rfl (by decide +kernel) ?_); conv => whnf) | fail)
  · omega
  · refine Run.leave (ts := [2,3]) (.inr ⟨_, rfl⟩) rfl Tryd.func71 rfl (resT ⟨Le.u _, Le.int ?_, trivial⟩)
    rw [dec_bt, dec_low _ _ _ _ _ (by
      have hc : (bt s (Int.toNat 0)).toNat < 194 ∨ 244 < (bt s (Int.toNat 0)).toNat := by
        rcases hcl with ⟨hx, hc⟩ | ⟨hx, _⟩ | ⟨hx, _⟩ | ⟨hx, _⟩ | ⟨hx, _⟩ | ⟨hx, _⟩ | ⟨hx, _⟩ | ⟨hx, _⟩
        · exact hc
        all_goals (exfalso; omega)
      exact hc) (by omega)]
    rfl
  rcases hcl with ⟨hx, hc⟩ | ⟨hx, hc⟩ | ⟨hx, hc⟩ | ⟨hx, hc⟩ | ⟨hx, hc⟩ | ⟨hx, hc⟩ | ⟨hx, hc⟩ | ⟨hx, hc⟩
  · omega
  · rw [hx]
    have hdec : (Utf8.decode s 0).2 = (Lib.slowN s.size (bt s (Int.toNat 0)).toNat (bt s (Int.toNat 1)).toNat (bt s (Int.toNat 2)).toNat (bt s (Int.toNat 3)).toNat 2 128 191).2 := by
      rw [dec_bt, Lib.slow_C2 s.size (bt s (Int.toNat 0)).toNat (bt s (Int.toNat 1)).toNat (bt s (Int.toNat 2)).toNat (bt s (Int.toNat 3)).toNat h (by omega) (by omega) (by omega) hc]
    have hz : IntKind.i64.wrap (IntKind.u8.wrap ↑(BitVec.ofInt IntKind.u8.bits 2 &&& BitVec.ofInt IntKind.u8.bits 7).toNat) = 2 := by decide
    have a1 : accT (idx (Int.fdiv 2 (2 ^ min (Int.toNat 4) IntKind.u8.bits)).toNat 2 0) = 128 := by decide
    have a2 : accT (idx (Int.fdiv 2 (2 ^ min (Int.toNat 4) IntKind.u8.bits)).toNat 2 1) = 191 := by decide
    repeat' (first | ((with_reducible refine Know.mk fun _ => ?_); conv => whnf) | ((with_reducible refine Need.mk ?_ ?_); (first | omega | (dsimp only; omega) | decide | exact bytes_le (by rfl) (by omega) | exact ⟨rfl, by omega, bytes_le (by rfl) (by omega), by omega⟩ | (refine ⟨?_, ?_⟩ <;> (rw [wrap64 (by omega) (by omega)]; omega))); conv => whnf) | ((with_reducible refine Both.mk ?_ ?_) <;> conv => whnf) | ((with_reducible refine Any.mk fun b hb => ?_); conv => whnf) | ((with_reducible refine AskB.dec (fun hb => ?_) (fun hb => ?_)) <;> conv => whnf) | ((with_reducible refine AskB.ndec (fun hb => ?_) (fun hb => ?_)) <;> conv => whnf) | ((with_reducible refine AskB.mk (fun hb => ?_) (fun hb => ?_)) <;> conv => whnf) | ((with_reducible refine Run.drawX rfl (by decide +kernel) ?_); conv => whnf) | ((with_reducible refine Run.drawT rfl (by decide +kernel) ?_); conv => whnf) | ((with_reducible refine Run.drawW rfl (by decide +kernel) ?_); conv => whnf) | fail)
    all_goals (refine Run.leave (ts := [2,3]) (.inr ⟨_, rfl⟩) rfl Tryd.func71 rfl (resT ⟨Le.u _, Le.int ?_, trivial⟩); rw [hdec]; (try simp only [hz, a1, a2] at *); unfold Lib.slowN; (repeat' split) <;> first | rfl | (exfalso; omega))
  · rw [hx]
    have hdec : (Utf8.decode s 0).2 = (Lib.slowN s.size (bt s (Int.toNat 0)).toNat (bt s (Int.toNat 1)).toNat (bt s (Int.toNat 2)).toNat (bt s (Int.toNat 3)).toNat 3 160 191).2 := by
      rw [dec_bt, Lib.slow_E0 s.size (bt s (Int.toNat 0)).toNat (bt s (Int.toNat 1)).toNat (bt s (Int.toNat 2)).toNat (bt s (Int.toNat 3)).toNat h (by omega) (by omega) (by omega) hc]
    have hz : IntKind.i64.wrap (IntKind.u8.wrap ↑(BitVec.ofInt IntKind.u8.bits 19 &&& BitVec.ofInt IntKind.u8.bits 7).toNat) = 3 := by decide
    have a1 : accT (idx (Int.fdiv 19 (2 ^ min (Int.toNat 4) IntKind.u8.bits)).toNat 2 0) = 160 := by decide
    have a2 : accT (idx (Int.fdiv 19 (2 ^ min (Int.toNat 4) IntKind.u8.bits)).toNat 2 1) = 191 := by decide
    repeat' (first | ((with_reducible refine Know.mk fun _ => ?_); conv => whnf) | ((with_reducible refine Need.mk ?_ ?_); (first | omega | (dsimp only; omega) | decide | exact bytes_le (by rfl) (by omega) | exact ⟨rfl, by omega, bytes_le (by rfl) (by omega), by omega⟩ | (refine ⟨?_, ?_⟩ <;> (rw [wrap64 (by omega) (by omega)]; omega))); conv => whnf) | ((with_reducible refine Both.mk ?_ ?_) <;> conv => whnf) | ((with_reducible refine Any.mk fun b hb => ?_); conv => whnf) | ((with_reducible refine AskB.dec (fun hb => ?_) (fun hb => ?_)) <;> conv => whnf) | ((with_reducible refine AskB.ndec (fun hb => ?_) (fun hb => ?_)) <;> conv => whnf) | ((with_reducible refine AskB.mk (fun hb => ?_) (fun hb => ?_)) <;> conv => whnf) | ((with_reducible refine Run.drawX rfl (by decide +kernel) ?_); conv => whnf) | ((with_reducible refine Run.drawT rfl (by decide +kernel) ?_); conv => whnf) | ((with_reducible refine Run.drawW rfl (by decide +kernel) ?_); conv => whnf) | fail)
    all_goals (refine Run.leave (ts := [2,3]) (.inr ⟨_, rfl⟩) rfl Tryd.func71 rfl (resT ⟨Le.u _, Le.int ?_, trivial⟩); rw [hdec]; (try simp only [hz, a1, a2] at *); unfold Lib.slowN; (repeat' split) <;> first | rfl | (exfalso; omega))
  · rw [hx]
    have hdec : (Utf8.decode s 0).2 = (Lib.slowN s.size (bt s (Int.toNat 0)).toNat (bt s (Int.toNat 1)).toNat (bt s (Int.toNat 2)).toNat (bt s (Int.toNat 3)).toNat 3 128 191).2 := by
      rw [dec_bt, Lib.slow_E1 s.size (bt s (Int.toNat 0)).toNat (bt s (Int.toNat 1)).toNat (bt s (Int.toNat 2)).toNat (bt s (Int.toNat 3)).toNat h (by omega) (by omega) (by omega) hc]
    have hz : IntKind.i64.wrap (IntKind.u8.wrap ↑(BitVec.ofInt IntKind.u8.bits 3 &&& BitVec.ofInt IntKind.u8.bits 7).toNat) = 3 := by decide
    have a1 : accT (idx (Int.fdiv 3 (2 ^ min (Int.toNat 4) IntKind.u8.bits)).toNat 2 0) = 128 := by decide
    have a2 : accT (idx (Int.fdiv 3 (2 ^ min (Int.toNat 4) IntKind.u8.bits)).toNat 2 1) = 191 := by decide
    repeat' (first | ((with_reducible refine Know.mk fun _ => ?_); conv => whnf) | ((with_reducible refine Need.mk ?_ ?_); (first | omega | (dsimp only; omega) | decide | exact bytes_le (by rfl) (by omega) | exact ⟨rfl, by omega, bytes_le (by rfl) (by omega), by omega⟩ | (refine ⟨?_, ?_⟩ <;> (rw [wrap64 (by omega) (by omega)]; omega))); conv => whnf) | ((with_reducible refine Both.mk ?_ ?_) <;> conv => whnf) | ((with_reducible refine Any.mk fun b hb => ?_); conv => whnf) | ((with_reducible refine AskB.dec (fun hb => ?_) (fun hb => ?_)) <;> conv => whnf) | ((with_reducible refine AskB.ndec (fun hb => ?_) (fun hb => ?_)) <;> conv => whnf) | ((with_reducible refine AskB.mk (fun hb => ?_) (fun hb => ?_)) <;> conv => whnf) | ((with_reducible refine Run.drawX rfl (by decide +kernel) ?_); conv => whnf) | ((with_reducible refine Run.drawT rfl (by decide +kernel) ?_); conv => whnf) | ((with_reducible refine Run.drawW rfl (by decide +kernel) ?_); conv => whnf) | fail)
    all_goals (refine Run.leave (ts := [2,3]) (.inr ⟨_, rfl⟩) rfl Tryd.func71 rfl (resT ⟨Le.u _, Le.int ?_, trivial⟩); rw [hdec]; (try simp only [hz, a1, a2] at *); unfold Lib.slowN; (repeat' split) <;> first | rfl | (exfalso; omega))
  · rw [hx]
    have hdec : (Utf8.decode s 0).2 = (Lib.slowN s.size (bt s (Int.toNat 0)).toNat (bt s (Int.toNat 1)).toNat (bt s (Int.toNat 2)).toNat (bt s (Int.toNat 3)).toNat 3 128 159).2 := by
      rw [dec_bt, Lib.slow_ED s.size (bt s (Int.toNat 0)).toNat (bt s (Int.toNat 1)).toNat (bt s (Int.toNat 2)).toNat (bt s (Int.toNat 3)).toNat h (by omega) (by omega) (by omega) hc]
    have hz : IntKind.i64.wrap (IntKind.u8.wrap ↑(BitVec.ofInt IntKind.u8.bits 35 &&& BitVec.ofInt IntKind.u8.bits 7).toNat) = 3 := by decide
    have a1 : accT (idx (Int.fdiv 35 (2 ^ min (Int.toNat 4) IntKind.u8.bits)).toNat 2 0) = 128 := by decide
    have a2 : accT (idx (Int.fdiv 35 (2 ^ min (Int.toNat 4) IntKind.u8.bits)).toNat 2 1) = 159 := by decide
    repeat' (first | ((with_reducible refine Know.mk fun _ => ?_); conv => whnf) | ((with_reducible refine Need.mk ?_ ?_); (first | omega | (dsimp only; omega) | decide | exact bytes_le (by rfl) (by omega) | exact ⟨rfl, by omega, bytes_le (by rfl) (by omega), by omega⟩ | (refine ⟨?_, ?_⟩ <;> (rw [wrap64 (by omega) (by omega)]; omega))); conv => whnf) | ((with_reducible refine Both.mk ?_ ?_) <;> conv => whnf) | ((with_reducible refine Any.mk fun b hb => ?_); conv => whnf) | ((with_reducible refine AskB.dec (fun hb => ?_) (fun hb => ?_)) <;> conv => whnf) | ((with_reducible refine AskB.ndec (fun hb => ?_) (fun hb => ?_)) <;> conv => whnf) | ((with_reducible refine AskB.mk (fun hb => ?_) (fun hb => ?_)) <;> conv => whnf) | ((with_reducible refine Run.drawX rfl (by decide +kernel) ?_); conv => whnf) | ((with_reducible refine Run.drawT rfl (by decide +kernel) ?_); conv => whnf) | ((with_reducible refine Run.drawW rfl (by decide +kernel) ?_); conv => whnf) | fail)
    all_goals (refine Run.leave (ts := [2,3]) (.inr ⟨_, rfl⟩) rfl Tryd.func71 rfl (resT ⟨Le.u _, Le.int ?_, trivial⟩); rw [hdec]; (try simp only [hz, a1, a2] at *); unfold Lib.slowN; (repeat' split) <;> first | rfl | (exfalso; omega))
  · rw [hx]
    have hdec : (Utf8.decode s 0).2 = (Lib.slowN s.size (bt s (Int.toNat 0)).toNat (bt s (Int.toNat 1)).toNat (bt s (Int.toNat 2)).toNat (bt s (Int.toNat 3)).toNat 4 144 191).2 := by
      rw [dec_bt, Lib.slow_F0 s.size (bt s (Int.toNat 0)).toNat (bt s (Int.toNat 1)).toNat (bt s (Int.toNat 2)).toNat (bt s (Int.toNat 3)).toNat h (by omega) (by omega) (by omega) hc]
    have hz : IntKind.i64.wrap (IntKind.u8.wrap ↑(BitVec.ofInt IntKind.u8.bits 52 &&& BitVec.ofInt IntKind.u8.bits 7).toNat) = 4 := by decide
    have a1 : accT (idx (Int.fdiv 52 (2 ^ min (Int.toNat 4) IntKind.u8.bits)).toNat 2 0) = 144 := by decide
    have a2 : accT (idx (Int.fdiv 52 (2 ^ min (Int.toNat 4) IntKind.u8.bits)).toNat 2 1) = 191 := by decide
    repeat' (first | ((with_reducible refine Know.mk fun _ => ?_); conv => whnf) | ((with_reducible refine Need.mk ?_ ?_); (first | omega | (dsimp only; omega) | decide | exact bytes_le (by rfl) (by omega) | exact ⟨rfl, by omega, bytes_le (by rfl) (by omega), by omega⟩ | (refine ⟨?_, ?_⟩ <;> (rw [wrap64 (by omega) (by omega)]; omega))); conv => whnf) | ((with_reducible refine Both.mk ?_ ?_) <;> conv => whnf) | ((with_reducible refine Any.mk fun b hb => ?_); conv => whnf) | ((with_reducible refine AskB.dec (fun hb => ?_) (fun hb => ?_)) <;> conv => whnf) | ((with_reducible refine AskB.ndec (fun hb => ?_) (fun hb => ?_)) <;> conv => whnf) | ((with_reducible refine AskB.mk (fun hb => ?_) (fun hb => ?_)) <;> conv => whnf) | ((with_reducible refine Run.drawX rfl (by decide +kernel) ?_); conv => whnf) | ((with_reducible refine Run.drawT rfl (by decide +kernel) ?_); conv => whnf) | ((with_reducible refine Run.drawW rfl (by decide +kernel) ?_); conv => whnf) | fail)
    all_goals (refine Run.leave (ts := [2,3]) (.inr ⟨_, rfl⟩) rfl Tryd.func71 rfl (resT ⟨Le.u _, Le.int ?_, trivial⟩); rw [hdec]; (try simp only [hz, a1, a2] at *); unfold Lib.slowN; (repeat' split) <;> first | rfl | (exfalso; omega))
  · rw [hx]
    have hdec : (Utf8.decode s 0).2 = (Lib.slowN s.size (bt s (Int.toNat 0)).toNat (bt s (Int.toNat 1)).toNat (bt s (Int.toNat 2)).toNat (bt s (Int.toNat 3)).toNat 4 128 191).2 := by
      rw [dec_bt, Lib.slow_F1 s.size (bt s (Int.toNat 0)).toNat (bt s (Int.toNat 1)).toNat (bt s (Int.toNat 2)).toNat (bt s (Int.toNat 3)).toNat h (by omega) (by omega) (by omega) hc]
    have hz : IntKind.i64.wrap (IntKind.u8.wrap ↑(BitVec.ofInt IntKind.u8.bits 4 &&& BitVec.ofInt IntKind.u8.bits 7).toNat) = 4 := by decide
    have a1 : accT (idx (Int.fdiv 4 (2 ^ min (Int.toNat 4) IntKind.u8.bits)).toNat 2 0) = 128 := by decide
    have a2 : accT (idx (Int.fdiv 4 (2 ^ min (Int.toNat 4) IntKind.u8.bits)).toNat 2 1) = 191 := by decide
    repeat' (first | ((with_reducible refine Know.mk fun _ => ?_); conv => whnf) | ((with_reducible refine Need.mk ?_ ?_); (first | omega | (dsimp only; omega) | decide | exact bytes_le (by rfl) (by omega) | exact ⟨rfl, by omega, bytes_le (by rfl) (by omega), by omega⟩ | (refine ⟨?_, ?_⟩ <;> (rw [wrap64 (by omega) (by omega)]; omega))); conv => whnf) | ((with_reducible refine Both.mk ?_ ?_) <;> conv => whnf) | ((with_reducible refine Any.mk fun b hb => ?_); conv => whnf) | ((with_reducible refine AskB.dec (fun hb => ?_) (fun hb => ?_)) <;> conv => whnf) | ((with_reducible refine AskB.ndec (fun hb => ?_) (fun hb => ?_)) <;> conv => whnf) | ((with_reducible refine AskB.mk (fun hb => ?_) (fun hb => ?_)) <;> conv => whnf) | ((with_reducible refine Run.drawX rfl (by decide +kernel) ?_); conv => whnf) | ((with_reducible refine Run.drawT rfl (by decide +kernel) ?_); conv => whnf) | ((with_reducible refine Run.drawW rfl (by decide +kernel) ?_); conv => whnf) | fail)
    all_goals (refine Run.leave (ts := [2,3]) (.inr ⟨_, rfl⟩) rfl Tryd.func71 rfl (resT ⟨Le.u _, Le.int ?_, trivial⟩); rw [hdec]; (try simp only [hz, a1, a2] at *); unfold Lib.slowN; (repeat' split) <;> first | rfl | (exfalso; omega))
  · rw [hx]
    have hdec : (Utf8.decode s 0).2 = (Lib.slowN s.size (bt s (Int.toNat 0)).toNat (bt s (Int.toNat 1)).toNat (bt s (Int.toNat 2)).toNat (bt s (Int.toNat 3)).toNat 4 128 143).2 := by
      rw [dec_bt, Lib.slow_F4 s.size (bt s (Int.toNat 0)).toNat (bt s (Int.toNat 1)).toNat (bt s (Int.toNat 2)).toNat (bt s (Int.toNat 3)).toNat h (by omega) (by omega) (by omega) hc]
    have hz : IntKind.i64.wrap (IntKind.u8.wrap ↑(BitVec.ofInt IntKind.u8.bits 68 &&& BitVec.ofInt IntKind.u8.bits 7).toNat) = 4 := by decide
    have a1 : accT (idx (Int.fdiv 68 (2 ^ min (Int.toNat 4) IntKind.u8.bits)).toNat 2 0) = 128 := by decide
    have a2 : accT (idx (Int.fdiv 68 (2 ^ min (Int.toNat 4) IntKind.u8.bits)).toNat 2 1) = 143 := by decide
    repeat' (first | ((with_reducible refine Know.mk fun _ => ?_); conv => whnf) | ((with_reducible refine Need.mk ?_ ?_); (first | omega | (dsimp only; omega) | decide | exact bytes_le (by rfl) (by omega) | exact ⟨rfl, by omega, bytes_le (by rfl) (by omega), by omega⟩ | (refine ⟨?_, ?_⟩ <;> (rw [wrap64 (by omega) (by omega)]; omega))); conv => whnf) | ((with_reducible refine Both.mk ?_ ?_) <;> conv => whnf) | ((with_reducible refine Any.mk fun b hb => ?_); conv => whnf) | ((with_reducible refine AskB.dec (fun hb => ?_) (fun hb => ?_)) <;> conv => whnf) | ((with_reducible refine AskB.ndec (fun hb => ?_) (fun hb => ?_)) <;> conv => whnf) | ((with_reducible refine AskB.mk (fun hb => ?_) (fun hb => ?_)) <;> conv => whnf) | ((with_reducible refine Run.drawX rfl (by decide +kernel) ?_); conv => whnf) | ((with_reducible refine Run.drawT rfl (by decide +kernel) ?_); conv => whnf) | ((with_reducible refine Run.drawW rfl (by decide +kernel) ?_); conv => whnf) | fail)
    all_goals (refine Run.leave (ts := [2,3]) (.inr ⟨_, rfl⟩) rfl Tryd.func71 rfl (resT ⟨Le.u _, Le.int ?_, trivial⟩); rw [hdec]; (try simp only [hz, a1, a2] at *); unfold Lib.slowN; (repeat' split) <;> first | rfl | (exfalso; omega))
end Go.Proofs.YtfodjmemdkibpaaDoor.V
