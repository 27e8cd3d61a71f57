/-
strings.Split at a newline, strings.IndexByte walked.
-/
import Derived.Test.YtnadacaoehpdnaaDoorWb
import Derived.Test.YtnadacaoehpdnaaDoorRa
namespace Go.Proofs.YtnadacaoehpdnaaDoor.V
open Go Go.Proofs Go.RowKit
set_option linter.unusedVariables false
set_option linter.unusedSimpArgs false
set_option maxRecDepth 100000
set_option maxHeartbeats 2000000
open Go Go.Proofs Go.Proofs.YtnadacaoehpdnaaDoor.V
theorem ib60_fn (l : List UInt8) (c : Int) : Fn Tryd.prog 60 [.str (bs l), .int .u8 c] (.int .i64 (Lib.indexByte l c.toNat.toUInt8)) := by
  refine Fn.of Tryd.f60 _ Tryd.func60 rfl (by decide) (by show 2 ≤ _; decide) tbOk 8 rfl fun S w0 gl => ?_
  refine Run.go ?_; (conv => whnf); repeat' (first | ((with_reducible refine Know.mk fun _ => ?_); conv => whnf) | ((with_reducible refine Need.mk ?_ ?_); (first | omega | (dsimp only; omega) | decide | exact bytes_le (by rfl) (by omega) | exact ⟨rfl, by omega, bytes_le (by rfl) (by omega), by omega⟩ | (refine ⟨?_, ?_⟩ <;> (rw [wrap64 (by omega) (by omega)]; omega))); conv => whnf) | ((with_reducible refine Both.mk ?_ ?_) <;> conv => whnf) | ((with_reducible refine Any.mk fun b hb => ?_); conv => whnf) | ((with_reducible refine AskB.dec (fun hb => ?_) (fun hb => ?_)) <;> conv => whnf) | ((with_reducible refine AskB.ndec (fun hb => ?_) (fun hb => ?_)) <;> conv => whnf) | ((with_reducible refine AskB.mk (fun hb => ?_) (fun hb => ?_)) <;> conv => whnf) | ((with_reducible refine Run.drawX rfl (by decide +kernel) ?_); conv => whnf) | ((with_reducible refine Run.drawT rfl (by decide +kernel) ?_); conv => whnf) | ((with_reducible refine Run.drawW rfl (by decide +kernel) ?_); conv => whnf) | fail)
  refine Run.indexByteS (f := 78) (x := .tmp 5) (y := .tmp 6) (bs l) c rfl rfl rfl rfl Tryd.func78 (by kernel_rfl) (by kernel_rfl) (by kernel_rfl) (by kernel_rfl) rfl rfl ?_
  rw [bs_data]
  refine Run.go ?_; (conv => whnf); repeat' (first | ((with_reducible refine Know.mk fun _ => ?_); conv => whnf) | ((with_reducible refine Need.mk ?_ ?_); (first | omega | (dsimp only; omega) | decide | exact bytes_le (by rfl) (by omega) | exact ⟨rfl, by omega, bytes_le (by rfl) (by omega), by omega⟩ | (refine ⟨?_, ?_⟩ <;> (rw [wrap64 (by omega) (by omega)]; omega))); conv => whnf) | ((with_reducible refine Both.mk ?_ ?_) <;> conv => whnf) | ((with_reducible refine Any.mk fun b hb => ?_); conv => whnf) | ((with_reducible refine AskB.dec (fun hb => ?_) (fun hb => ?_)) <;> conv => whnf) | ((with_reducible refine AskB.ndec (fun hb => ?_) (fun hb => ?_)) <;> conv => whnf) | ((with_reducible refine AskB.mk (fun hb => ?_) (fun hb => ?_)) <;> conv => whnf) | ((with_reducible refine Run.drawX rfl (by decide +kernel) ?_); conv => whnf) | ((with_reducible refine Run.drawT rfl (by decide +kernel) ?_); conv => whnf) | ((with_reducible refine Run.drawW rfl (by decide +kernel) ?_); conv => whnf) | fail)
  exact Run.leave (ts := [4]) (.inr ⟨_, rfl⟩) rfl Tryd.func60 rfl (Le.refl _)
theorem ib47_fn (l : List UInt8) (c : Int) : Fn Tryd.prog 47 [.str (bs l), .int .u8 c] (.int .i64 (Lib.indexByte l c.toNat.toUInt8)) := by
  refine Fn.of Tryd.f47 _ Tryd.func47 rfl (by decide) (by show 2 ≤ _; decide) tbOk 8 rfl fun S w0 gl => ?_
  refine Run.go ?_; (conv => whnf); repeat' (first | ((with_reducible refine Know.mk fun _ => ?_); conv => whnf) | ((with_reducible refine Need.mk ?_ ?_); (first | omega | (dsimp only; omega) | decide | exact bytes_le (by rfl) (by omega) | exact ⟨rfl, by omega, bytes_le (by rfl) (by omega), by omega⟩ | (refine ⟨?_, ?_⟩ <;> (rw [wrap64 (by omega) (by omega)]; omega))); conv => whnf) | ((with_reducible refine Both.mk ?_ ?_) <;> conv => whnf) | ((with_reducible refine Any.mk fun b hb => ?_); conv => whnf) | ((with_reducible refine AskB.dec (fun hb => ?_) (fun hb => ?_)) <;> conv => whnf) | ((with_reducible refine AskB.ndec (fun hb => ?_) (fun hb => ?_)) <;> conv => whnf) | ((with_reducible refine AskB.mk (fun hb => ?_) (fun hb => ?_)) <;> conv => whnf) | ((with_reducible refine Run.drawX rfl (by decide +kernel) ?_); conv => whnf) | ((with_reducible refine Run.drawT rfl (by decide +kernel) ?_); conv => whnf) | ((with_reducible refine Run.drawW rfl (by decide +kernel) ?_); conv => whnf) | fail)
  refine Run.callBX (ib60_fn l c) rfl rfl ⟨Le.refl _, Le.refl _, trivial⟩ rfl rfl rfl ?_
  (conv => whnf); repeat' (first | ((with_reducible refine Know.mk fun _ => ?_); conv => whnf) | ((with_reducible refine Need.mk ?_ ?_); (first | omega | (dsimp only; omega) | decide | exact bytes_le (by rfl) (by omega) | exact ⟨rfl, by omega, bytes_le (by rfl) (by omega), by omega⟩ | (refine ⟨?_, ?_⟩ <;> (rw [wrap64 (by omega) (by omega)]; omega))); conv => whnf) | ((with_reducible refine Both.mk ?_ ?_) <;> conv => whnf) | ((with_reducible refine Any.mk fun b hb => ?_); conv => whnf) | ((with_reducible refine AskB.dec (fun hb => ?_) (fun hb => ?_)) <;> conv => whnf) | ((with_reducible refine AskB.ndec (fun hb => ?_) (fun hb => ?_)) <;> conv => whnf) | ((with_reducible refine AskB.mk (fun hb => ?_) (fun hb => ?_)) <;> conv => whnf) | ((with_reducible refine Run.drawX rfl (by decide +kernel) ?_); conv => whnf) | ((with_reducible refine Run.drawT rfl (by decide +kernel) ?_); conv => whnf) | ((with_reducible refine Run.drawW rfl (by decide +kernel) ?_); conv => whnf) | fail)
  exact Run.leave (ts := [4]) (.inr ⟨_, rfl⟩) rfl Tryd.func47 rfl (Le.refl _)
theorem nl_size : (bs [10]).size = 1 := rfl
theorem bs_inj {a b : List UInt8} (h : bs a = bs b) : a = b := by
  have := congrArg (fun x : ByteArray => x.data.toList) h
  simpa [bs] using this
theorem count76_fn (l : List UInt8) : Fn Tryd.prog 76 [.str (bs l), .str (bs [10])] (.int .i64 (Lib.countByte l 10 : Nat)) := by
  refine Fn.of Tryd.f76 _ Tryd.func76 rfl (by decide) (by show 2 ≤ _; decide) tbOk 34 rfl fun S w0 gl => ?_
  have hs := nl_size
  refine Run.go ?_; (conv => whnf); repeat' (first | ((with_reducible refine Know.mk fun _ => ?_); conv => whnf) | ((with_reducible refine Need.mk ?_ ?_); (first | omega | (dsimp only; omega) | decide | exact bytes_le (by rfl) (by omega) | exact ⟨rfl, by omega, bytes_le (by rfl) (by omega), by omega⟩ | (refine ⟨?_, ?_⟩ <;> (rw [wrap64 (by omega) (by omega)]; omega))); conv => whnf) | ((with_reducible refine Both.mk ?_ ?_) <;> conv => whnf) | ((with_reducible refine Any.mk fun b hb => ?_); conv => whnf) | ((with_reducible refine AskB.dec (fun hb => ?_) (fun hb => ?_)) <;> conv => whnf) | ((with_reducible refine AskB.ndec (fun hb => ?_) (fun hb => ?_)) <;> conv => whnf) | ((with_reducible refine AskB.mk (fun hb => ?_) (fun hb => ?_)) <;> conv => whnf) | ((with_reducible refine Run.drawX rfl (by decide +kernel) ?_); conv => whnf) | ((with_reducible refine Run.drawT rfl (by decide +kernel) ?_); conv => whnf) | ((with_reducible refine Run.drawW rfl (by decide +kernel) ?_); conv => whnf) | fail)
  · omega
  · refine Run.countS (f := 99) (x := .tmp 16) (y := .tmp 18) (bs l) 10 rfl rfl rfl rfl Tryd.func99 (by kernel_rfl) (by kernel_rfl) (by kernel_rfl) (by kernel_rfl) rfl rfl ?_
    rw [bs_data]
    refine Run.go ?_; (conv => whnf); repeat' (first | ((with_reducible refine Know.mk fun _ => ?_); conv => whnf) | ((with_reducible refine Need.mk ?_ ?_); (first | omega | (dsimp only; omega) | decide | exact bytes_le (by rfl) (by omega) | exact ⟨rfl, by omega, bytes_le (by rfl) (by omega), by omega⟩ | (refine ⟨?_, ?_⟩ <;> (rw [wrap64 (by omega) (by omega)]; omega))); conv => whnf) | ((with_reducible refine Both.mk ?_ ?_) <;> conv => whnf) | ((with_reducible refine Any.mk fun b hb => ?_); conv => whnf) | ((with_reducible refine AskB.dec (fun hb => ?_) (fun hb => ?_)) <;> conv => whnf) | ((with_reducible refine AskB.ndec (fun hb => ?_) (fun hb => ?_)) <;> conv => whnf) | ((with_reducible refine AskB.mk (fun hb => ?_) (fun hb => ?_)) <;> conv => whnf) | ((with_reducible refine Run.drawX rfl (by decide +kernel) ?_); conv => whnf) | ((with_reducible refine Run.drawT rfl (by decide +kernel) ?_); conv => whnf) | ((with_reducible refine Run.drawW rfl (by decide +kernel) ?_); conv => whnf) | fail)
    exact Run.leave (ts := [4]) (.inr ⟨_, rfl⟩) rfl Tryd.func76 rfl (Le.refl _)
  · omega
theorem index100_fn (l : List UInt8) : Fn Tryd.prog 100 [.str (bs l), .str (bs [10])] (.int .i64 (Lib.indexByte l 10)) := by
  refine Fn.of Tryd.f100 _ Tryd.func100 rfl (by decide) (by show 2 ≤ _; decide) tbOk 143 rfl fun S w0 gl => ?_
  have hs := nl_size
  refine Run.go ?_; (conv => whnf); repeat' (first | ((with_reducible refine Know.mk fun _ => ?_); conv => whnf) | ((with_reducible refine Need.mk ?_ ?_); (first | omega | (dsimp only; omega) | decide | exact bytes_le (by rfl) (by omega) | exact ⟨rfl, by omega, bytes_le (by rfl) (by omega), by omega⟩ | (refine ⟨?_, ?_⟩ <;> (rw [wrap64 (by omega) (by omega)]; omega))); conv => whnf) | ((with_reducible refine Both.mk ?_ ?_) <;> conv => whnf) | ((with_reducible refine Any.mk fun b hb => ?_); conv => whnf) | ((with_reducible refine AskB.dec (fun hb => ?_) (fun hb => ?_)) <;> conv => whnf) | ((with_reducible refine AskB.ndec (fun hb => ?_) (fun hb => ?_)) <;> conv => whnf) | ((with_reducible refine AskB.mk (fun hb => ?_) (fun hb => ?_)) <;> conv => whnf) | ((with_reducible refine Run.drawX rfl (by decide +kernel) ?_); conv => whnf) | ((with_reducible refine Run.drawT rfl (by decide +kernel) ?_); conv => whnf) | ((with_reducible refine Run.drawW rfl (by decide +kernel) ?_); conv => whnf) | fail)
  all_goals try (exfalso; omega)
  · have := bs_inj hb
    subst this
    exact Run.leave (ts := [4]) (.inr ⟨_, rfl⟩) rfl Tryd.func100 rfl (Le.int (by decide))
  · refine Run.callBX (ib60_fn l 10) rfl rfl ⟨Le.refl _, Le.refl _, trivial⟩ rfl rfl rfl ?_
    (conv => whnf); repeat' (first | ((with_reducible refine Know.mk fun _ => ?_); conv => whnf) | ((with_reducible refine Need.mk ?_ ?_); (first | omega | (dsimp only; omega) | decide | exact bytes_le (by rfl) (by omega) | exact ⟨rfl, by omega, bytes_le (by rfl) (by omega), by omega⟩ | (refine ⟨?_, ?_⟩ <;> (rw [wrap64 (by omega) (by omega)]; omega))); conv => whnf) | ((with_reducible refine Both.mk ?_ ?_) <;> conv => whnf) | ((with_reducible refine Any.mk fun b hb => ?_); conv => whnf) | ((with_reducible refine AskB.dec (fun hb => ?_) (fun hb => ?_)) <;> conv => whnf) | ((with_reducible refine AskB.ndec (fun hb => ?_) (fun hb => ?_)) <;> conv => whnf) | ((with_reducible refine AskB.mk (fun hb => ?_) (fun hb => ?_)) <;> conv => whnf) | ((with_reducible refine Run.drawX rfl (by decide +kernel) ?_); conv => whnf) | ((with_reducible refine Run.drawT rfl (by decide +kernel) ?_); conv => whnf) | ((with_reducible refine Run.drawW rfl (by decide +kernel) ?_); conv => whnf) | fail)
    exact Run.leave (ts := [4]) (.inr ⟨_, rfl⟩) rfl Tryd.func100 rfl (Le.refl _)
theorem index77_fn (l : List UInt8) : Fn Tryd.prog 77 [.str (bs l), .str (bs [10])] (.int .i64 (Lib.indexByte l 10)) := by
  refine Fn.of Tryd.f77 _ Tryd.func77 rfl (by decide) (by show 2 ≤ _; decide) tbOk 8 rfl fun S w0 gl => ?_
  refine Run.go ?_; (conv => whnf); repeat' (first | ((with_reducible refine Know.mk fun _ => ?_); conv => whnf) | ((with_reducible refine Need.mk ?_ ?_); (first | omega | (dsimp only; omega) | decide | exact bytes_le (by rfl) (by omega) | exact ⟨rfl, by omega, bytes_le (by rfl) (by omega), by omega⟩ | (refine ⟨?_, ?_⟩ <;> (rw [wrap64 (by omega) (by omega)]; omega))); conv => whnf) | ((with_reducible refine Both.mk ?_ ?_) <;> conv => whnf) | ((with_reducible refine Any.mk fun b hb => ?_); conv => whnf) | ((with_reducible refine AskB.dec (fun hb => ?_) (fun hb => ?_)) <;> conv => whnf) | ((with_reducible refine AskB.ndec (fun hb => ?_) (fun hb => ?_)) <;> conv => whnf) | ((with_reducible refine AskB.mk (fun hb => ?_) (fun hb => ?_)) <;> conv => whnf) | ((with_reducible refine Run.drawX rfl (by decide +kernel) ?_); conv => whnf) | ((with_reducible refine Run.drawT rfl (by decide +kernel) ?_); conv => whnf) | ((with_reducible refine Run.drawW rfl (by decide +kernel) ?_); conv => whnf) | fail)
  refine Run.callBX (index100_fn l) rfl rfl ⟨Le.refl _, Le.refl _, trivial⟩ rfl rfl rfl ?_
  (conv => whnf); repeat' (first | ((with_reducible refine Know.mk fun _ => ?_); conv => whnf) | ((with_reducible refine Need.mk ?_ ?_); (first | omega | (dsimp only; omega) | decide | exact bytes_le (by rfl) (by omega) | exact ⟨rfl, by omega, bytes_le (by rfl) (by omega), by omega⟩ | (refine ⟨?_, ?_⟩ <;> (rw [wrap64 (by omega) (by omega)]; omega))); conv => whnf) | ((with_reducible refine Both.mk ?_ ?_) <;> conv => whnf) | ((with_reducible refine Any.mk fun b hb => ?_); conv => whnf) | ((with_reducible refine AskB.dec (fun hb => ?_) (fun hb => ?_)) <;> conv => whnf) | ((with_reducible refine AskB.ndec (fun hb => ?_) (fun hb => ?_)) <;> conv => whnf) | ((with_reducible refine AskB.mk (fun hb => ?_) (fun hb => ?_)) <;> conv => whnf) | ((with_reducible refine Run.drawX rfl (by decide +kernel) ?_); conv => whnf) | ((with_reducible refine Run.drawT rfl (by decide +kernel) ?_); conv => whnf) | ((with_reducible refine Run.drawW rfl (by decide +kernel) ?_); conv => whnf) | fail)
  exact Run.leave (ts := [4]) (.inr ⟨_, rfl⟩) rfl Tryd.func77 rfl (Le.refl _)
theorem drop_cons {α : Type} {l t : List α} {i : Nat} {x z : α} (h : l.drop i = x :: t) : l.getD i z = x ∧ l.drop (i + 1) = t := by
  have h1 : i < l.length := by
    rcases Nat.lt_or_ge i l.length with h' | h'
    · exact h'
    · rw [List.drop_of_length_le h'] at h; cases h
  rw [List.drop_eq_getElem_cons h1] at h
  injection h with h2 h3
  exact ⟨by rw [List.getD, List.getElem?_eq_getElem h1]; exact h2, h3⟩
theorem split59_fn (l : List UInt8) (hl : l.length ≤ 65536) : Fn Tryd.prog 59 [.str (bs l), .str (bs [10]), .int .i64 0, .int .i64 (-1)] (tS.L (splitB l)) := by
  refine Fn.of Tryd.f59 _ Tryd.func59 rfl (by decide) (by show 4 ≤ _; decide) tbOk 66 rfl fun S w0 gl => ?_
  have hs := nl_size
  have hn : (splitB l).length = Lib.countByte l 10 + 1 := by unfold splitB; rw [List.length_map, splitL_len]
  have hle : Lib.countByte l 10 ≤ l.length := List.count_le_length
  refine Run.go ?_; (conv => whnf); repeat' (first | ((with_reducible refine Know.mk fun _ => ?_); conv => whnf) | ((with_reducible refine Need.mk ?_ ?_); (first | omega | (dsimp only; omega) | decide | exact bytes_le (by rfl) (by omega) | exact ⟨rfl, by omega, bytes_le (by rfl) (by omega), by omega⟩ | (refine ⟨?_, ?_⟩ <;> (rw [wrap64 (by omega) (by omega)]; omega))); conv => whnf) | ((with_reducible refine Both.mk ?_ ?_) <;> conv => whnf) | ((with_reducible refine Any.mk fun b hb => ?_); conv => whnf) | ((with_reducible refine AskB.dec (fun hb => ?_) (fun hb => ?_)) <;> conv => whnf) | ((with_reducible refine AskB.ndec (fun hb => ?_) (fun hb => ?_)) <;> conv => whnf) | ((with_reducible refine AskB.mk (fun hb => ?_) (fun hb => ?_)) <;> conv => whnf) | ((with_reducible refine Run.drawX rfl (by decide +kernel) ?_); conv => whnf) | ((with_reducible refine Run.drawT rfl (by decide +kernel) ?_); conv => whnf) | ((with_reducible refine Run.drawW rfl (by decide +kernel) ?_); conv => whnf) | fail)
  · omega
  · exact absurd (congrArg ByteArray.size hb) (by rw [hs]; decide)
  · refine Run.callBX (count76_fn l) rfl rfl ⟨Le.refl _, Le.refl _, trivial⟩ rfl rfl rfl ?_
    (conv => whnf); repeat' (first | ((with_reducible refine Know.mk fun _ => ?_); conv => whnf) | ((with_reducible refine Need.mk ?_ ?_); (first | omega | (dsimp only; omega) | decide | exact bytes_le (by rfl) (by omega) | exact ⟨rfl, by omega, bytes_le (by rfl) (by omega), by omega⟩ | (refine ⟨?_, ?_⟩ <;> (rw [wrap64 (by omega) (by omega)]; omega))); conv => whnf) | ((with_reducible refine Both.mk ?_ ?_) <;> conv => whnf) | ((with_reducible refine Any.mk fun b hb => ?_); conv => whnf) | ((with_reducible refine AskB.dec (fun hb => ?_) (fun hb => ?_)) <;> conv => whnf) | ((with_reducible refine AskB.ndec (fun hb => ?_) (fun hb => ?_)) <;> conv => whnf) | ((with_reducible refine AskB.mk (fun hb => ?_) (fun hb => ?_)) <;> conv => whnf) | ((with_reducible refine Run.drawX rfl (by decide +kernel) ?_); conv => whnf) | ((with_reducible refine Run.drawT rfl (by decide +kernel) ?_); conv => whnf) | ((with_reducible refine Run.drawW rfl (by decide +kernel) ?_); conv => whnf) | fail)
    have hw : IntKind.i64.wrap ((Lib.countByte l 10 : Nat) + 1) = ((splitB l).length : Int) := by rw [hn]; exact wrap64 (by omega) (by omega)
    have hw2 : IntKind.i64.wrap (((bs l).size : Int) + 1) = (l.length : Int) + 1 := by rw [bs_size]; exact wrap64 (by omega) (by omega)
    refine Run.minInt (x := .tmp 25) (y := .tmp 28) (c := ⟨.builtin .min, #[.tmp 25, .tmp 28], #[3, 3]⟩) _ _ rfl rfl rfl rfl rfl rfl rfl rfl ?_
    rw [hw, hw2, if_neg (by omega)]
    have hn1 : 1 ≤ (splitB l).length := by omega
    have hn2 : (splitB l).length ≤ 65537 := by omega
    refine Run.go ?_; (conv => whnf); repeat' (first | ((with_reducible refine Know.mk fun _ => ?_); conv => whnf) | ((with_reducible refine Need.mk ?_ ?_); (first | omega | (dsimp only; omega) | decide | exact bytes_le (by rfl) (by omega) | exact ⟨rfl, by omega, bytes_le (by rfl) (by omega), by omega⟩ | (refine ⟨?_, ?_⟩ <;> (rw [wrap64 (by omega) (by omega)]; omega))); conv => whnf) | ((with_reducible refine Both.mk ?_ ?_) <;> conv => whnf) | ((with_reducible refine Any.mk fun b hb => ?_); conv => whnf) | ((with_reducible refine AskB.dec (fun hb => ?_) (fun hb => ?_)) <;> conv => whnf) | ((with_reducible refine AskB.ndec (fun hb => ?_) (fun hb => ?_)) <;> conv => whnf) | ((with_reducible refine AskB.mk (fun hb => ?_) (fun hb => ?_)) <;> conv => whnf) | ((with_reducible refine Run.drawX rfl (by decide +kernel) ?_); conv => whnf) | ((with_reducible refine Run.drawT rfl (by decide +kernel) ?_); conv => whnf) | ((with_reducible refine Run.drawW rfl (by decide +kernel) ?_); conv => whnf) | fail)
    have hw3 : IntKind.i64.wrap (((splitB l).length : Int) - 1) = ((splitB l).length : Int) - 1 := wrap64 (by omega) (by omega)
    refine Run.loop [1, 2, 3, 9] (fun (a : Nat × List UInt8) => [(0, .str (bs a.2)), (10, .int .i64 (a.1 : Int))]) (fun a => [(31, tS.R 9 (part (splitB l) .empty a.1))]) (fun a => a.1 < (splitB l).length ∧ (splitB l).drop a.1 = splitB a.2 ∧ a.2.length ≤ l.length) (fun a => (splitB l).length - a.1) (0, l) ⟨by omega, rfl, Nat.le_refl _⟩ ⟨Le.refl _, Le.refl _, trivial⟩ ⟨?_, trivial⟩ ?_
    · rw [part_none]
      refine ⟨rfl, rfl, by simp, fun i j hi hj => ?_⟩
      have hj0 : j = 0 := by have : j < 1 := hj; omega
      subst hj0
      unfold Ty.G
      rw [List.getD, List.getElem?_replicate]
      split <;> exact Le.refl _
    intro ⟨i, r⟩ ⟨hi, hd, hr⟩ IH
    simp only [] at hi hd hr ⊢
    have hlen : (splitB r).length = (splitB l).length - i := by rw [← hd, List.length_drop]
    have hw4 : IntKind.i64.wrap ((i : Int) + 1) = ((i + 1 : Nat) : Int) := wrap64 (by omega) (by omega)
    have hpl := part_len (splitB l) ByteArray.empty i (by omega)
    refine Run.go ?_; (conv => whnf); repeat' (first | ((with_reducible refine Know.mk fun _ => ?_); conv => whnf) | ((with_reducible refine Need.mk ?_ ?_); (first | omega | (dsimp only; omega) | decide | exact bytes_le (by rfl) (by omega) | exact ⟨rfl, by omega, bytes_le (by rfl) (by omega), by omega⟩ | (refine ⟨?_, ?_⟩ <;> (rw [wrap64 (by omega) (by omega)]; omega))); conv => whnf) | ((with_reducible refine Both.mk ?_ ?_) <;> conv => whnf) | ((with_reducible refine Any.mk fun b hb => ?_); conv => whnf) | ((with_reducible refine AskB.dec (fun hb => ?_) (fun hb => ?_)) <;> conv => whnf) | ((with_reducible refine AskB.ndec (fun hb => ?_) (fun hb => ?_)) <;> conv => whnf) | ((with_reducible refine AskB.mk (fun hb => ?_) (fun hb => ?_)) <;> conv => whnf) | ((with_reducible refine Run.drawX rfl (by decide +kernel) ?_); conv => whnf) | ((with_reducible refine Run.drawT rfl (by decide +kernel) ?_); conv => whnf) | ((with_reducible refine Run.drawW rfl (by decide +kernel) ?_); conv => whnf) | fail)
    · have h2 : 2 ≤ (splitL r).length := by
        have : (splitB r).length = (splitL r).length := by simp [splitB]
        omega
      obtain ⟨m, hm⟩ := splitL_two h2
      obtain ⟨hml, hms⟩ := splitL_at r m hm
      refine Run.callBX (index77_fn r) rfl rfl ⟨Le.refl _, Le.refl _, trivial⟩ rfl rfl rfl ?_
      rw [hm]
      have hw5 : IntKind.i64.wrap ((m : Int) + 0) = (m : Int) := wrap64 (by omega) (by omega)
      have hw6 : IntKind.i64.wrap ((m : Int) + ((bs [10]).size : Int)) = ((m + 1 : Nat) : Int) := by rw [hs]; exact wrap64 (by omega) (by omega)
      have hbr := bs_size r
      (conv => whnf); repeat' (first | ((with_reducible refine Know.mk fun _ => ?_); conv => whnf) | ((with_reducible refine Need.mk ?_ ?_); (first | omega | (dsimp only; omega) | decide | exact bytes_le (by rfl) (by omega) | exact ⟨rfl, by omega, bytes_le (by rfl) (by omega), by omega⟩ | (refine ⟨?_, ?_⟩ <;> (rw [wrap64 (by omega) (by omega)]; omega))); conv => whnf) | ((with_reducible refine Both.mk ?_ ?_) <;> conv => whnf) | ((with_reducible refine Any.mk fun b hb => ?_); conv => whnf) | ((with_reducible refine AskB.dec (fun hb => ?_) (fun hb => ?_)) <;> conv => whnf) | ((with_reducible refine AskB.ndec (fun hb => ?_) (fun hb => ?_)) <;> conv => whnf) | ((with_reducible refine AskB.mk (fun hb => ?_) (fun hb => ?_)) <;> conv => whnf) | ((with_reducible refine Run.drawX rfl (by decide +kernel) ?_); conv => whnf) | ((with_reducible refine Run.drawT rfl (by decide +kernel) ?_); conv => whnf) | ((with_reducible refine Run.drawW rfl (by decide +kernel) ?_); conv => whnf) | fail)
      · exfalso; omega
      · obtain ⟨g1, g2⟩ := drop_cons (z := ByteArray.empty) (show (splitB l).drop i = bs (r.take m) :: splitB (r.drop (m + 1)) by rw [hd]; unfold splitB; rw [hms]; rfl)
        refine Run.to _ _ ?_ ?_ (IH (i + 1, r.drop (m + 1)) (by simp only []; omega) ⟨by simp only []; omega, g2, by simp only [List.length_drop]; omega⟩)
        · refine ⟨Le.refl _, Le.refl _, Le.refl _, Le.refl _, Le.str ?_, Le.int hw4, trivial⟩
          rw [hw6, Int.toNat_natCast, bs_extract, bs_size, List.take_of_length_le (by simp)]
        · refine ⟨?_, trivial⟩
          rw [← part_set (splitB l) .empty i hi, g1]
          refine tS.set 9 (part (splitB l) .empty i) i _ (by omega) _ rfl (fun j y hy => ?_)
          have hj : j = 0 := by
            rcases j with _ | j
            · rfl
            · simp at hy
          subst hj
          cases hy
          refine Le.str ?_
          rw [hw5, Int.toNat_natCast, bs_extract]; simp
    · have h1 : i + 1 = (splitB l).length := by omega
      have hr1 : splitL r = [r] := by
        refine splitL_no r ?_
        have hge := Lib.indexByte_ge r 10
        refine Classical.byContradiction fun hne => ?_
        obtain ⟨h2, h3⟩ := splitL_at r (Lib.indexByte r 10).toNat (by omega)
        have h4 : (splitB r).length = (splitL r).length := by simp [splitB]
        rw [h3] at h4
        have h5 := List.length_pos_iff.mpr (splitL_ne (r.drop ((Lib.indexByte r 10).toNat + 1)))
        simp only [List.length_cons] at h4
        omega
      obtain ⟨g1, g2⟩ := drop_cons (z := ByteArray.empty) (show (splitB l).drop i = bs r :: [] by rw [hd]; unfold splitB; rw [hr1]; rfl)
      refine Run.soft 62 31 rfl rfl ?_
      refine Run.go ?_; (conv => whnf); repeat' (first | ((with_reducible refine Know.mk fun _ => ?_); conv => whnf) | ((with_reducible refine Need.mk ?_ ?_); (first | omega | (dsimp only; omega) | decide | exact bytes_le (by rfl) (by omega) | exact ⟨rfl, by omega, bytes_le (by rfl) (by omega), by omega⟩ | (refine ⟨?_, ?_⟩ <;> (rw [wrap64 (by omega) (by omega)]; omega))); conv => whnf) | ((with_reducible refine Both.mk ?_ ?_) <;> conv => whnf) | ((with_reducible refine Any.mk fun b hb => ?_); conv => whnf) | ((with_reducible refine AskB.dec (fun hb => ?_) (fun hb => ?_)) <;> conv => whnf) | ((with_reducible refine AskB.ndec (fun hb => ?_) (fun hb => ?_)) <;> conv => whnf) | ((with_reducible refine AskB.mk (fun hb => ?_) (fun hb => ?_)) <;> conv => whnf) | ((with_reducible refine Run.drawX rfl (by decide +kernel) ?_); conv => whnf) | ((with_reducible refine Run.drawT rfl (by decide +kernel) ?_); conv => whnf) | ((with_reducible refine Run.drawW rfl (by decide +kernel) ?_); conv => whnf) | fail)
      · refine Run.leave (ts := [8]) (.inr ⟨_, rfl⟩) rfl Tryd.func59 rfl ?_
        have hp : MOle (.row 9 tS.sz (part (splitB l) .empty i).length (updRow (tS.G (part (splitB l) .empty i)) i 0 [.str (bs r)])) (tS.R 9 (splitB l)) := by
          have h6 : splitB l = (part (splitB l) .empty i).set i (bs r) := by
            rw [← g1, part_set _ _ _ hi, h1, part_all]
          conv => arg 2; rw [h6]
          refine tS.set 9 (part (splitB l) .empty i) i _ (by omega) _ rfl (fun j y hy => ?_)
          have hj : j = 0 := by
            rcases j with _ | j
            · rfl
            · simp at hy
          subst hj
          cases hy
          exact Le.refl _
        obtain ⟨-, -, e3, e4⟩ := hp
        have e5 : tS.L (splitB l) = .sl ((IntKind.i64.wrap ((i : Int) + 1)).toNat - 0) tS.sz (tS.G (splitB l)) := by
          rw [hw4, Int.toNat_natCast, Nat.sub_zero, h1]; rfl
        rw [e5]
        refine Le.sl (fun a b ha hb => e4 a b ?_ hb)
        rw [hw4] at ha
        simp only [Int.toNat_natCast, Nat.sub_zero] at ha
        omega
  · omega
theorem split46_fn (l : List UInt8) (hl : l.length ≤ 65536) : Fn Tryd.prog 46 [.str (bs l), .str (bs [10])] (tS.L (splitB l)) := by
  refine Fn.of Tryd.f46 _ Tryd.func46 rfl (by decide) (by show 2 ≤ _; decide) tbOk 8 rfl fun S w0 gl => ?_
  refine Run.go ?_; (conv => whnf); repeat' (first | ((with_reducible refine Know.mk fun _ => ?_); conv => whnf) | ((with_reducible refine Need.mk ?_ ?_); (first | omega | (dsimp only; omega) | decide | exact bytes_le (by rfl) (by omega) | exact ⟨rfl, by omega, bytes_le (by rfl) (by omega), by omega⟩ | (refine ⟨?_, ?_⟩ <;> (rw [wrap64 (by omega) (by omega)]; omega))); conv => whnf) | ((with_reducible refine Both.mk ?_ ?_) <;> conv => whnf) | ((with_reducible refine Any.mk fun b hb => ?_); conv => whnf) | ((with_reducible refine AskB.dec (fun hb => ?_) (fun hb => ?_)) <;> conv => whnf) | ((with_reducible refine AskB.ndec (fun hb => ?_) (fun hb => ?_)) <;> conv => whnf) | ((with_reducible refine AskB.mk (fun hb => ?_) (fun hb => ?_)) <;> conv => whnf) | ((with_reducible refine Run.drawX rfl (by decide +kernel) ?_); conv => whnf) | ((with_reducible refine Run.drawT rfl (by decide +kernel) ?_); conv => whnf) | ((with_reducible refine Run.drawW rfl (by decide +kernel) ?_); conv => whnf) | fail)
  refine Run.callBX (split59_fn l hl) rfl rfl ⟨Le.refl _, Le.refl _, Le.refl _, Le.refl _, trivial⟩ rfl rfl rfl ?_
  (conv => whnf); repeat' (first | ((with_reducible refine Know.mk fun _ => ?_); conv => whnf) | ((with_reducible refine Need.mk ?_ ?_); (first | omega | (dsimp only; omega) | decide | exact bytes_le (by rfl) (by omega) | exact ⟨rfl, by omega, bytes_le (by rfl) (by omega), by omega⟩ | (refine ⟨?_, ?_⟩ <;> (rw [wrap64 (by omega) (by omega)]; omega))); conv => whnf) | ((with_reducible refine Both.mk ?_ ?_) <;> conv => whnf) | ((with_reducible refine Any.mk fun b hb => ?_); conv => whnf) | ((with_reducible refine AskB.dec (fun hb => ?_) (fun hb => ?_)) <;> conv => whnf) | ((with_reducible refine AskB.ndec (fun hb => ?_) (fun hb => ?_)) <;> conv => whnf) | ((with_reducible refine AskB.mk (fun hb => ?_) (fun hb => ?_)) <;> conv => whnf) | ((with_reducible refine Run.drawX rfl (by decide +kernel) ?_); conv => whnf) | ((with_reducible refine Run.drawT rfl (by decide +kernel) ?_); conv => whnf) | ((with_reducible refine Run.drawW rfl (by decide +kernel) ?_); conv => whnf) | fail)
  exact Run.leave (ts := [4]) (.inr ⟨_, rfl⟩) rfl Tryd.func46 rfl (Le.refl _)
end Go.Proofs.YtnadacaoehpdnaaDoor.V
