/-
scan.tokens walked
-/
import Derived.Test.YtfodjmemdkibpaaDoorWc
import Derived.Test.YtfodjmemdkibpaaDoorRt
namespace Go.Proofs.YtfodjmemdkibpaaDoor.V
open Go Go.Proofs Go.RowKit
set_option linter.unusedVariables false
set_option linter.unusedSimpArgs false
set_option maxRecDepth 100000
set_option maxHeartbeats 2000000
open Go Go.Proofs Go.Proofs.YtfodjmemdkibpaaDoor.V
theorem kcell_fn (c : Cel) : Fn Tryd.prog 63 [.agg 5 (tCel.enc c)] (.int .i64 (kCel c)) := by
  refine Fn.of Tryd.f63 _ Tryd.func63 rfl (by decide) (by show 1 ≤ _; decide) tbOk 8 rfl fun S w0 gl => ?_
  refine Run.go ?_; (conv => whnf); repeat' (first | ((with_reducible refine Know.mk fun _ => ?_); conv => whnf) | ((with_reducible refine Need.mk ?_ ?_); (first | omega | (dsimp only; omega) | decide | exact bytes_le (by rfl) (by omega) | exact ⟨rfl, by omega, bytes_le (by rfl) (by omega), by omega⟩ | (refine ⟨?_, ?_⟩ <;> (rw [wrap64 (by omega) (by omega)]; omega))); conv => whnf) | ((with_reducible refine Both.mk ?_ ?_) <;> conv => whnf) | ((with_reducible refine Any.mk fun b hb => ?_); conv => whnf) | ((with_reducible refine AskB.dec (fun hb => ?_) (fun hb => ?_)) <;> conv => whnf) | ((with_reducible refine AskB.ndec (fun hb => ?_) (fun hb => ?_)) <;> conv => whnf) | ((with_reducible refine AskB.mk (fun hb => ?_) (fun hb => ?_)) <;> conv => whnf) | ((with_reducible refine Run.drawX rfl (by decide +kernel) ?_); conv => whnf) | ((with_reducible refine Run.drawT rfl (by decide +kernel) ?_); conv => whnf) | ((with_reducible refine Run.drawW rfl (by decide +kernel) ?_); conv => whnf) | fail)
  · exact Run.leave (ts := [2]) (.inr ⟨_, rfl⟩) rfl Tryd.func63 rfl (Le.int (by unfold kCel; rw [if_pos hb]))
  · refine Run.callBX (of_fn c.r) rfl rfl ⟨Le.refl _, trivial⟩ rfl rfl rfl ?_
    (conv => whnf); repeat' (first | ((with_reducible refine Know.mk fun _ => ?_); conv => whnf) | ((with_reducible refine Need.mk ?_ ?_); (first | omega | (dsimp only; omega) | decide | exact bytes_le (by rfl) (by omega) | exact ⟨rfl, by omega, bytes_le (by rfl) (by omega), by omega⟩ | (refine ⟨?_, ?_⟩ <;> (rw [wrap64 (by omega) (by omega)]; omega))); conv => whnf) | ((with_reducible refine Both.mk ?_ ?_) <;> conv => whnf) | ((with_reducible refine Any.mk fun b hb => ?_); conv => whnf) | ((with_reducible refine AskB.dec (fun hb => ?_) (fun hb => ?_)) <;> conv => whnf) | ((with_reducible refine AskB.ndec (fun hb => ?_) (fun hb => ?_)) <;> conv => whnf) | ((with_reducible refine AskB.mk (fun hb => ?_) (fun hb => ?_)) <;> conv => whnf) | ((with_reducible refine Run.drawX rfl (by decide +kernel) ?_); conv => whnf) | ((with_reducible refine Run.drawT rfl (by decide +kernel) ?_); conv => whnf) | ((with_reducible refine Run.drawW rfl (by decide +kernel) ?_); conv => whnf) | fail)
    exact Run.leave (ts := [2]) (.inr ⟨_, rfl⟩) rfl Tryd.func63 rfl (Le.int (by unfold kCel; rw [if_neg (by simp [hb])]))
theorem wordy_fn (k : Int) : Fn Tryd.prog 64 [.int .i64 k] (.bool (wordy k)) := by
  refine Fn.of Tryd.f64 _ Tryd.func64 rfl (by decide) (by show 1 ≤ _; decide) tbOk 13 rfl fun S w0 gl => ?_
  refine Run.go ?_; (conv => whnf); repeat' (first | ((with_reducible refine Know.mk fun _ => ?_); conv => whnf) | ((with_reducible refine Need.mk ?_ ?_); (first | omega | (dsimp only; omega) | decide | exact bytes_le (by rfl) (by omega) | exact ⟨rfl, by omega, bytes_le (by rfl) (by omega), by omega⟩ | (refine ⟨?_, ?_⟩ <;> (rw [wrap64 (by omega) (by omega)]; omega))); conv => whnf) | ((with_reducible refine Both.mk ?_ ?_) <;> conv => whnf) | ((with_reducible refine Any.mk fun b hb => ?_); conv => whnf) | ((with_reducible refine AskB.dec (fun hb => ?_) (fun hb => ?_)) <;> conv => whnf) | ((with_reducible refine AskB.ndec (fun hb => ?_) (fun hb => ?_)) <;> conv => whnf) | ((with_reducible refine AskB.mk (fun hb => ?_) (fun hb => ?_)) <;> conv => whnf) | ((with_reducible refine Run.drawX rfl (by decide +kernel) ?_); conv => whnf) | ((with_reducible refine Run.drawT rfl (by decide +kernel) ?_); conv => whnf) | ((with_reducible refine Run.drawW rfl (by decide +kernel) ?_); conv => whnf) | fail)
  · exact Run.leave (ts := [2]) (.inr ⟨_, rfl⟩) rfl Tryd.func64 rfl (Le.tt.trans (Le.bool (by simp [wordy, hb])))
  · exact Run.leave (ts := [2]) (.inr ⟨_, rfl⟩) rfl Tryd.func64 rfl (Le.tt.trans (Le.bool (by simp [wordy, hb])))
  · rename_i h1
    exact Run.leave (ts := [2]) (.inr ⟨_, rfl⟩) rfl Tryd.func64 rfl (Le.bool (by simp [wordy, h1, hb]))
theorem nwy {L : List Cel} {i : Nat} (h : wordy (knd L i) = false) : ¬ wy L i := fun h2 => absurd (h.symm.trans h2) (by decide)
theorem tokens_fn (s : ByteArray) (base : Int) (hs : s.size ≤ 1048576) (hb0 : 0 ≤ base) (hb1 : base ≤ 1048576) : Fn Tryd.prog 48 [.str s, .int .i64 base] (tTok.L (toks s base (cells s 0) 0)) := by
  refine Fn.of Tryd.f48 _ Tryd.func48 rfl (by decide) (by show 2 ≤ _; decide) tbOk 156 rfl fun S w0 gl => ?_
  refine Run.go ?_; (conv => whnf); repeat' (first | ((with_reducible refine Know.mk fun _ => ?_); conv => whnf) | ((with_reducible refine Need.mk ?_ ?_); (first | omega | (dsimp only; omega) | decide | exact bytes_le (by rfl) (by omega) | exact ⟨rfl, by omega, bytes_le (by rfl) (by omega), by omega⟩ | (refine ⟨?_, ?_⟩ <;> (rw [wrap64 (by omega) (by omega)]; omega))); conv => whnf) | ((with_reducible refine Both.mk ?_ ?_) <;> conv => whnf) | ((with_reducible refine Any.mk fun b hb => ?_); conv => whnf) | ((with_reducible refine AskB.dec (fun hb => ?_) (fun hb => ?_)) <;> conv => whnf) | ((with_reducible refine AskB.ndec (fun hb => ?_) (fun hb => ?_)) <;> conv => whnf) | ((with_reducible refine AskB.mk (fun hb => ?_) (fun hb => ?_)) <;> conv => whnf) | ((with_reducible refine Run.drawX rfl (by decide +kernel) ?_); conv => whnf) | ((with_reducible refine Run.drawT rfl (by decide +kernel) ?_); conv => whnf) | ((with_reducible refine Run.drawW rfl (by decide +kernel) ?_); conv => whnf) | fail)
  refine Run.callBX (cells_fn s (by omega)) rfl rfl ⟨Le.refl _, trivial⟩ rfl rfl rfl ?_
  have hlen := cells_len s 0
  generalize hL : cells s 0 = L at *
  have hw : IntKind.i64.wrap (L.length + 1) = L.length + 1 := wrap64 (by omega) (by omega)
  (conv => whnf); repeat' (first | ((with_reducible refine Know.mk fun _ => ?_); conv => whnf) | ((with_reducible refine Need.mk ?_ ?_); (first | omega | (dsimp only; omega) | decide | exact bytes_le (by rfl) (by omega) | exact ⟨rfl, by omega, bytes_le (by rfl) (by omega), by omega⟩ | (refine ⟨?_, ?_⟩ <;> (rw [wrap64 (by omega) (by omega)]; omega))); conv => whnf) | ((with_reducible refine Both.mk ?_ ?_) <;> conv => whnf) | ((with_reducible refine Any.mk fun b hb => ?_); conv => whnf) | ((with_reducible refine AskB.dec (fun hb => ?_) (fun hb => ?_)) <;> conv => whnf) | ((with_reducible refine AskB.ndec (fun hb => ?_) (fun hb => ?_)) <;> conv => whnf) | ((with_reducible refine AskB.mk (fun hb => ?_) (fun hb => ?_)) <;> conv => whnf) | ((with_reducible refine Run.drawX rfl (by decide +kernel) ?_); conv => whnf) | ((with_reducible refine Run.drawT rfl (by decide +kernel) ?_); conv => whnf) | ((with_reducible refine Run.drawW rfl (by decide +kernel) ?_); conv => whnf) | fail)
  rw [hw]
  repeat' (first | ((with_reducible refine Know.mk fun _ => ?_); conv => whnf) | ((with_reducible refine Need.mk ?_ ?_); (first | omega | (dsimp only; omega) | decide | exact bytes_le (by rfl) (by omega) | exact ⟨rfl, by omega, bytes_le (by rfl) (by omega), by omega⟩ | (refine ⟨?_, ?_⟩ <;> (rw [wrap64 (by omega) (by omega)]; omega))); conv => whnf) | ((with_reducible refine Both.mk ?_ ?_) <;> conv => whnf) | ((with_reducible refine Any.mk fun b hb => ?_); conv => whnf) | ((with_reducible refine AskB.dec (fun hb => ?_) (fun hb => ?_)) <;> conv => whnf) | ((with_reducible refine AskB.ndec (fun hb => ?_) (fun hb => ?_)) <;> conv => whnf) | ((with_reducible refine AskB.mk (fun hb => ?_) (fun hb => ?_)) <;> conv => whnf) | ((with_reducible refine Run.drawX rfl (by decide +kernel) ?_); conv => whnf) | ((with_reducible refine Run.drawT rfl (by decide +kernel) ?_); conv => whnf) | ((with_reducible refine Run.drawW rfl (by decide +kernel) ?_); conv => whnf) | fail)
  refine Run.loop [0, 1, 5, 6, 21, 22] (fun i : Nat => [(23, .int .i64 (i : Int))]) (fun i => [(20, tI.R 3 (kinds L i))]) (fun i => i ≤ L.length) (fun i => L.length - i) 0 (Nat.zero_le _) ⟨Le.refl _, trivial⟩ ⟨?_, trivial⟩ ?_
  · refine ⟨rfl, rfl, by rw [kinds_len L 0 (Nat.zero_le _)]; omega, fun i j hi hj => ?_⟩
    have : j = 0 := by omega
    subst this
    refine Le.int ?_
    have hi' : i < L.length + 1 := by omega
    simp [kinds, List.getD, hi']
  intro i hi IH
  have hkl := kinds_len L i hi
  refine Run.go ?_; (conv => whnf); repeat' (first | ((with_reducible refine Know.mk fun _ => ?_); conv => whnf) | ((with_reducible refine Need.mk ?_ ?_); (first | omega | (dsimp only; omega) | decide | exact bytes_le (by rfl) (by omega) | exact ⟨rfl, by omega, bytes_le (by rfl) (by omega), by omega⟩ | (refine ⟨?_, ?_⟩ <;> (rw [wrap64 (by omega) (by omega)]; omega))); conv => whnf) | ((with_reducible refine Both.mk ?_ ?_) <;> conv => whnf) | ((with_reducible refine Any.mk fun b hb => ?_); conv => whnf) | ((with_reducible refine AskB.dec (fun hb => ?_) (fun hb => ?_)) <;> conv => whnf) | ((with_reducible refine AskB.ndec (fun hb => ?_) (fun hb => ?_)) <;> conv => whnf) | ((with_reducible refine AskB.mk (fun hb => ?_) (fun hb => ?_)) <;> conv => whnf) | ((with_reducible refine Run.drawX rfl (by decide +kernel) ?_); conv => whnf) | ((with_reducible refine Run.drawT rfl (by decide +kernel) ?_); conv => whnf) | ((with_reducible refine Run.drawW rfl (by decide +kernel) ?_); conv => whnf) | fail)
  · refine Run.callBX (kcell_fn (L.getD i cel0)) rfl rfl ⟨?_, trivial⟩ rfl rfl rfl ?_
    · refine Le.agg fun j hj => ?_
      match j, hj with
      | 0, _ => exact Le.refl _
      | 1, _ => exact Le.refl _
      | 2, _ => exact Le.refl _
      | 3, _ => exact Le.refl _
      | 4, _ => exact Le.refl _
    (conv => whnf); repeat' (first | ((with_reducible refine Know.mk fun _ => ?_); conv => whnf) | ((with_reducible refine Need.mk ?_ ?_); (first | omega | (dsimp only; omega) | decide | exact bytes_le (by rfl) (by omega) | exact ⟨rfl, by omega, bytes_le (by rfl) (by omega), by omega⟩ | (refine ⟨?_, ?_⟩ <;> (rw [wrap64 (by omega) (by omega)]; omega))); conv => whnf) | ((with_reducible refine Both.mk ?_ ?_) <;> conv => whnf) | ((with_reducible refine Any.mk fun b hb => ?_); conv => whnf) | ((with_reducible refine AskB.dec (fun hb => ?_) (fun hb => ?_)) <;> conv => whnf) | ((with_reducible refine AskB.ndec (fun hb => ?_) (fun hb => ?_)) <;> conv => whnf) | ((with_reducible refine AskB.mk (fun hb => ?_) (fun hb => ?_)) <;> conv => whnf) | ((with_reducible refine Run.drawX rfl (by decide +kernel) ?_); conv => whnf) | ((with_reducible refine Run.drawT rfl (by decide +kernel) ?_); conv => whnf) | ((with_reducible refine Run.drawW rfl (by decide +kernel) ?_); conv => whnf) | fail)
    refine Run.to _ _ ?_ ?_ (IH (i + 1) (by omega) (by omega))
    · exact ⟨Le.refl _, Le.refl _, Le.refl _, Le.refl _, Le.refl _, Le.refl _, Le.wrap64 (by omega) (by omega) (by omega), trivial⟩
    · refine ⟨?_, trivial⟩
      rw [← kinds_set L i (by omega)]
      exact tI.set 3 _ _ _ (by omega) _ rfl (Le.one (Le.refl _))
  have hil : i = L.length := by omega
  subst hil
  refine Run.holdNil 9 1000 60 3 (fun _ _ => .u) (by rfl) ?_
  refine Run.loop [0, 1, 5, 6] (fun (a : Nat × List Tok) => [(9, .row 1000), (10, .int .i64 (a.1 : Int))]) (fun a => [(20, tI.R 3 (kindsE L)), (1000, tTok.R 60 a.2)])
    (fun a => a.1 ≤ L.length ∧ a.2.length ≤ a.1 ∧ a.2 ++ toks s base L a.1 = toks s base L 0) (fun a => L.length - a.1) (0, []) ⟨Nat.zero_le _, Nat.zero_le _, rfl⟩ ⟨Le.refl _, Le.refl _, trivial⟩ ⟨?_, ⟨rfl, rfl, rfl, fun i j hi => absurd hi (Nat.not_lt_zero _)⟩, trivial⟩ ?_
  · rw [← kinds_end L]
    exact tI.set 3 _ _ _ (by omega) _ rfl (Le.one (Le.refl _))
  intro ⟨i, l⟩ ⟨hi, hl, hc⟩ IH
  simp only at hi hl hc
  show Run _ _ (lst (_ ++ [(9, .row 1000), (10, .int .i64 (i : Int))])) (lstH [(20, tI.R 3 (kindsE L)), (1000, tTok.R 60 l)])
  have hke := kindsE_len L
  by_cases hil : i < L.length
  · have hat : ∀ j, j ≤ L.length → (kindsE L).getD (↑j : Int).toNat tI.z = knd L j := fun j hj => kindsE_at L j hj
    have hw2 : ∀ j : Nat, j ≤ L.length → IntKind.i64.wrap ((j : Int) + 1) = (j : Int) + 1 := fun j hj => wrap64 (by omega) (by omega)
    have hw3 := hw2 i hi
    apply Run.cutAt (A := fun CC kk => ∀ (n : Nat) (k : Int), tokE L i = (k, n) → Run CC kk (lst [(0, .str s), (1, .int .i64 base), (5, tCel.L L), (6, .row 20), (9, .row 1000), (10, .int .i64 (n : Int)), (11, .int .i64 (i : Int)), (12, .int .i64 k)]) (lstH [(20, tI.R 3 (kindsE L)), (1000, tTok.R 60 l)]))
    case main =>
      intro put
      refine Run.go ?_; (conv => whnf); repeat' (first | ((with_reducible refine Know.mk fun _ => ?_); conv => whnf) | ((with_reducible refine Need.mk ?_ ?_); (first | omega | (dsimp only; omega) | decide | exact bytes_le (by rfl) (by omega) | exact ⟨rfl, by omega, bytes_le (by rfl) (by omega), by omega⟩ | (refine ⟨?_, ?_⟩ <;> (rw [wrap64 (by omega) (by omega)]; omega))); conv => whnf) | ((with_reducible refine Both.mk ?_ ?_) <;> conv => whnf) | ((with_reducible refine Any.mk fun b hb => ?_); conv => whnf) | ((with_reducible refine AskB.dec (fun hb => ?_) (fun hb => ?_)) <;> conv => whnf) | ((with_reducible refine AskB.ndec (fun hb => ?_) (fun hb => ?_)) <;> conv => whnf) | ((with_reducible refine AskB.mk (fun hb => ?_) (fun hb => ?_)) <;> conv => whnf) | ((with_reducible refine Run.drawX rfl (by decide +kernel) ?_); conv => whnf) | ((with_reducible refine Run.drawT rfl (by decide +kernel) ?_); conv => whnf) | ((with_reducible refine Run.drawW rfl (by decide +kernel) ?_); conv => whnf) | fail)
      · omega
      refine Run.callBX (wordy_fn (knd L i)) rfl rfl ⟨Le.int (hat i hi), trivial⟩ rfl rfl rfl ?_
      (conv => whnf); repeat' (first | ((with_reducible refine Know.mk fun _ => ?_); conv => whnf) | ((with_reducible refine Need.mk ?_ ?_); (first | omega | (dsimp only; omega) | decide | exact bytes_le (by rfl) (by omega) | exact ⟨rfl, by omega, bytes_le (by rfl) (by omega), by omega⟩ | (refine ⟨?_, ?_⟩ <;> (rw [wrap64 (by omega) (by omega)]; omega))); conv => whnf) | ((with_reducible refine Both.mk ?_ ?_) <;> conv => whnf) | ((with_reducible refine Any.mk fun b hb => ?_); conv => whnf) | ((with_reducible refine AskB.dec (fun hb => ?_) (fun hb => ?_)) <;> conv => whnf) | ((with_reducible refine AskB.ndec (fun hb => ?_) (fun hb => ?_)) <;> conv => whnf) | ((with_reducible refine AskB.mk (fun hb => ?_) (fun hb => ?_)) <;> conv => whnf) | ((with_reducible refine Run.drawX rfl (by decide +kernel) ?_); conv => whnf) | ((with_reducible refine Run.drawT rfl (by decide +kernel) ?_); conv => whnf) | ((with_reducible refine Run.drawW rfl (by decide +kernel) ?_); conv => whnf) | fail)
      · have hwy : wy L i := hb
        refine Run.loop [0, 1, 5, 6, 9, 11, 12] (fun (j : Nat) => [(10, .int .i64 (j : Int))]) (fun j => [(20, tI.R 3 (kindsE L)), (1000, tTok.R 60 l)])
          (fun j => i ≤ j ∧ j ≤ L.length ∧ wordE L j = wordE L i) (fun j => L.length - j) i ⟨Nat.le_refl _, hi, rfl⟩ ⟨Le.refl _, trivial⟩ ⟨MOle.refl _, MOle.refl _, trivial⟩ ?_
        intro j ⟨hj1, hj2, hj3⟩ IHj
        refine Run.go ?_; (conv => whnf); repeat' (first | ((with_reducible refine Know.mk fun _ => ?_); conv => whnf) | ((with_reducible refine Need.mk ?_ ?_); (first | omega | (dsimp only; omega) | decide | exact bytes_le (by rfl) (by omega) | exact ⟨rfl, by omega, bytes_le (by rfl) (by omega), by omega⟩ | (refine ⟨?_, ?_⟩ <;> (rw [wrap64 (by omega) (by omega)]; omega))); conv => whnf) | ((with_reducible refine Both.mk ?_ ?_) <;> conv => whnf) | ((with_reducible refine Any.mk fun b hb => ?_); conv => whnf) | ((with_reducible refine AskB.dec (fun hb => ?_) (fun hb => ?_)) <;> conv => whnf) | ((with_reducible refine AskB.ndec (fun hb => ?_) (fun hb => ?_)) <;> conv => whnf) | ((with_reducible refine AskB.mk (fun hb => ?_) (fun hb => ?_)) <;> conv => whnf) | ((with_reducible refine Run.drawX rfl (by decide +kernel) ?_); conv => whnf) | ((with_reducible refine Run.drawT rfl (by decide +kernel) ?_); conv => whnf) | ((with_reducible refine Run.drawW rfl (by decide +kernel) ?_); conv => whnf) | fail)
        -- for wordy
        refine Run.loop [0, 1, 5, 6, 9, 11, 12] (fun (j : Nat) => [(10, .int .i64 (j : Int))]) (fun j => [(20, tI.R 3 (kindsE L)), (1000, tTok.R 60 l)])
          (fun j' => j ≤ j' ∧ j' ≤ L.length ∧ wordE L j' = wordE L i) (fun j => L.length - j) j ⟨Nat.le_refl _, hj2, hj3⟩ ⟨Le.refl _, trivial⟩ ⟨MOle.refl _, MOle.refl _, trivial⟩ ?_
        intro j' ⟨hk1, hk2, hk3⟩ IHk
        have hw4 := hw2 j' hk2
        have hj4 : (kindsE L).getD (↑j' : Int).toNat tI.z = 4 → j' < L.length := fun h => knd_lt (by rw [← hat j' hk2, h]; decide)
        have hat1 : j' < L.length → (kindsE L).getD (IntKind.i64.wrap (↑j' + 1)).toNat tI.z = knd L (j' + 1) := fun h => by rw [hw4]; exact hat (j' + 1) (by omega)
        refine Run.go ?_; (conv => whnf); repeat' (first | ((with_reducible refine Know.mk fun _ => ?_); conv => whnf) | ((with_reducible refine Need.mk ?_ ?_); (first | omega | (dsimp only; omega) | decide | exact bytes_le (by rfl) (by omega) | exact ⟨rfl, by omega, bytes_le (by rfl) (by omega), by omega⟩ | (refine ⟨?_, ?_⟩ <;> (rw [wrap64 (by omega) (by omega)]; omega))); conv => whnf) | ((with_reducible refine Both.mk ?_ ?_) <;> conv => whnf) | ((with_reducible refine Any.mk fun b hb => ?_); conv => whnf) | ((with_reducible refine AskB.dec (fun hb => ?_) (fun hb => ?_)) <;> conv => whnf) | ((with_reducible refine AskB.ndec (fun hb => ?_) (fun hb => ?_)) <;> conv => whnf) | ((with_reducible refine AskB.mk (fun hb => ?_) (fun hb => ?_)) <;> conv => whnf) | ((with_reducible refine Run.drawX rfl (by decide +kernel) ?_); conv => whnf) | ((with_reducible refine Run.drawT rfl (by decide +kernel) ?_); conv => whnf) | ((with_reducible refine Run.drawW rfl (by decide +kernel) ?_); conv => whnf) | fail)
        refine Run.callBX (wordy_fn (knd L j')) rfl rfl ⟨Le.int (hat j' hk2), trivial⟩ rfl rfl rfl ?_
        (conv => whnf); repeat' (first | ((with_reducible refine Know.mk fun _ => ?_); conv => whnf) | ((with_reducible refine Need.mk ?_ ?_); (first | omega | (dsimp only; omega) | decide | exact bytes_le (by rfl) (by omega) | exact ⟨rfl, by omega, bytes_le (by rfl) (by omega), by omega⟩ | (refine ⟨?_, ?_⟩ <;> (rw [wrap64 (by omega) (by omega)]; omega))); conv => whnf) | ((with_reducible refine Both.mk ?_ ?_) <;> conv => whnf) | ((with_reducible refine Any.mk fun b hb => ?_); conv => whnf) | ((with_reducible refine AskB.dec (fun hb => ?_) (fun hb => ?_)) <;> conv => whnf) | ((with_reducible refine AskB.ndec (fun hb => ?_) (fun hb => ?_)) <;> conv => whnf) | ((with_reducible refine AskB.mk (fun hb => ?_) (fun hb => ?_)) <;> conv => whnf) | ((with_reducible refine Run.drawX rfl (by decide +kernel) ?_); conv => whnf) | ((with_reducible refine Run.drawT rfl (by decide +kernel) ?_); conv => whnf) | ((with_reducible refine Run.drawW rfl (by decide +kernel) ?_); conv => whnf) | fail)
        · have hwj : wy L j' := hb
          have hlt := wy_lt hwj
          refine Run.to _ _ ?_ ?_ (IHk (j' + 1) (by omega) ⟨by omega, by omega, ?_⟩)
          · exact ⟨Le.refl _, Le.refl _, Le.refl _, Le.refl _, Le.refl _, Le.refl _, Le.refl _, Le.int hw4, trivial⟩
          · exact ⟨MOle.refl _, MOle.refl _, trivial⟩
          · rw [← hk3]; rw [wordE.eq_def L j', dif_pos hlt, if_pos hwj]
        · -- a joiner
          have hlt := hj4 (by assumption)
          have hk4 : knd L j' = 4 := by rw [← hat j' hk2]; assumption
          have hnw : ¬ wy L j' := by
            have : wordy (knd L j') = false := by assumption
            exact fun h => absurd (this.symm.trans h) (by decide)
          refine Run.callBX (wordy_fn (knd L (j' + 1))) rfl rfl ⟨Le.int (hat1 hlt), trivial⟩ rfl rfl rfl ?_
          (conv => whnf); repeat' (first | ((with_reducible refine Know.mk fun _ => ?_); conv => whnf) | ((with_reducible refine Need.mk ?_ ?_); (first | omega | (dsimp only; omega) | decide | exact bytes_le (by rfl) (by omega) | exact ⟨rfl, by omega, bytes_le (by rfl) (by omega), by omega⟩ | (refine ⟨?_, ?_⟩ <;> (rw [wrap64 (by omega) (by omega)]; omega))); conv => whnf) | ((with_reducible refine Both.mk ?_ ?_) <;> conv => whnf) | ((with_reducible refine Any.mk fun b hb => ?_); conv => whnf) | ((with_reducible refine AskB.dec (fun hb => ?_) (fun hb => ?_)) <;> conv => whnf) | ((with_reducible refine AskB.ndec (fun hb => ?_) (fun hb => ?_)) <;> conv => whnf) | ((with_reducible refine AskB.mk (fun hb => ?_) (fun hb => ?_)) <;> conv => whnf) | ((with_reducible refine Run.drawX rfl (by decide +kernel) ?_); conv => whnf) | ((with_reducible refine Run.drawT rfl (by decide +kernel) ?_); conv => whnf) | ((with_reducible refine Run.drawW rfl (by decide +kernel) ?_); conv => whnf) | fail)
          · have hw5 : wy L (j' + 1) := hb
            refine Run.to _ _ ?_ ?_ (IHj (j' + 1) (by omega) ⟨by omega, by omega, ?_⟩)
            · exact ⟨Le.refl _, Le.refl _, Le.refl _, Le.refl _, Le.refl _, Le.refl _, Le.refl _, Le.int hw4, trivial⟩
            · exact ⟨MOle.refl _, MOle.refl _, trivial⟩
            · rw [← hk3, wordE.eq_def L j', dif_pos hlt, if_neg hnw, if_pos ⟨hk4, hw5⟩, wordE.eq_def L (j' + 1), dif_pos (wy_lt hw5), if_pos hw5]
          · refine Run.skipSeq (Run.to _ _ ?_ ?_ (put (j') 1 ?_))
            · exact ⟨Le.refl _, Le.refl _, Le.refl _, Le.refl _, Le.refl _, Le.refl _, Le.refl _, Le.refl _, trivial⟩
            · exact ⟨MOle.refl _, MOle.refl _, trivial⟩
            · have hw5 : ¬ wy L (j' + 1) := fun h => absurd (hb.symm.trans h) (by decide)
              unfold tokE
              rw [if_pos hwy, ← hk3, wordE.eq_def L j', dif_pos hlt, if_neg hnw, if_neg (fun h => hw5 h.2)]
        · refine Run.skipSeq (Run.to _ _ ?_ ?_ (put (j') 1 ?_))
          · exact ⟨Le.refl _, Le.refl _, Le.refl _, Le.refl _, Le.refl _, Le.refl _, Le.refl _, Le.refl _, trivial⟩
          · exact ⟨MOle.refl _, MOle.refl _, trivial⟩
          · have hnw : ¬ wy L j' := by
              have : wordy (knd L j') = false := by assumption
              exact fun h => absurd (this.symm.trans h) (by decide)
            have hk4 : ¬ knd L j' = 4 := by rw [← hat j' hk2]; assumption
            unfold tokE
            rw [if_pos hwy, ← hk3, wordE.eq_def L j']
            by_cases hlt : j' < L.length
            · rw [dif_pos hlt, if_neg hnw, if_neg (fun h => hk4 h.1)]
            · rw [dif_neg hlt]
      -- blank
      · have hkb : knd L i = 5 := by rw [← hat i hi]; exact hb
        have hnw : ¬ wy L i := nwy (by assumption)
        refine Run.go ?_; (conv => whnf); repeat' (first | ((with_reducible refine Know.mk fun _ => ?_); conv => whnf) | ((with_reducible refine Need.mk ?_ ?_); (first | omega | (dsimp only; omega) | decide | exact bytes_le (by rfl) (by omega) | exact ⟨rfl, by omega, bytes_le (by rfl) (by omega), by omega⟩ | (refine ⟨?_, ?_⟩ <;> (rw [wrap64 (by omega) (by omega)]; omega))); conv => whnf) | ((with_reducible refine Both.mk ?_ ?_) <;> conv => whnf) | ((with_reducible refine Any.mk fun b hb => ?_); conv => whnf) | ((with_reducible refine AskB.dec (fun hb => ?_) (fun hb => ?_)) <;> conv => whnf) | ((with_reducible refine AskB.ndec (fun hb => ?_) (fun hb => ?_)) <;> conv => whnf) | ((with_reducible refine AskB.mk (fun hb => ?_) (fun hb => ?_)) <;> conv => whnf) | ((with_reducible refine Run.drawX rfl (by decide +kernel) ?_); conv => whnf) | ((with_reducible refine Run.drawT rfl (by decide +kernel) ?_); conv => whnf) | ((with_reducible refine Run.drawW rfl (by decide +kernel) ?_); conv => whnf) | fail)
        refine Run.loop [0, 1, 5, 6, 9, 11, 12] (fun (j : Nat) => [(10, .int .i64 (j : Int))]) (fun j => [(20, tI.R 3 (kindsE L)), (1000, tTok.R 60 l)])
          (fun j => i ≤ j ∧ j ≤ L.length ∧ blankE L j = blankE L i) (fun j => L.length - j) i ⟨Nat.le_refl _, hi, rfl⟩ ⟨Le.refl _, trivial⟩ ⟨MOle.refl _, MOle.refl _, trivial⟩ ?_
        intro j ⟨hj1, hj2, hj3⟩ IHj
        have hw4 := hw2 j hj2
        have hj5 : (kindsE L).getD (↑j : Int).toNat tI.z = 5 → j < L.length := fun h => knd_lt (by rw [← hat j hj2, h]; decide)
        refine Run.go ?_; (conv => whnf); repeat' (first | ((with_reducible refine Know.mk fun _ => ?_); conv => whnf) | ((with_reducible refine Need.mk ?_ ?_); (first | omega | (dsimp only; omega) | decide | exact bytes_le (by rfl) (by omega) | exact ⟨rfl, by omega, bytes_le (by rfl) (by omega), by omega⟩ | (refine ⟨?_, ?_⟩ <;> (rw [wrap64 (by omega) (by omega)]; omega))); conv => whnf) | ((with_reducible refine Both.mk ?_ ?_) <;> conv => whnf) | ((with_reducible refine Any.mk fun b hb => ?_); conv => whnf) | ((with_reducible refine AskB.dec (fun hb => ?_) (fun hb => ?_)) <;> conv => whnf) | ((with_reducible refine AskB.ndec (fun hb => ?_) (fun hb => ?_)) <;> conv => whnf) | ((with_reducible refine AskB.mk (fun hb => ?_) (fun hb => ?_)) <;> conv => whnf) | ((with_reducible refine Run.drawX rfl (by decide +kernel) ?_); conv => whnf) | ((with_reducible refine Run.drawT rfl (by decide +kernel) ?_); conv => whnf) | ((with_reducible refine Run.drawW rfl (by decide +kernel) ?_); conv => whnf) | fail)
        · have hlt := hj5 hb
          refine Run.to _ _ ?_ ?_ (IHj (j + 1) (by omega) ⟨by omega, by omega, ?_⟩)
          · exact ⟨Le.refl _, Le.refl _, Le.refl _, Le.refl _, Le.refl _, Le.refl _, Le.refl _, Le.int hw4, trivial⟩
          · exact ⟨MOle.refl _, MOle.refl _, trivial⟩
          · rw [← hj3, blankE.eq_def L j, dif_pos hlt, if_pos (by rw [← hat j hj2]; exact hb)]
        · refine Run.to _ _ ?_ ?_ (put j 2 ?_)
          · exact ⟨Le.refl _, Le.refl _, Le.refl _, Le.refl _, Le.refl _, Le.refl _, Le.refl _, Le.refl _, trivial⟩
          · exact ⟨MOle.refl _, MOle.refl _, trivial⟩
          · have hk5 : ¬ knd L j = 5 := by rw [← hat j hj2]; exact hb
            unfold tokE
            rw [if_neg hnw, if_pos hkb, ← hj3, blankE.eq_def L j]
            by_cases hlt : j < L.length
            · rw [dif_pos hlt, if_neg hk5]
            · rw [dif_neg hlt]
      all_goals have hnw : ¬ wy L i := nwy (by assumption)
      all_goals have hk5 : ¬ knd L i = 5 := by rw [← hat i hi]; assumption
      all_goals (try rw [hw3] at *)
      · have hk6 : knd L i = 6 := by rw [← hat i hi]; assumption
        have hlt : i + 1 < L.length := by omega
        refine Run.skipSeq (Run.to _ _ ?_ ?_ (put (i + 2) 3 ?_))
        · exact ⟨Le.refl _, Le.refl _, Le.refl _, Le.refl _, Le.refl _, Le.int (hw2 (i + 1) (by omega)), Le.refl _, Le.refl _, trivial⟩
        · exact ⟨MOle.refl _, MOle.refl _, trivial⟩
        · unfold tokE
          rw [if_neg hnw, if_neg hk5, if_pos hk6, if_pos ⟨by assumption, hlt, hb⟩]
      · refine Run.skipSeq (Run.to _ _ ?_ ?_ (put (i + 1) 3 ?_))
        · exact ⟨Le.refl _, Le.refl _, Le.refl _, Le.refl _, Le.refl _, Le.refl _, Le.refl _, Le.refl _, trivial⟩
        · exact ⟨MOle.refl _, MOle.refl _, trivial⟩
        · unfold tokE
          have hk6 : knd L i = 6 := by rw [← hat i hi]; assumption
          rw [if_neg hnw, if_neg hk5, if_pos hk6, if_neg (fun h => absurd h.2.2 hb)]
      · refine Run.skipSeq (Run.to _ _ ?_ ?_ (put (i + 1) 3 ?_))
        · exact ⟨Le.refl _, Le.refl _, Le.refl _, Le.refl _, Le.refl _, Le.refl _, Le.refl _, Le.refl _, trivial⟩
        · exact ⟨MOle.refl _, MOle.refl _, trivial⟩
        · unfold tokE
          have hk6 : knd L i = 6 := by rw [← hat i hi]; assumption
          rw [if_neg hnw, if_neg hk5, if_pos hk6, if_neg (fun h => absurd h.2.1 (by omega))]
      · refine Run.skipSeq (Run.to _ _ ?_ ?_ (put (i + 1) 3 ?_))
        · exact ⟨Le.refl _, Le.refl _, Le.refl _, Le.refl _, Le.refl _, Le.refl _, Le.refl _, Le.refl _, trivial⟩
        · exact ⟨MOle.refl _, MOle.refl _, trivial⟩
        · unfold tokE
          have hk6 : knd L i = 6 := by rw [← hat i hi]; assumption
          rw [if_neg hnw, if_neg hk5, if_pos hk6, if_neg (fun h => absurd h.1 hb)]
      · refine Run.skipSeq (Run.to _ _ ?_ ?_ (put (i + 1) 4 ?_))
        · exact ⟨Le.refl _, Le.refl _, Le.refl _, Le.refl _, Le.refl _, Le.refl _, Le.refl _, Le.refl _, trivial⟩
        · exact ⟨MOle.refl _, MOle.refl _, trivial⟩
        · unfold tokE
          have hk6 : ¬ knd L i = 6 := by rw [← hat i hi]; assumption
          have hk7 : knd L i = 7 := by rw [← hat i hi]; assumption
          rw [if_neg hnw, if_neg hk5, if_neg hk6, if_pos (.inl hk7)]
      · refine Run.skipSeq (Run.to _ _ ?_ ?_ (put (i + 1) 4 ?_))
        · exact ⟨Le.refl _, Le.refl _, Le.refl _, Le.refl _, Le.refl _, Le.refl _, Le.refl _, Le.refl _, trivial⟩
        · exact ⟨MOle.refl _, MOle.refl _, trivial⟩
        · unfold tokE
          have hk6 : ¬ knd L i = 6 := by rw [← hat i hi]; assumption
          have hk4 : knd L i = 4 := by rw [← hat i hi]; assumption
          rw [if_neg hnw, if_neg hk5, if_neg hk6, if_pos (.inr hk4)]
      · refine Run.skipSeq (Run.to _ _ ?_ ?_ (put (i + 1) 5 ?_))
        · exact ⟨Le.refl _, Le.refl _, Le.refl _, Le.refl _, Le.refl _, Le.refl _, Le.refl _, Le.refl _, trivial⟩
        · exact ⟨MOle.refl _, MOle.refl _, trivial⟩
        · unfold tokE
          have hk6 : ¬ knd L i = 6 := by rw [← hat i hi]; assumption
          have hk7 : ¬ knd L i = 7 := by rw [← hat i hi]; assumption
          have hk4 : ¬ knd L i = 4 := by rw [← hat i hi]; assumption
          rw [if_neg hnw, if_neg hk5, if_neg hk6, if_neg (fun h => h.elim hk7 hk4)]
    case g =>
      intro n k hk
      have hge := tokE_gt L i hil
      rw [hk] at hge
      simp only at hge
      have p1 := posAt_mono s i n (by omega)
      have p2 := posAt_le s n
      have p3 := toks_in (s := s) (base := base) hil
      rw [hk] at p3
      rw [hL] at p1 p2
      unfold posAt at p1 p2 p3
      rw [if_pos hil] at p1 p3
      simp only at p3
      have pz : IntKind.i64.wrap (base + ((L.getD (↑i : Int).toNat tCel.z).pos : Int)) = base + ((L.getD i cel0).pos : Int) := wrap64 (by show -9223372036854775808 ≤ base + ((L.getD i cel0).pos : Int); omega) (by show base + ((L.getD i cel0).pos : Int) ≤ _; omega)
      have back : ∀ (t : Tok) (q : Nat), t = ⟨k, base + ((L.getD i cel0).pos : Int), s.extract (L.getD i cel0).pos q⟩ → q = (if n < L.length then (L.getD n cel0).pos else s.size) → (l ++ [t]).length ≤ n ∧ (l ++ [t]) ++ toks s base L n = toks s base L 0 := fun t q h1 h2 => by
        refine ⟨by simp; omega, ?_⟩
        rw [← hc, p3, h1, h2]; simp
      by_cases hn : n < L.length
      · rw [if_pos hn] at p1 p2
        have q1 : (L.getD (↑i : Int).toNat tCel.z).pos ≤ (L.getD (↑n : Int).toNat tCel.z).pos := p1
        have q2 : (L.getD (↑n : Int).toNat tCel.z).pos ≤ s.size := p2
        refine Run.go ?_; (conv => whnf); repeat' (first | ((with_reducible refine Know.mk fun _ => ?_); conv => whnf) | ((with_reducible refine Need.mk ?_ ?_); (first | omega | (dsimp only; omega) | decide | exact bytes_le (by rfl) (by omega) | exact ⟨rfl, by omega, bytes_le (by rfl) (by omega), by omega⟩ | (refine ⟨?_, ?_⟩ <;> (rw [wrap64 (by omega) (by omega)]; omega))); conv => whnf) | ((with_reducible refine Both.mk ?_ ?_) <;> conv => whnf) | ((with_reducible refine Any.mk fun b hb => ?_); conv => whnf) | ((with_reducible refine AskB.dec (fun hb => ?_) (fun hb => ?_)) <;> conv => whnf) | ((with_reducible refine AskB.ndec (fun hb => ?_) (fun hb => ?_)) <;> conv => whnf) | ((with_reducible refine AskB.mk (fun hb => ?_) (fun hb => ?_)) <;> conv => whnf) | ((with_reducible refine Run.drawX rfl (by decide +kernel) ?_); conv => whnf) | ((with_reducible refine Run.drawT rfl (by decide +kernel) ?_); conv => whnf) | ((with_reducible refine Run.drawW rfl (by decide +kernel) ?_); conv => whnf) | fail)
        · refine Run.hold (z := 155) 9 1000 (by rfl) (by rfl) (by rfl) ?_
          obtain ⟨b1, b2⟩ := back _ (L.getD n cel0).pos rfl (by rw [if_pos hn])
          refine Run.skipSeq (Run.to _ _ ?_ ?_ (IH (n, l ++ [⟨k, base + ((L.getD i cel0).pos : Int), s.extract (L.getD i cel0).pos (L.getD n cel0).pos⟩]) (by simp only []; omega) ⟨hge.2, b1, b2⟩))
          · exact ⟨Le.refl _, Le.refl _, Le.refl _, Le.refl _, Le.refl _, Le.refl _, trivial⟩
          · refine ⟨MOle.refl _, tTok.push 60 l ⟨k, base + ((L.getD i cel0).pos : Int), s.extract (L.getD i cel0).pos (L.getD n cel0).pos⟩ _ (fun j hj => ?_), trivial⟩
            match j, hj with
            | 0, _ => exact Le.refl _
            | 1, _ => exact Le.int pz
            | 2, _ => exact Le.refl _
        · exact absurd hn (by omega)
      · rw [if_neg hn] at p1 p2
        have q1 : (L.getD (↑i : Int).toNat tCel.z).pos ≤ s.size := p1
        refine Run.go ?_; (conv => whnf); repeat' (first | ((with_reducible refine Know.mk fun _ => ?_); conv => whnf) | ((with_reducible refine Need.mk ?_ ?_); (first | omega | (dsimp only; omega) | decide | exact bytes_le (by rfl) (by omega) | exact ⟨rfl, by omega, bytes_le (by rfl) (by omega), by omega⟩ | (refine ⟨?_, ?_⟩ <;> (rw [wrap64 (by omega) (by omega)]; omega))); conv => whnf) | ((with_reducible refine Both.mk ?_ ?_) <;> conv => whnf) | ((with_reducible refine Any.mk fun b hb => ?_); conv => whnf) | ((with_reducible refine AskB.dec (fun hb => ?_) (fun hb => ?_)) <;> conv => whnf) | ((with_reducible refine AskB.ndec (fun hb => ?_) (fun hb => ?_)) <;> conv => whnf) | ((with_reducible refine AskB.mk (fun hb => ?_) (fun hb => ?_)) <;> conv => whnf) | ((with_reducible refine Run.drawX rfl (by decide +kernel) ?_); conv => whnf) | ((with_reducible refine Run.drawT rfl (by decide +kernel) ?_); conv => whnf) | ((with_reducible refine Run.drawW rfl (by decide +kernel) ?_); conv => whnf) | fail)
        · exact absurd hn (by omega)
        · refine Run.hold (z := 155) 9 1000 (by rfl) (by rfl) (by rfl) ?_
          obtain ⟨b1, b2⟩ := back _ s.size rfl (by rw [if_neg hn])
          refine Run.skipSeq (Run.to _ _ ?_ ?_ (IH (n, l ++ [⟨k, base + ((L.getD i cel0).pos : Int), s.extract (L.getD i cel0).pos s.size⟩]) (by simp only []; omega) ⟨hge.2, b1, b2⟩))
          · exact ⟨Le.refl _, Le.refl _, Le.refl _, Le.refl _, Le.refl _, Le.refl _, trivial⟩
          · refine ⟨MOle.refl _, tTok.push 60 l ⟨k, base + ((L.getD i cel0).pos : Int), s.extract (L.getD i cel0).pos s.size⟩ _ (fun j hj => ?_), trivial⟩
            match j, hj with
            | 0, _ => exact Le.refl _
            | 1, _ => exact Le.int pz
            | 2, _ => exact Le.refl _
  · have hie : i = L.length := by omega
    subst hie
    refine Run.go ?_; (conv => whnf); repeat' (first | ((with_reducible refine Know.mk fun _ => ?_); conv => whnf) | ((with_reducible refine Need.mk ?_ ?_); (first | omega | (dsimp only; omega) | decide | exact bytes_le (by rfl) (by omega) | exact ⟨rfl, by omega, bytes_le (by rfl) (by omega), by omega⟩ | (refine ⟨?_, ?_⟩ <;> (rw [wrap64 (by omega) (by omega)]; omega))); conv => whnf) | ((with_reducible refine Both.mk ?_ ?_) <;> conv => whnf) | ((with_reducible refine Any.mk fun b hb => ?_); conv => whnf) | ((with_reducible refine AskB.dec (fun hb => ?_) (fun hb => ?_)) <;> conv => whnf) | ((with_reducible refine AskB.ndec (fun hb => ?_) (fun hb => ?_)) <;> conv => whnf) | ((with_reducible refine AskB.mk (fun hb => ?_) (fun hb => ?_)) <;> conv => whnf) | ((with_reducible refine Run.drawX rfl (by decide +kernel) ?_); conv => whnf) | ((with_reducible refine Run.drawT rfl (by decide +kernel) ?_); conv => whnf) | ((with_reducible refine Run.drawW rfl (by decide +kernel) ?_); conv => whnf) | fail)
    · rw [toks_out (Nat.lt_irrefl _), List.append_nil] at hc
      rw [← hc]
      exact Run.leave (ts := [4]) (.inr ⟨_, rfl⟩) rfl Tryd.func48 rfl (Le.refl _)
    · exact absurd rfl hb
end Go.Proofs.YtfodjmemdkibpaaDoor.V
