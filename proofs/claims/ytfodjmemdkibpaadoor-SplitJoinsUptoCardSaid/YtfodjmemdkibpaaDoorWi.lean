/-
The tokens, the program's and the document's
-/
import Derived.Test.YtfodjmemdkibpaaDoorWh
namespace Go.Proofs.YtfodjmemdkibpaaDoor.V
open Go Go.Proofs Go.RowKit
set_option linter.unusedVariables false
set_option linter.unusedSimpArgs false
set_option maxRecDepth 100000
set_option maxHeartbeats 2000000
open Go Go.Proofs Go.Proofs.YtfodjmemdkibpaaDoor.V
noncomputable def toksOf (s : ByteArray) : List Tok := if 65536 < s.size then [] else toks s 0 (cells s 0) 0
def codeT (s : ByteArray) : Int := if 65536 < s.size then 1 else 0
theorem tokens32_fn (s : ByteArray) : Fn Tryd.prog 32 [.str s] (tupL [tTok.L (toksOf s), .int .i64 (codeT s)]) := by
  refine Fn.of Tryd.f32 _ Tryd.func32 rfl (by decide) (by show 1 ≤ _; decide) tbOk 56 rfl fun S w0 gl => ?_
  refine Run.go ?_; (conv => whnf); repeat' (first | ((with_reducible refine Know.mk fun _ => ?_); conv => whnf) | ((with_reducible refine Need.mk ?_ ?_); (first | omega | (dsimp only; omega) | decide | exact bytes_le (by rfl) (by omega) | exact ⟨rfl, by omega, bytes_le (by rfl) (by omega), by omega⟩ | (refine ⟨?_, ?_⟩ <;> (rw [wrap64 (by omega) (by omega)]; omega))); conv => whnf) | ((with_reducible refine Both.mk ?_ ?_) <;> conv => whnf) | ((with_reducible refine Any.mk fun b hb => ?_); conv => whnf) | ((with_reducible refine AskB.dec (fun hb => ?_) (fun hb => ?_)) <;> conv => whnf) | ((with_reducible refine AskB.ndec (fun hb => ?_) (fun hb => ?_)) <;> conv => whnf) | ((with_reducible refine AskB.mk (fun hb => ?_) (fun hb => ?_)) <;> conv => whnf) | ((with_reducible refine Run.drawX rfl (by decide +kernel) ?_); conv => whnf) | ((with_reducible refine Run.drawT rfl (by decide +kernel) ?_); conv => whnf) | ((with_reducible refine Run.drawW rfl (by decide +kernel) ?_); conv => whnf) | fail)
  · refine Run.leave (ts := [2,3]) (.inr ⟨_, rfl⟩) rfl Tryd.func32 rfl (resT ⟨?_, Le.int ?_, trivial⟩)
    · unfold toksOf; rw [if_pos (by omega)]; exact Le.nils _ _
    · unfold codeT; rw [if_pos (by omega)]
  have hs : s.size ≤ 65536 := by omega
  have he : toksOf s = toks s 0 (cells s 0) 0 := by unfold toksOf; rw [if_neg (by omega)]
  have hc0 : codeT s = 0 := by unfold codeT; rw [if_neg (by omega)]
  rw [he, hc0]
  refine Run.callBX (cells36_fn s (by omega)) rfl rfl ⟨Le.refl _, trivial⟩ rfl rfl rfl ?_
  have hlen := cells_len s 0
  have hpm := posAt_mono s
  have hpl := posAt_le s
  generalize hL : cells s 0 = L at *
  (conv => whnf); repeat' (first | ((with_reducible refine Know.mk fun _ => ?_); conv => whnf) | ((with_reducible refine Need.mk ?_ ?_); (first | omega | (dsimp only; omega) | decide | exact bytes_le (by rfl) (by omega) | exact ⟨rfl, by omega, bytes_le (by rfl) (by omega), by omega⟩ | (refine ⟨?_, ?_⟩ <;> (rw [wrap64 (by omega) (by omega)]; omega))); conv => whnf) | ((with_reducible refine Both.mk ?_ ?_) <;> conv => whnf) | ((with_reducible refine Any.mk fun b hb => ?_); conv => whnf) | ((with_reducible refine AskB.dec (fun hb => ?_) (fun hb => ?_)) <;> conv => whnf) | ((with_reducible refine AskB.ndec (fun hb => ?_) (fun hb => ?_)) <;> conv => whnf) | ((with_reducible refine AskB.mk (fun hb => ?_) (fun hb => ?_)) <;> conv => whnf) | ((with_reducible refine Run.drawX rfl (by decide +kernel) ?_); conv => whnf) | ((with_reducible refine Run.drawT rfl (by decide +kernel) ?_); conv => whnf) | ((with_reducible refine Run.drawW rfl (by decide +kernel) ?_); conv => whnf) | fail)
  refine Run.holdNil 5 1000 60 3 (fun _ _ => .u) (by rfl) ?_
  refine Run.loop [0, 4] (fun (a : Nat × List Tok) => [(5, .row 1000), (6, .int .i64 (a.1 : Int))]) (fun a => [(1000, tTok.R 60 a.2)])
    (fun a => a.1 ≤ L.length ∧ a.2.length ≤ a.1 ∧ a.2 ++ toks s 0 L a.1 = toks s 0 L 0) (fun a => L.length - a.1) (0, []) ⟨Nat.zero_le _, Nat.zero_le _, rfl⟩ ⟨Le.refl _, Le.refl _, trivial⟩ ⟨⟨rfl, rfl, rfl, fun i j hi => absurd hi (Nat.not_lt_zero _)⟩, trivial⟩ ?_
  intro ⟨i, l⟩ ⟨hi, hl, hc⟩ IH
  simp only at hi hl hc
  show Run _ _ (lst (_ ++ [(5, .row 1000), (6, .int .i64 (i : Int))])) (lstH [(1000, tTok.R 60 l)])
  have hge := tokE_gt L i
  have p3 := fun h => toks_in (s := s) (base := 0) (L := L) (i := i) h
  generalize hk : tokE L i = kn at *
  obtain ⟨k, n⟩ := kn
  simp only at hge p3
  have p1 := hpm i n
  have p2 := hpl n
  refine Run.go ?_; (conv => whnf); repeat' (first | ((with_reducible refine Know.mk fun _ => ?_); conv => whnf) | ((with_reducible refine Need.mk ?_ ?_); (first | omega | (dsimp only; omega) | decide | exact bytes_le (by rfl) (by omega) | exact ⟨rfl, by omega, bytes_le (by rfl) (by omega), by omega⟩ | (refine ⟨?_, ?_⟩ <;> (rw [wrap64 (by omega) (by omega)]; omega))); conv => whnf) | ((with_reducible refine Both.mk ?_ ?_) <;> conv => whnf) | ((with_reducible refine Any.mk fun b hb => ?_); conv => whnf) | ((with_reducible refine AskB.dec (fun hb => ?_) (fun hb => ?_)) <;> conv => whnf) | ((with_reducible refine AskB.ndec (fun hb => ?_) (fun hb => ?_)) <;> conv => whnf) | ((with_reducible refine AskB.mk (fun hb => ?_) (fun hb => ?_)) <;> conv => whnf) | ((with_reducible refine Run.drawX rfl (by decide +kernel) ?_); conv => whnf) | ((with_reducible refine Run.drawT rfl (by decide +kernel) ?_); conv => whnf) | ((with_reducible refine Run.drawW rfl (by decide +kernel) ?_); conv => whnf) | fail)
  · have hil : i < L.length := by omega
    have hge := hge hil
    have p3 := p3 hil
    have p1 := p1 (by omega)
    unfold posAt at p1 p2 p3
    rw [if_pos hil] at p1 p3
    have back : ∀ (t : Tok) (q : Nat), t = ⟨k, 0 + ((L.getD i cel0).pos : Int), s.extract (L.getD i cel0).pos q⟩ → q = (if n < L.length then (L.getD n cel0).pos else s.size) → (l ++ [t]).length ≤ n ∧ (l ++ [t]) ++ toks s 0 L n = toks s 0 L 0 := fun t q h1 h2 => by
      refine ⟨by simp; omega, ?_⟩
      rw [← hc, p3, h1, h2]; simp
    refine Run.callBX (token49_fn L i hil (by omega)) rfl rfl ⟨Le.refl _, Le.refl _, trivial⟩ rfl rfl rfl ?_
    rw [hk]
    by_cases hn : n < L.length
    · rw [if_pos hn] at p1 p2
      have q1 : (L.getD (↑i : Int).toNat tCel.z).pos ≤ (L.getD (↑n : Int).toNat tCel.z).pos := p1
      have q2 : (L.getD (↑n : Int).toNat tCel.z).pos ≤ s.size := p2
      (conv => whnf); repeat' (first | ((with_reducible refine Know.mk fun _ => ?_); conv => whnf) | ((with_reducible refine Need.mk ?_ ?_); (first | omega | (dsimp only; omega) | decide | exact bytes_le (by rfl) (by omega) | exact ⟨rfl, by omega, bytes_le (by rfl) (by omega), by omega⟩ | (refine ⟨?_, ?_⟩ <;> (rw [wrap64 (by omega) (by omega)]; omega))); conv => whnf) | ((with_reducible refine Both.mk ?_ ?_) <;> conv => whnf) | ((with_reducible refine Any.mk fun b hb => ?_); conv => whnf) | ((with_reducible refine AskB.dec (fun hb => ?_) (fun hb => ?_)) <;> conv => whnf) | ((with_reducible refine AskB.ndec (fun hb => ?_) (fun hb => ?_)) <;> conv => whnf) | ((with_reducible refine AskB.mk (fun hb => ?_) (fun hb => ?_)) <;> conv => whnf) | ((with_reducible refine Run.drawX rfl (by decide +kernel) ?_); conv => whnf) | ((with_reducible refine Run.drawT rfl (by decide +kernel) ?_); conv => whnf) | ((with_reducible refine Run.drawW rfl (by decide +kernel) ?_); conv => whnf) | fail)
      · refine Run.drawL 16 0 36 rfl (by decide) (by decide +kernel) rfl rfl rfl rfl rfl rfl rfl ?_
        (conv => whnf); repeat' (first | ((with_reducible refine Know.mk fun _ => ?_); conv => whnf) | ((with_reducible refine Need.mk ?_ ?_); (first | omega | (dsimp only; omega) | decide | exact bytes_le (by rfl) (by omega) | exact ⟨rfl, by omega, bytes_le (by rfl) (by omega), by omega⟩ | (refine ⟨?_, ?_⟩ <;> (rw [wrap64 (by omega) (by omega)]; omega))); conv => whnf) | ((with_reducible refine Both.mk ?_ ?_) <;> conv => whnf) | ((with_reducible refine Any.mk fun b hb => ?_); conv => whnf) | ((with_reducible refine AskB.dec (fun hb => ?_) (fun hb => ?_)) <;> conv => whnf) | ((with_reducible refine AskB.ndec (fun hb => ?_) (fun hb => ?_)) <;> conv => whnf) | ((with_reducible refine AskB.mk (fun hb => ?_) (fun hb => ?_)) <;> conv => whnf) | ((with_reducible refine Run.drawX rfl (by decide +kernel) ?_); conv => whnf) | ((with_reducible refine Run.drawT rfl (by decide +kernel) ?_); conv => whnf) | ((with_reducible refine Run.drawW rfl (by decide +kernel) ?_); conv => whnf) | fail)
        all_goals refine Run.hold (z := 53) 5 1000 (by rfl) (by rfl) (by rfl) ?_
        all_goals obtain ⟨b1, b2⟩ := back _ (L.getD n cel0).pos rfl (by rw [if_pos hn])
        all_goals refine Run.to _ _ ?_ ?_ (IH (n, l ++ [⟨k, 0 + ((L.getD i cel0).pos : Int), s.extract (L.getD i cel0).pos (L.getD n cel0).pos⟩]) (by simp only []; omega) ⟨hge.2, b1, b2⟩)
        all_goals (try (case refine_1 => exact ⟨Le.refl _, Le.refl _, Le.refl _, Le.refl _, trivial⟩))
        all_goals refine ⟨tTok.push 60 l ⟨k, 0 + ((L.getD i cel0).pos : Int), s.extract (L.getD i cel0).pos (L.getD n cel0).pos⟩ _ (fun j hj => ?_), trivial⟩
        all_goals (match j, hj with
          | 0, _ => exact Le.refl _
          | 1, _ => exact Le.int (by rw [Int.zero_add]; rfl)
          | 2, _ => exact Le.refl _)
      · exact absurd hn (by omega)
    · rw [if_neg hn] at p1 p2
      have q1 : (L.getD (↑i : Int).toNat tCel.z).pos ≤ s.size := p1
      (conv => whnf); repeat' (first | ((with_reducible refine Know.mk fun _ => ?_); conv => whnf) | ((with_reducible refine Need.mk ?_ ?_); (first | omega | (dsimp only; omega) | decide | exact bytes_le (by rfl) (by omega) | exact ⟨rfl, by omega, bytes_le (by rfl) (by omega), by omega⟩ | (refine ⟨?_, ?_⟩ <;> (rw [wrap64 (by omega) (by omega)]; omega))); conv => whnf) | ((with_reducible refine Both.mk ?_ ?_) <;> conv => whnf) | ((with_reducible refine Any.mk fun b hb => ?_); conv => whnf) | ((with_reducible refine AskB.dec (fun hb => ?_) (fun hb => ?_)) <;> conv => whnf) | ((with_reducible refine AskB.ndec (fun hb => ?_) (fun hb => ?_)) <;> conv => whnf) | ((with_reducible refine AskB.mk (fun hb => ?_) (fun hb => ?_)) <;> conv => whnf) | ((with_reducible refine Run.drawX rfl (by decide +kernel) ?_); conv => whnf) | ((with_reducible refine Run.drawT rfl (by decide +kernel) ?_); conv => whnf) | ((with_reducible refine Run.drawW rfl (by decide +kernel) ?_); conv => whnf) | fail)
      · exact absurd hn (by omega)
      · refine Run.drawL 16 0 36 rfl (by decide) (by decide +kernel) rfl rfl rfl rfl rfl rfl rfl ?_
        (conv => whnf); repeat' (first | ((with_reducible refine Know.mk fun _ => ?_); conv => whnf) | ((with_reducible refine Need.mk ?_ ?_); (first | omega | (dsimp only; omega) | decide | exact bytes_le (by rfl) (by omega) | exact ⟨rfl, by omega, bytes_le (by rfl) (by omega), by omega⟩ | (refine ⟨?_, ?_⟩ <;> (rw [wrap64 (by omega) (by omega)]; omega))); conv => whnf) | ((with_reducible refine Both.mk ?_ ?_) <;> conv => whnf) | ((with_reducible refine Any.mk fun b hb => ?_); conv => whnf) | ((with_reducible refine AskB.dec (fun hb => ?_) (fun hb => ?_)) <;> conv => whnf) | ((with_reducible refine AskB.ndec (fun hb => ?_) (fun hb => ?_)) <;> conv => whnf) | ((with_reducible refine AskB.mk (fun hb => ?_) (fun hb => ?_)) <;> conv => whnf) | ((with_reducible refine Run.drawX rfl (by decide +kernel) ?_); conv => whnf) | ((with_reducible refine Run.drawT rfl (by decide +kernel) ?_); conv => whnf) | ((with_reducible refine Run.drawW rfl (by decide +kernel) ?_); conv => whnf) | fail)
        all_goals refine Run.hold (z := 53) 5 1000 (by rfl) (by rfl) (by rfl) ?_
        all_goals obtain ⟨b1, b2⟩ := back _ s.size rfl (by rw [if_neg hn])
        all_goals refine Run.to _ _ ?_ ?_ (IH (n, l ++ [⟨k, 0 + ((L.getD i cel0).pos : Int), s.extract (L.getD i cel0).pos s.size⟩]) (by simp only []; omega) ⟨hge.2, b1, b2⟩)
        all_goals (try (case refine_1 => exact ⟨Le.refl _, Le.refl _, Le.refl _, Le.refl _, trivial⟩))
        all_goals refine ⟨tTok.push 60 l ⟨k, 0 + ((L.getD i cel0).pos : Int), s.extract (L.getD i cel0).pos s.size⟩ _ (fun j hj => ?_), trivial⟩
        all_goals (match j, hj with
          | 0, _ => exact Le.refl _
          | 1, _ => exact Le.int (by rw [Int.zero_add]; rfl)
          | 2, _ => exact Le.refl _)
  · rw [toks_out (by omega), List.append_nil] at hc
    rw [← hc]
    exact Run.leave (ts := [2,3]) (.inr ⟨_, rfl⟩) rfl Tryd.func32 rfl (resT ⟨Le.refl _, Le.refl _, trivial⟩)
theorem tokens31_fn (s : ByteArray) : Fn Tryd.prog 31 [.str s] (tupL [tTok.L (toksOf s), .int .i64 (codeT s)]) := by
  refine Fn.of Tryd.f31 _ Tryd.func31 rfl (by decide) (by show 1 ≤ _; decide) tbOk 9 rfl fun S w0 gl => ?_
  refine Run.go ?_; (conv => whnf); repeat' (first | ((with_reducible refine Know.mk fun _ => ?_); conv => whnf) | ((with_reducible refine Need.mk ?_ ?_); (first | omega | (dsimp only; omega) | decide | exact bytes_le (by rfl) (by omega) | exact ⟨rfl, by omega, bytes_le (by rfl) (by omega), by omega⟩ | (refine ⟨?_, ?_⟩ <;> (rw [wrap64 (by omega) (by omega)]; omega))); conv => whnf) | ((with_reducible refine Both.mk ?_ ?_) <;> conv => whnf) | ((with_reducible refine Any.mk fun b hb => ?_); conv => whnf) | ((with_reducible refine AskB.dec (fun hb => ?_) (fun hb => ?_)) <;> conv => whnf) | ((with_reducible refine AskB.ndec (fun hb => ?_) (fun hb => ?_)) <;> conv => whnf) | ((with_reducible refine AskB.mk (fun hb => ?_) (fun hb => ?_)) <;> conv => whnf) | ((with_reducible refine Run.drawX rfl (by decide +kernel) ?_); conv => whnf) | ((with_reducible refine Run.drawT rfl (by decide +kernel) ?_); conv => whnf) | ((with_reducible refine Run.drawW rfl (by decide +kernel) ?_); conv => whnf) | fail)
  · refine Run.leave (ts := [2,3]) (.inr ⟨_, rfl⟩) rfl Tryd.func31 rfl (resT ⟨?_, Le.int ?_, trivial⟩)
    · unfold toksOf; rw [if_pos (by omega)]; exact Le.nils _ _
    · unfold codeT; rw [if_pos (by omega)]
  refine Run.callBX (tokens_fn s 0 (by omega) (by omega) (by omega)) rfl rfl ⟨Le.refl _, Le.refl _, trivial⟩ rfl rfl rfl ?_
  (conv => whnf); repeat' (first | ((with_reducible refine Know.mk fun _ => ?_); conv => whnf) | ((with_reducible refine Need.mk ?_ ?_); (first | omega | (dsimp only; omega) | decide | exact bytes_le (by rfl) (by omega) | exact ⟨rfl, by omega, bytes_le (by rfl) (by omega), by omega⟩ | (refine ⟨?_, ?_⟩ <;> (rw [wrap64 (by omega) (by omega)]; omega))); conv => whnf) | ((with_reducible refine Both.mk ?_ ?_) <;> conv => whnf) | ((with_reducible refine Any.mk fun b hb => ?_); conv => whnf) | ((with_reducible refine AskB.dec (fun hb => ?_) (fun hb => ?_)) <;> conv => whnf) | ((with_reducible refine AskB.ndec (fun hb => ?_) (fun hb => ?_)) <;> conv => whnf) | ((with_reducible refine AskB.mk (fun hb => ?_) (fun hb => ?_)) <;> conv => whnf) | ((with_reducible refine Run.drawX rfl (by decide +kernel) ?_); conv => whnf) | ((with_reducible refine Run.drawT rfl (by decide +kernel) ?_); conv => whnf) | ((with_reducible refine Run.drawW rfl (by decide +kernel) ?_); conv => whnf) | fail)
  refine Run.leave (ts := [2,3]) (.inr ⟨_, rfl⟩) rfl Tryd.func31 rfl (resT ⟨?_, Le.int ?_, trivial⟩)
  · unfold toksOf; rw [if_neg (by omega)]; exact Le.refl _
  · unfold codeT; rw [if_neg (by omega)]
end Go.Proofs.YtfodjmemdkibpaaDoor.V
