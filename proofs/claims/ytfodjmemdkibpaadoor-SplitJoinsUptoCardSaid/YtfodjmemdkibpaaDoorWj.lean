/-
Words, the document's and the program's
-/
import Derived.Test.YtfodjmemdkibpaaDoorWi
import Derived.Test.YtfodjmemdkibpaaDoorRw
import Derived.Test.YtfodjmemdkibpaaDoorMD
namespace Go.Proofs.YtfodjmemdkibpaaDoor.V
open Go Go.Proofs Go.RowKit
set_option linter.unusedVariables false
set_option linter.unusedSimpArgs false
set_option maxRecDepth 100000
set_option maxHeartbeats 2000000
open Go Go.Proofs Go.Proofs.YtfodjmemdkibpaaDoor.V
/-- What stands ahead, the words, the refusal. -/
noncomputable def wordsOf (s : ByteArray) : (ByteArray × List Wrd) × Int := if 65536 < s.size then ((.empty, []), 1) else if 1024 < (specW (toksOf s)).2.length then ((.empty, []), 1) else (specW (toksOf s), 0)
noncomputable def wordsL (s : ByteArray) : AV := tupL [.str (wordsOf s).1.1, tWrd.L (wordsOf s).1.2, .int .i64 (wordsOf s).2]
theorem wordsOf_long {s : ByteArray} (h : 65536 < s.size) : wordsOf s = ((.empty, []), 1) := by unfold wordsOf; rw [if_pos h]
theorem wordsOf_many {s : ByteArray} (h : ¬ 65536 < s.size) (h2 : 1024 < (specW (toksOf s)).2.length) : wordsOf s = ((.empty, []), 1) := by unfold wordsOf; rw [if_neg h, if_pos h2]
theorem wordsOf_fit {s : ByteArray} (h : ¬ 65536 < s.size) (h2 : ¬ 1024 < (specW (toksOf s)).2.length) : wordsOf s = (specW (toksOf s), 0) := by unfold wordsOf; rw [if_neg h, if_neg h2]
theorem words16_fn (s : ByteArray) : Fn Tryd.prog 16 [.str s] (wordsL s) := by
  refine Fn.of Tryd.f16 _ Tryd.func16 rfl (by decide) (by show 1 ≤ _; decide) tbOk 71 rfl fun S w0 gl => ?_
  refine Run.go ?_; (conv => whnf); repeat' (first | ((with_reducible refine Know.mk fun _ => ?_); conv => whnf) | ((with_reducible refine Need.mk ?_ ?_); (first | omega | (dsimp only; omega) | decide | exact bytes_le (by rfl) (by omega) | exact ⟨rfl, by omega, bytes_le (by rfl) (by omega), by omega⟩ | (refine ⟨?_, ?_⟩ <;> (rw [wrap64 (by omega) (by omega)]; omega))); conv => whnf) | ((with_reducible refine Both.mk ?_ ?_) <;> conv => whnf) | ((with_reducible refine Any.mk fun b hb => ?_); conv => whnf) | ((with_reducible refine AskB.dec (fun hb => ?_) (fun hb => ?_)) <;> conv => whnf) | ((with_reducible refine AskB.ndec (fun hb => ?_) (fun hb => ?_)) <;> conv => whnf) | ((with_reducible refine AskB.mk (fun hb => ?_) (fun hb => ?_)) <;> conv => whnf) | ((with_reducible refine Run.drawX rfl (by decide +kernel) ?_); conv => whnf) | ((with_reducible refine Run.drawT rfl (by decide +kernel) ?_); conv => whnf) | ((with_reducible refine Run.drawW rfl (by decide +kernel) ?_); conv => whnf) | fail)
  refine Run.callBX (tokens32_fn s) rfl rfl ⟨Le.refl _, trivial⟩ rfl rfl rfl ?_
  by_cases hbig : 65536 < s.size
  · have hc : codeT s = 1 := by unfold codeT; rw [if_pos hbig]
    rw [hc]
    (conv => whnf); repeat' (first | ((with_reducible refine Know.mk fun _ => ?_); conv => whnf) | ((with_reducible refine Need.mk ?_ ?_); (first | omega | (dsimp only; omega) | decide | exact bytes_le (by rfl) (by omega) | exact ⟨rfl, by omega, bytes_le (by rfl) (by omega), by omega⟩ | (refine ⟨?_, ?_⟩ <;> (rw [wrap64 (by omega) (by omega)]; omega))); conv => whnf) | ((with_reducible refine Both.mk ?_ ?_) <;> conv => whnf) | ((with_reducible refine Any.mk fun b hb => ?_); conv => whnf) | ((with_reducible refine AskB.dec (fun hb => ?_) (fun hb => ?_)) <;> conv => whnf) | ((with_reducible refine AskB.ndec (fun hb => ?_) (fun hb => ?_)) <;> conv => whnf) | ((with_reducible refine AskB.mk (fun hb => ?_) (fun hb => ?_)) <;> conv => whnf) | ((with_reducible refine Run.drawX rfl (by decide +kernel) ?_); conv => whnf) | ((with_reducible refine Run.drawT rfl (by decide +kernel) ?_); conv => whnf) | ((with_reducible refine Run.drawW rfl (by decide +kernel) ?_); conv => whnf) | fail)
    · exact absurd hb (by decide)
    · rw [show wordsL s = tupL [.str .empty, tWrd.L [], .int .i64 1] by unfold wordsL; rw [wordsOf_long hbig]]
      exact Run.leave (ts := [2,3,4]) (.inr ⟨_, rfl⟩) rfl Tryd.func16 rfl (resT ⟨Le.refl _, Le.nils _ _, Le.refl _, trivial⟩)
  have hc : codeT s = 0 := by unfold codeT; rw [if_neg hbig]
  have hT0 : toksOf s = toks s 0 (cells s 0) 0 := by unfold toksOf; rw [if_neg hbig]
  obtain ⟨hTl, hTs⟩ := toks_small s (cells s 0) 0
  rw [← hT0] at hTl hTs
  have hcl := cells_len s 0
  have hf := wordsOf_fit (s := s) hbig
  have hm := wordsOf_many (s := s) hbig
  rw [hc]
  generalize hT : toksOf s = T at *
  rw [← absorb_spec] at hf hm
  (conv => whnf); repeat' (first | ((with_reducible refine Know.mk fun _ => ?_); conv => whnf) | ((with_reducible refine Need.mk ?_ ?_); (first | omega | (dsimp only; omega) | decide | exact bytes_le (by rfl) (by omega) | exact ⟨rfl, by omega, bytes_le (by rfl) (by omega), by omega⟩ | (refine ⟨?_, ?_⟩ <;> (rw [wrap64 (by omega) (by omega)]; omega))); conv => whnf) | ((with_reducible refine Both.mk ?_ ?_) <;> conv => whnf) | ((with_reducible refine Any.mk fun b hb => ?_); conv => whnf) | ((with_reducible refine AskB.dec (fun hb => ?_) (fun hb => ?_)) <;> conv => whnf) | ((with_reducible refine AskB.ndec (fun hb => ?_) (fun hb => ?_)) <;> conv => whnf) | ((with_reducible refine AskB.mk (fun hb => ?_) (fun hb => ?_)) <;> conv => whnf) | ((with_reducible refine Run.drawX rfl (by decide +kernel) ?_); conv => whnf) | ((with_reducible refine Run.drawT rfl (by decide +kernel) ?_); conv => whnf) | ((with_reducible refine Run.drawW rfl (by decide +kernel) ?_); conv => whnf) | fail)
  · refine Run.holdNil 8 1000 32 2 (fun _ _ => .u) (by rfl) ?_
    refine Run.loop [5] (fun (a : Nat × ByteArray × List Wrd) => [(7, .str a.2.1), (8, .row 1000), (9, .int .i64 (a.1 : Int))]) (fun a => [(1000, tWrd.R 32 a.2.2)])
      (fun a => a.1 ≤ T.length ∧ a.2.2.length ≤ a.1 ∧ a.2.1.size ≤ 65536 * a.1 ∧ (∀ w ∈ a.2.2, w.tail.size ≤ 65536 * a.1) ∧ absorb a.2 (T.drop a.1) = absorb (.empty, []) T) (fun a => T.length - a.1) (0, .empty, []) ⟨Nat.zero_le _, Nat.zero_le _, by simp, by simp, rfl⟩ ⟨Le.refl _, Le.refl _, Le.refl _, trivial⟩ ⟨⟨rfl, rfl, rfl, fun i j hi => absurd hi (Nat.not_lt_zero _)⟩, trivial⟩ ?_
    intro ⟨i, ld, ws⟩ ⟨hi, hw, hld, htl, hab⟩ IH
    simp only at hi hw hld htl hab
    show Run _ _ (lst (_ ++ [(7, .str ld), (8, .row 1000), (9, .int .i64 (i : Int))])) (lstH [(1000, tWrd.R 32 ws)])
    have gm : ∀ {α : Type} (l : List α) (j : Nat) (z : α), j < l.length → l.getD j z ∈ l := fun l j z h => by rw [List.getD, List.getElem?_eq_getElem h]; exact List.getElem_mem h
    have hts : i < T.length → (T.getD (↑i : Int).toNat tTok.z).text.size ≤ s.size := fun h => hTs _ (gm T i _ h)
    have hwl : 0 < ws.length → IntKind.i64.wrap (↑ws.length - 1) = ((ws.length - 1 : Nat) : Int) := fun h => (wrap64 (by omega) (by omega)).trans (by omega)
    have hlast : 0 < ws.length → (ws.getD (IntKind.i64.wrap (↑ws.length - 1)).toNat tWrd.z).tail.size ≤ 65536 * i := fun h => by
      rw [hwl h]
      exact htl _ (gm ws (ws.length - 1) _ (by omega))
    have hdrop : i < T.length → T.drop i = T.getD i tTok.z :: T.drop (i + 1) := fun h => by rw [List.drop_eq_getElem_cons h, List.getD, List.getElem?_eq_getElem h, Option.getD_some]
    have hw1 : IntKind.i64.wrap ((i : Int) + 1) = ((i + 1 : Nat) : Int) := wrap64 (by omega) (by omega)
    refine Run.go ?_; (conv => whnf); repeat' (first | ((with_reducible refine Know.mk fun _ => ?_); conv => whnf) | ((with_reducible refine Need.mk ?_ ?_); (first | omega | (dsimp only; omega) | decide | exact bytes_le (by rfl) (by omega) | exact ⟨rfl, by omega, bytes_le (by rfl) (by omega), by omega⟩ | (refine ⟨?_, ?_⟩ <;> (rw [wrap64 (by omega) (by omega)]; omega))); conv => whnf) | ((with_reducible refine Both.mk ?_ ?_) <;> conv => whnf) | ((with_reducible refine Any.mk fun b hb => ?_); conv => whnf) | ((with_reducible refine AskB.dec (fun hb => ?_) (fun hb => ?_)) <;> conv => whnf) | ((with_reducible refine AskB.ndec (fun hb => ?_) (fun hb => ?_)) <;> conv => whnf) | ((with_reducible refine AskB.mk (fun hb => ?_) (fun hb => ?_)) <;> conv => whnf) | ((with_reducible refine Run.drawX rfl (by decide +kernel) ?_); conv => whnf) | ((with_reducible refine Run.drawT rfl (by decide +kernel) ?_); conv => whnf) | ((with_reducible refine Run.drawW rfl (by decide +kernel) ?_); conv => whnf) | fail)
    · have hil : i < T.length := by omega
      have hk : (T.getD i tTok.z).kind = 1 := by assumption
      refine Run.hold (z := 54) 8 1000 (by rfl) (by rfl) (by rfl) ?_
      refine Run.to _ _ ?_ ?_ (IH (i + 1, ld, ws ++ [⟨(T.getD i tTok.z).text, .empty⟩]) (by simp only []; omega) ⟨by simp only []; omega, by simp; omega, by simp only []; omega, ?_, ?_⟩)
      · exact ⟨Le.refl _, Le.refl _, Le.refl _, Le.int hw1, trivial⟩
      · refine ⟨tWrd.push 32 ws ⟨(T.getD i tTok.z).text, .empty⟩ _ (fun j hj => ?_), trivial⟩
        match j, hj with
        | 0, _ => exact Le.refl _
        | 1, _ => exact Le.refl _
      · intro w hwm
        rcases List.mem_append.mp hwm with h | h
        · have := htl w h; simp only []; omega
        · rw [List.mem_singleton.mp h]; simp
      · rw [← hab, hdrop hil]
        simp only []
        rw [absorb, if_pos hk]
    · have hil : i < T.length := by omega
      have hk : ¬ (T.getD i tTok.z).kind = 1 := by assumption
      have hw0 : ws.length = 0 := by omega
      have ht1 := hts hil
      refine Run.to _ _ ?_ ?_ (IH (i + 1, ld ++ (T.getD i tTok.z).text, ws) (by simp only []; omega) ⟨by simp only []; omega, by simp only []; omega, ?_, ?_, ?_⟩)
      · exact ⟨Le.refl _, Le.refl _, Le.refl _, Le.int hw1, trivial⟩
      · exact ⟨MOle.refl _, trivial⟩
      · simp only [ByteArray.size_append]
        show ld.size + (T.getD (↑i : Int).toNat tTok.z).text.size ≤ _
        omega
      · intro w hwm
        have := htl w hwm; simp only []; omega
      · rw [← hab, hdrop hil]
        simp only []
        rw [absorb, if_neg hk, if_pos hw0]
    · have hil : i < T.length := by omega
      have hk : ¬ (T.getD i tTok.z).kind = 1 := by assumption
      have hw0 : ¬ ws.length = 0 := by omega
      have ht1 := hts hil
      have hw2 := hwl (by omega)
      have hl2 := hlast (by omega)
      refine Run.to _ _ ?_ ?_ (IH (i + 1, ld, ws.set (ws.length - 1) ⟨(ws.getD (ws.length - 1) tWrd.z).text, (ws.getD (ws.length - 1) tWrd.z).tail ++ (T.getD i tTok.z).text⟩) (by simp only []; omega) ⟨by simp only []; omega, by simp only [List.length_set]; omega, by simp only []; omega, ?_, ?_⟩)
      · exact ⟨Le.refl _, Le.refl _, Le.refl _, Le.int hw1, trivial⟩
      · refine ⟨tWrd.setAt 32 ws (ws.length - 1) _ 1 _ ⟨(ws.getD (ws.length - 1) tWrd.z).text, (ws.getD (ws.length - 1) tWrd.z).tail ++ (T.getD i tTok.z).text⟩ (by omega) (by rw [hw2]; rfl) rfl _ (fun j y hy => ?_) (fun j hj ho => ?_), trivial⟩
        · match j, hy with
          | 0, hy =>
            injection hy with hy
            rw [← hy, hw2]; exact Le.refl _
        · match j, hj with
          | 0, _ => exact Le.refl _
          | 1, _ => exact absurd ho (by simp)
      · intro w hwm
        rcases List.mem_or_eq_of_mem_set hwm with h | h
        · have := htl w h; simp only []; omega
        · rw [h]
          simp only [ByteArray.size_append]
          rw [hw2] at hl2
          have hl3 : (ws.getD (ws.length - 1) tWrd.z).tail.size ≤ 65536 * i := hl2
          have ht3 : (T.getD i tTok.z).text.size ≤ s.size := ht1
          omega
      · rw [← hab, hdrop hil]
        simp only []
        rw [absorb, if_neg hk, if_neg hw0]
    all_goals have hie : i = T.length := by omega
    all_goals subst hie
    all_goals rw [List.drop_length] at hab
    all_goals have hab : (ld, ws) = absorb (.empty, []) T := by rw [← hab]; rfl
    all_goals rw [← hab] at hf hm
    · rw [show wordsL s = tupL [.str .empty, tWrd.L [], .int .i64 1] by unfold wordsL; rw [hm (by simp only []; omega)]]
      exact Run.leave (ts := [2,3,4]) (.inr ⟨_, rfl⟩) rfl Tryd.func16 rfl (resT ⟨Le.refl _, Le.nils _ _, Le.refl _, trivial⟩)
    · rw [show wordsL s = tupL [.str ld, tWrd.L ws, .int .i64 0] by unfold wordsL; rw [hf (by simp only []; omega)]]
      exact Run.leave (ts := [2,3,4]) (.inr ⟨_, rfl⟩) rfl Tryd.func16 rfl (resT ⟨Le.refl _, Le.refl _, Le.refl _, trivial⟩)
  · exact absurd rfl hb
theorem words15_fn (s : ByteArray) : Fn Tryd.prog 15 [.str s] (wordsL s) := by
  refine Fn.of Tryd.f15 _ Tryd.func15 rfl (by decide) (by show 1 ≤ _; decide) tbOk 93 rfl fun S w0 gl => ?_
  refine Run.go ?_; (conv => whnf); repeat' (first | ((with_reducible refine Know.mk fun _ => ?_); conv => whnf) | ((with_reducible refine Need.mk ?_ ?_); (first | omega | (dsimp only; omega) | decide | exact bytes_le (by rfl) (by omega) | exact ⟨rfl, by omega, bytes_le (by rfl) (by omega), by omega⟩ | (refine ⟨?_, ?_⟩ <;> (rw [wrap64 (by omega) (by omega)]; omega))); conv => whnf) | ((with_reducible refine Both.mk ?_ ?_) <;> conv => whnf) | ((with_reducible refine Any.mk fun b hb => ?_); conv => whnf) | ((with_reducible refine AskB.dec (fun hb => ?_) (fun hb => ?_)) <;> conv => whnf) | ((with_reducible refine AskB.ndec (fun hb => ?_) (fun hb => ?_)) <;> conv => whnf) | ((with_reducible refine AskB.mk (fun hb => ?_) (fun hb => ?_)) <;> conv => whnf) | ((with_reducible refine Run.drawX rfl (by decide +kernel) ?_); conv => whnf) | ((with_reducible refine Run.drawT rfl (by decide +kernel) ?_); conv => whnf) | ((with_reducible refine Run.drawW rfl (by decide +kernel) ?_); conv => whnf) | fail)
  refine Run.callBX (tokens31_fn s) rfl rfl ⟨Le.refl _, trivial⟩ rfl rfl rfl ?_
  by_cases hbig : 65536 < s.size
  · have hc : codeT s = 1 := by unfold codeT; rw [if_pos hbig]
    rw [hc]
    (conv => whnf); repeat' (first | ((with_reducible refine Know.mk fun _ => ?_); conv => whnf) | ((with_reducible refine Need.mk ?_ ?_); (first | omega | (dsimp only; omega) | decide | exact bytes_le (by rfl) (by omega) | exact ⟨rfl, by omega, bytes_le (by rfl) (by omega), by omega⟩ | (refine ⟨?_, ?_⟩ <;> (rw [wrap64 (by omega) (by omega)]; omega))); conv => whnf) | ((with_reducible refine Both.mk ?_ ?_) <;> conv => whnf) | ((with_reducible refine Any.mk fun b hb => ?_); conv => whnf) | ((with_reducible refine AskB.dec (fun hb => ?_) (fun hb => ?_)) <;> conv => whnf) | ((with_reducible refine AskB.ndec (fun hb => ?_) (fun hb => ?_)) <;> conv => whnf) | ((with_reducible refine AskB.mk (fun hb => ?_) (fun hb => ?_)) <;> conv => whnf) | ((with_reducible refine Run.drawX rfl (by decide +kernel) ?_); conv => whnf) | ((with_reducible refine Run.drawT rfl (by decide +kernel) ?_); conv => whnf) | ((with_reducible refine Run.drawW rfl (by decide +kernel) ?_); conv => whnf) | fail)
    · exact absurd hb (by decide)
    · rw [show wordsL s = tupL [.str .empty, tWrd.L [], .int .i64 1] by unfold wordsL; rw [wordsOf_long hbig]]
      exact Run.leave (ts := [2,3,4]) (.inr ⟨_, rfl⟩) rfl Tryd.func15 rfl (resT ⟨Le.refl _, Le.nils _ _, Le.refl _, trivial⟩)
  have hc : codeT s = 0 := by unfold codeT; rw [if_neg hbig]
  have hT0 : toksOf s = toks s 0 (cells s 0) 0 := by unfold toksOf; rw [if_neg hbig]
  obtain ⟨hTl, hTs⟩ := toks_small s (cells s 0) 0
  have hcg := toks_contig s 0
  rw [← hT0] at hTl hTs hcg
  rw [posAt_zero] at hcg
  have hcl := cells_len s 0
  have hf := wordsOf_fit (s := s) hbig
  have hm := wordsOf_many (s := s) hbig
  rw [hc]
  generalize hT : toksOf s = T at *
  rw [specW_cut hcg] at hf hm
  (conv => whnf); repeat' (first | ((with_reducible refine Know.mk fun _ => ?_); conv => whnf) | ((with_reducible refine Need.mk ?_ ?_); (first | omega | (dsimp only; omega) | decide | exact bytes_le (by rfl) (by omega) | exact ⟨rfl, by omega, bytes_le (by rfl) (by omega), by omega⟩ | (refine ⟨?_, ?_⟩ <;> (rw [wrap64 (by omega) (by omega)]; omega))); conv => whnf) | ((with_reducible refine Both.mk ?_ ?_) <;> conv => whnf) | ((with_reducible refine Any.mk fun b hb => ?_); conv => whnf) | ((with_reducible refine AskB.dec (fun hb => ?_) (fun hb => ?_)) <;> conv => whnf) | ((with_reducible refine AskB.ndec (fun hb => ?_) (fun hb => ?_)) <;> conv => whnf) | ((with_reducible refine AskB.mk (fun hb => ?_) (fun hb => ?_)) <;> conv => whnf) | ((with_reducible refine Run.drawX rfl (by decide +kernel) ?_); conv => whnf) | ((with_reducible refine Run.drawT rfl (by decide +kernel) ?_); conv => whnf) | ((with_reducible refine Run.drawW rfl (by decide +kernel) ?_); conv => whnf) | fail)
  · refine Run.holdNil 7 1000 3 1 (fun _ _ => .u) (by rfl) ?_
    refine Run.holdNil 8 1001 3 1 (fun _ _ => .u) (by rfl) ?_
    refine Run.loop [0, 21, 22] (fun (i : Nat) => [(7, .row 1000), (8, .row 1001), (23, .int .i64 (i : Int))]) (fun i => [(1000, tI.R 3 (startsI (T.take i))), (1001, tI.R 3 (endsI (T.take i)))])
      (fun i => i ≤ T.length) (fun i => T.length - i) 0 (Nat.zero_le _) ⟨Le.refl _, Le.refl _, Le.refl _, trivial⟩ ⟨⟨rfl, rfl, rfl, fun i j hi => absurd hi (Nat.not_lt_zero _)⟩, ⟨rfl, rfl, rfl, fun i j hi => absurd hi (Nat.not_lt_zero _)⟩, trivial⟩ ?_
    intro i hi IH
    have hle := startsI_len (T.take i)
    rw [List.length_take] at hle
    have hat : i < T.length → (T.getD (↑i : Int).toNat tTok.z).at' = (T.getD i tTok.z).at' ∧ 0 ≤ (T.getD i tTok.z).at' ∧ (T.getD i tTok.z).at' + ((T.getD i tTok.z).text.size : Int) ≤ s.size := fun h => ⟨rfl, by
      have := hcg.mem (T.getD i tTok.z) (by rw [List.getD, List.getElem?_eq_getElem h]; exact List.getElem_mem h)
      omega⟩
    have hstk := fun h => startsI_take T i h
    have hw1 : IntKind.i64.wrap ((i : Int) + 1) = ((i + 1 : Nat) : Int) := wrap64 (by omega) (by omega)
    refine Run.go ?_; (conv => whnf); repeat' (first | ((with_reducible refine Know.mk fun _ => ?_); conv => whnf) | ((with_reducible refine Need.mk ?_ ?_); (first | omega | (dsimp only; omega) | decide | exact bytes_le (by rfl) (by omega) | exact ⟨rfl, by omega, bytes_le (by rfl) (by omega), by omega⟩ | (refine ⟨?_, ?_⟩ <;> (rw [wrap64 (by omega) (by omega)]; omega))); conv => whnf) | ((with_reducible refine Both.mk ?_ ?_) <;> conv => whnf) | ((with_reducible refine Any.mk fun b hb => ?_); conv => whnf) | ((with_reducible refine AskB.dec (fun hb => ?_) (fun hb => ?_)) <;> conv => whnf) | ((with_reducible refine AskB.ndec (fun hb => ?_) (fun hb => ?_)) <;> conv => whnf) | ((with_reducible refine AskB.mk (fun hb => ?_) (fun hb => ?_)) <;> conv => whnf) | ((with_reducible refine Run.drawX rfl (by decide +kernel) ?_); conv => whnf) | ((with_reducible refine Run.drawT rfl (by decide +kernel) ?_); conv => whnf) | ((with_reducible refine Run.drawW rfl (by decide +kernel) ?_); conv => whnf) | fail)
    · have hil : i < T.length := by omega
      have hk : (T.getD i tTok.z).kind = 1 := by assumption
      obtain ⟨a1, a2, a3⟩ := hat hil
      obtain ⟨t1, t2⟩ := hstk hil
      rw [if_pos hk] at t1 t2
      refine Run.hold (z := 34) 7 1000 (by rfl) (by rfl) (by rfl) ?_
      refine Run.hold (z := 43) 8 1001 (by rfl) (by rfl) (by rfl) ?_
      refine Run.to _ _ ?_ ?_ (IH (i + 1) (by omega) (by omega))
      · exact ⟨Le.refl _, Le.refl _, Le.refl _, Le.refl _, Le.refl _, Le.int hw1, trivial⟩
      · refine ⟨?_, ?_, trivial⟩
        · rw [t1]
          refine tI.push 3 _ _ _ (fun j hj => ?_)
          match j, hj with
          | 0, _ => exact Le.refl _
        · rw [t2]
          refine tI.push 3 _ _ _ (fun j hj => ?_)
          match j, hj with
          | 0, _ => exact Le.int (wrap64 (x := (T.getD i tTok.z).at' + ((T.getD i tTok.z).text.size : Int)) (by omega) (by omega))
    · have hil : i < T.length := by omega
      have hk : ¬ (T.getD i tTok.z).kind = 1 := by assumption
      obtain ⟨t1, t2⟩ := hstk hil
      rw [if_neg hk, List.append_nil] at t1 t2
      refine Run.to _ _ ?_ ?_ (IH (i + 1) (by omega) (by omega))
      · exact ⟨Le.refl _, Le.refl _, Le.refl _, Le.refl _, Le.refl _, Le.int hw1, trivial⟩
      · refine ⟨?_, ?_, trivial⟩
        · rw [t1]; exact MOle.refl _
        · rw [t2]; exact MOle.refl _
    all_goals have hie : i = T.length := by omega
    all_goals subst hie
    all_goals rw [List.take_length] at *
    all_goals have hcw := cutW_len s (startsI T) (endsI T) hle.2
    · rw [show wordsL s = tupL [.str .empty, tWrd.L [], .int .i64 1] by unfold wordsL; rw [hm (by simp only []; omega)]]
      exact Run.leave (ts := [2,3,4]) (.inr ⟨_, rfl⟩) rfl Tryd.func15 rfl (resT ⟨Le.refl _, Le.nils _ _, Le.refl _, trivial⟩)
    rw [show wordsL s = tupL [.str (s.extract 0 (nextS s T).toNat), tWrd.L (cutW s (startsI T) (endsI T)), .int .i64 0] by unfold wordsL; rw [hf (by simp only []; omega)]]
    have hso := hcg.sorted
    have hnx := hcg.next
    have hnx0 : (startsI T ++ [(s.size : Int)]).getD 0 0 = nextS s T := by unfold nextS; cases startsI T <;> rfl
    have hcg2 := cutW_get s (startsI T) (endsI T)
    have hnx1 : 0 ≤ (startsI T ++ [(s.size : Int)]).getD (Int.toNat 0) tI.z ∧ (startsI T ++ [(s.size : Int)]).getD (Int.toNat 0) tI.z ≤ s.size := by
      rw [show (startsI T ++ [(s.size : Int)]).getD (Int.toNat 0) tI.z = nextS s T from hnx0]; omega
    generalize startsI T = st at *
    generalize endsI T = en at *
    generalize cutW s st en = W at *
    clear hf hm hstk
    refine Run.hold (z := 52) 7 1000 (by rfl) (by rfl) (by rfl) ?_
    refine Run.loop [0, 7, 8, 11, 57] (fun (i : Nat) => [(58, .int .i64 (i : Int))]) (fun i => [(55, tWrd.R 32 (part W tWrd.z i)), (1000, tI.R 3 (st ++ [(s.size : Int)])), (1001, tI.R 3 en)])
      (fun i => i ≤ st.length) (fun i => st.length - i) 0 (Nat.zero_le _) ⟨Le.refl _, trivial⟩ ⟨?_, ?_, MOle.refl _, trivial⟩ ?_
    · refine ⟨rfl, rfl, by rw [part_len _ _ _ (Nat.zero_le _)]; omega, fun i j hi hj => ?_⟩
      unfold Ty.G
      have hiW : i < W.length := by omega
      rw [part_none, show (List.replicate W.length tWrd.z).getD i tWrd.z = tWrd.z by simp [List.getD, hiW]]
      match j, hj with
      | 0, _ => exact Le.refl _
      | 1, _ => exact Le.refl _
    · refine tI.push 3 _ _ _ (fun j hj => ?_)
      match j, hj with
      | 0, _ => exact Le.refl _
    intro i hi2 IH2
    have hpl := part_len W tWrd.z i (by omega)
    have hw2 : IntKind.i64.wrap ((i : Int) + 1) = ((i + 1 : Nat) : Int) := wrap64 (by omega) (by omega)
    have ha1 : i < st.length → (st ++ [(s.size : Int)]).getD i 0 = st.getD i 0 := fun h => by simp [List.getD, List.getElem?_append_left h]
    have hb1 : i < st.length → 0 ≤ (st ++ [(s.size : Int)]).getD (↑i : Int).toNat tI.z ∧ (st ++ [(s.size : Int)]).getD (↑i : Int).toNat tI.z ≤ en.getD (↑i : Int).toNat tI.z ∧ en.getD (↑i : Int).toNat tI.z ≤ (st ++ [(s.size : Int)]).getD (IntKind.i64.wrap (↑i + 1)).toNat tI.z ∧ (st ++ [(s.size : Int)]).getD (IntKind.i64.wrap (↑i + 1)).toNat tI.z ≤ s.size := fun h => by
      obtain ⟨q1, q2, q3, q4⟩ := hso i h
      rw [hw2]
      refine ⟨?_, ?_, q3, q4⟩
      · show 0 ≤ (st ++ [(s.size : Int)]).getD i 0
        rw [ha1 h]; exact q1
      · show (st ++ [(s.size : Int)]).getD i 0 ≤ _
        rw [ha1 h]; exact q2
    have hsl : (st ++ [(s.size : Int)]).length = st.length + 1 := by simp
    refine Run.go ?_; (conv => whnf); repeat' (first | ((with_reducible refine Know.mk fun _ => ?_); conv => whnf) | ((with_reducible refine Need.mk ?_ ?_); (first | omega | (dsimp only; omega) | decide | exact bytes_le (by rfl) (by omega) | exact ⟨rfl, by omega, bytes_le (by rfl) (by omega), by omega⟩ | (refine ⟨?_, ?_⟩ <;> (rw [wrap64 (by omega) (by omega)]; omega))); conv => whnf) | ((with_reducible refine Both.mk ?_ ?_) <;> conv => whnf) | ((with_reducible refine Any.mk fun b hb => ?_); conv => whnf) | ((with_reducible refine AskB.dec (fun hb => ?_) (fun hb => ?_)) <;> conv => whnf) | ((with_reducible refine AskB.ndec (fun hb => ?_) (fun hb => ?_)) <;> conv => whnf) | ((with_reducible refine AskB.mk (fun hb => ?_) (fun hb => ?_)) <;> conv => whnf) | ((with_reducible refine Run.drawX rfl (by decide +kernel) ?_); conv => whnf) | ((with_reducible refine Run.drawT rfl (by decide +kernel) ?_); conv => whnf) | ((with_reducible refine Run.drawW rfl (by decide +kernel) ?_); conv => whnf) | fail)
    · have hil : i < st.length := by omega
      refine Run.to _ _ ?_ ?_ (IH2 (i + 1) (by omega) (by omega))
      · exact ⟨Le.refl _, Le.refl _, Le.refl _, Le.refl _, Le.refl _, Le.int hw2, trivial⟩
      · refine ⟨?_, MOle.refl _, MOle.refl _, trivial⟩
        rw [← part_set W tWrd.z i (by omega)]
        refine tWrd.set 32 (part W tWrd.z i) i (W.getD i tWrd.z) (by omega) _ rfl (fun j y hy => ?_)
        rw [hcg2 i hle.2 hil]
        match j, hy with
        | 0, hy =>
          injection hy with hy
          rw [← hy]
          exact Le.str (by
            show s.extract ((st ++ [(s.size : Int)]).getD i 0).toNat (en.getD i 0).toNat = _
            rw [ha1 hil])
        | 1, hy =>
          injection hy with hy
          rw [← hy]
          exact Le.str (by
            show s.extract (en.getD i 0).toNat ((st ++ [(s.size : Int)]).getD (IntKind.i64.wrap (↑i + 1)).toNat 0).toNat = _
            rw [hw2]; rfl)
    · have hie : i = W.length := by omega
      rw [hie, part_all]
      exact Run.leave (ts := [2,3,4]) (.inr ⟨_, rfl⟩) rfl Tryd.func15 rfl (resT ⟨Le.str (by show s.extract 0 ((st ++ [(s.size : Int)]).getD 0 0).toNat = _; rw [hnx0]), Le.refl _, Le.refl _, trivial⟩)
  · exact absurd rfl hb
end Go.Proofs.YtfodjmemdkibpaaDoor.V
