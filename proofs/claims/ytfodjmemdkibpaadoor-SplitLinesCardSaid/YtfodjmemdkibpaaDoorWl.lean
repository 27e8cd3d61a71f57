/-
SplitLines walked
-/
import Derived.Test.YtfodjmemdkibpaaDoorRn
namespace Go.Proofs.YtfodjmemdkibpaaDoor.V
open Go Go.Proofs Go.RowKit
set_option linter.unusedVariables false
set_option linter.unusedSimpArgs false
set_option maxRecDepth 100000
set_option maxHeartbeats 2000000
open Go Go.Proofs Go.Proofs.YtfodjmemdkibpaaDoor.V
def totT : List Tok → Nat
  | [] => 0
  | t :: ts => t.text.size + totT ts
theorem specW_size : ∀ (ts : List Tok), (specW ts).1.size ≤ totT ts ∧ ∀ w ∈ (specW ts).2, w.tail.size ≤ totT ts
  | [] => ⟨Nat.zero_le _, fun w hw => absurd hw (by simp [specW])⟩
  | t :: ts => by
    obtain ⟨h1, h2⟩ := specW_size ts
    rw [specW_cons]
    unfold totT
    by_cases hk : t.kind = 1
    · rw [if_pos hk]
      refine ⟨Nat.zero_le _, fun w hw => ?_⟩
      rcases List.mem_cons.mp hw with e | hw
      · rw [e]; simp only []; omega
      · have := h2 w hw; omega
    · rw [if_neg hk]
      refine ⟨by simp only [ByteArray.size_append]; omega, fun w hw => ?_⟩
      have := h2 w hw; omega
theorem totT_le (M : Nat) : ∀ (ts : List Tok), (∀ t ∈ ts, t.text.size ≤ M) → totT ts ≤ M * ts.length
  | [], _ => Nat.zero_le _
  | t :: ts, h => by
    have h1 := h t (by simp)
    have h2 := totT_le M ts (fun u hu => h u (by simp [hu]))
    unfold totT
    rw [List.length_cons, Nat.mul_succ]; omega
theorem spec_small (s : ByteArray) (hs : s.size ≤ 30000) : (specW (toksOf s)).1.size ≤ 900000000 ∧ ∀ w ∈ (specW (toksOf s)).2, w.tail.size ≤ 900000000 := by
  have he : toksOf s = toks s 0 (cells s 0) 0 := by unfold toksOf; rw [if_neg (by omega)]
  obtain ⟨h1, h2⟩ := toks_small s (cells s 0) 0
  have h3 := cells_len s 0
  have h4 := totT_le 30000 (toks s 0 (cells s 0) 0) (fun t ht => by have := h2 t ht; omega)
  have h5 := specW_size (toksOf s)
  rw [he] at h5 ⊢
  refine ⟨by omega, fun w hw => ?_⟩
  have := h5.2 w hw; omega
theorem words_at (s : ByteArray) (hs : s.size ≤ 65536) : wordsOf s = if 1024 < (specW (toksOf s)).2.length then ((.empty, []), 1) else (specW (toksOf s), 0) := by
  unfold wordsOf; rw [if_neg (by omega)]
theorem law4_fn (s t : ByteArray) : Fn Tryd.prog 4 [.str s, .str t] .tt := by
  refine Fn.of Tryd.f4 _ Tryd.func4 rfl (by decide) (by show 2 ≤ _; decide) tbOk 134 rfl fun S w0 gl => ?_
  refine Run.go ?_; (conv => whnf); repeat' (first | ((with_reducible refine Know.mk fun _ => ?_); conv => whnf) | ((with_reducible refine Need.mk ?_ ?_); (first | omega | (dsimp only; omega) | decide | exact bytes_le (by rfl) (by omega) | exact ⟨rfl, by omega, bytes_le (by rfl) (by omega), by omega⟩ | (refine ⟨?_, ?_⟩ <;> (rw [wrap64 (by omega) (by omega)]; omega))); conv => whnf) | ((with_reducible refine Both.mk ?_ ?_) <;> conv => whnf) | ((with_reducible refine Any.mk fun b hb => ?_); conv => whnf) | ((with_reducible refine AskB.dec (fun hb => ?_) (fun hb => ?_)) <;> conv => whnf) | ((with_reducible refine AskB.ndec (fun hb => ?_) (fun hb => ?_)) <;> conv => whnf) | ((with_reducible refine AskB.mk (fun hb => ?_) (fun hb => ?_)) <;> conv => whnf) | ((with_reducible refine Run.drawX rfl (by decide +kernel) ?_); conv => whnf) | ((with_reducible refine Run.drawT rfl (by decide +kernel) ?_); conv => whnf) | ((with_reducible refine Run.drawW rfl (by decide +kernel) ?_); conv => whnf) | fail)
  have hp : ¬ s = { data := #[] } → 0 < s.size := fun h => Nat.pos_of_ne_zero (fun e => h (by apply ByteArray.ext; apply Array.eq_empty_of_size_eq_zero; exact e))
  apply Run.cutAt (A := fun CC kk => s.size ≤ 30000 → t.size ≤ 30000 → NoCr s → Run CC kk (lst [(0, .str s), (1, .str t), (38, .str s)]) (lstH []))
  case main =>
    intro put
    refine Run.callBX awake14_fn rfl rfl trivial rfl rfl rfl ?_
    by_cases h0 : s = { data := #[] }
    · (conv => whnf); repeat' (first | ((with_reducible refine Know.mk fun _ => ?_); conv => whnf) | ((with_reducible refine Need.mk ?_ ?_); (first | omega | (dsimp only; omega) | decide | exact bytes_le (by rfl) (by omega) | exact ⟨rfl, by omega, bytes_le (by rfl) (by omega), by omega⟩ | (refine ⟨?_, ?_⟩ <;> (rw [wrap64 (by omega) (by omega)]; omega))); conv => whnf) | ((with_reducible refine Both.mk ?_ ?_) <;> conv => whnf) | ((with_reducible refine Any.mk fun b hb => ?_); conv => whnf) | ((with_reducible refine AskB.dec (fun hb => ?_) (fun hb => ?_)) <;> conv => whnf) | ((with_reducible refine AskB.ndec (fun hb => ?_) (fun hb => ?_)) <;> conv => whnf) | ((with_reducible refine AskB.mk (fun hb => ?_) (fun hb => ?_)) <;> conv => whnf) | ((with_reducible refine Run.drawX rfl (by decide +kernel) ?_); conv => whnf) | ((with_reducible refine Run.drawT rfl (by decide +kernel) ?_); conv => whnf) | ((with_reducible refine Run.drawW rfl (by decide +kernel) ?_); conv => whnf) | fail)
      · exact Run.leave (ts := [4]) (.inr ⟨_, rfl⟩) rfl Tryd.func4 rfl (Le.refl _)
      · exact Run.leave (ts := [4]) (.inr ⟨_, rfl⟩) rfl Tryd.func4 rfl (Le.refl _)
      · refine Run.to _ _ ?_ ?_ (put (by omega) (by omega) (noCr_of s (.inl (by rw [h0]; rfl))))
        · exact ⟨Le.refl _, Le.refl _, Le.refl _, trivial⟩
        · exact trivial
      all_goals exact absurd h0 (by assumption)
    · have hp := hp h0
      have hw : s.size ≤ 30000 → IntKind.i64.wrap ((s.size : Int) - 1) = ((s.size - 1 : Nat) : Int) := fun h => (wrap64 (by omega) (by omega)).trans (by omega)
      (conv => whnf); repeat' (first | ((with_reducible refine Know.mk fun _ => ?_); conv => whnf) | ((with_reducible refine Need.mk ?_ ?_); (first | omega | (dsimp only; omega) | decide | exact bytes_le (by rfl) (by omega) | exact ⟨rfl, by omega, bytes_le (by rfl) (by omega), by omega⟩ | (refine ⟨?_, ?_⟩ <;> (rw [wrap64 (by omega) (by omega)]; omega))); conv => whnf) | ((with_reducible refine Both.mk ?_ ?_) <;> conv => whnf) | ((with_reducible refine Any.mk fun b hb => ?_); conv => whnf) | ((with_reducible refine AskB.dec (fun hb => ?_) (fun hb => ?_)) <;> conv => whnf) | ((with_reducible refine AskB.ndec (fun hb => ?_) (fun hb => ?_)) <;> conv => whnf) | ((with_reducible refine AskB.mk (fun hb => ?_) (fun hb => ?_)) <;> conv => whnf) | ((with_reducible refine Run.drawX rfl (by decide +kernel) ?_); conv => whnf) | ((with_reducible refine Run.drawT rfl (by decide +kernel) ?_); conv => whnf) | ((with_reducible refine Run.drawW rfl (by decide +kernel) ?_); conv => whnf) | fail)
      · exact Run.leave (ts := [4]) (.inr ⟨_, rfl⟩) rfl Tryd.func4 rfl (Le.refl _)
      · exact Run.leave (ts := [4]) (.inr ⟨_, rfl⟩) rfl Tryd.func4 rfl (Le.refl _)
      · exact absurd (by assumption) h0
      · exact Run.leave (ts := [4]) (.inr ⟨_, rfl⟩) rfl Tryd.func4 rfl (Le.refl _)
      · have hs : s.size ≤ 30000 := by omega
        rw [hw hs] at hb
        refine Run.to _ _ ?_ ?_ (put hs (by omega) (noCr_of s (.inr hb)))
        · exact ⟨Le.refl _, Le.refl _, Le.refl _, trivial⟩
        · exact trivial
  case g =>
    intro hs ht hcr
    obtain ⟨zs1, zs2⟩ := spec_small s hs
    obtain ⟨zt1, zt2⟩ := spec_small t ht
    have hes : toksOf s = toks s 0 (cells s 0) 0 := by unfold toksOf; rw [if_neg (by omega)]
    have het : toksOf t = toks t 0 (cells t 0) 0 := by unfold toksOf; rw [if_neg (by omega)]
    have hej : toksOf (joinT s t) = toks (joinT s t) 0 (cells (joinT s t) 0) 0 := by unfold toksOf; rw [if_neg (by rw [joinT_size]; omega)]
    have hws := words_at s (by omega)
    have hwt := words_at t (by omega)
    have hwj := words_at (joinT s t) (by rw [joinT_size]; omega)
    have hj : specW (toksOf (joinT s t)) = hang (specW (toksOf s)) (nl ++ (specW (toksOf t)).1, (specW (toksOf t)).2) := by rw [hej, hes, het]; exact specW_join s t hcr
    rw [hj] at hwj
    generalize specW (toksOf s) = A at *
    generalize specW (toksOf t) = B at *
    clear hes het hej hj
    have hn1 : ({ data := #[10] } : ByteArray).size = 1 := rfl
    have hn2 : (s ++ ({ data := #[10] } : ByteArray)).size = s.size + 1 := by rw [ByteArray.size_append]; rfl
    refine Run.callBX (words15_fn s) rfl rfl ⟨Le.refl _, trivial⟩ rfl rfl rfl ?_
    unfold wordsL
    (conv => whnf); repeat' (first | ((with_reducible refine Know.mk fun _ => ?_); conv => whnf) | ((with_reducible refine Need.mk ?_ ?_); (first | omega | (dsimp only; omega) | decide | exact bytes_le (by rfl) (by omega) | exact ⟨rfl, by omega, bytes_le (by rfl) (by omega), by omega⟩ | (refine ⟨?_, ?_⟩ <;> (rw [wrap64 (by omega) (by omega)]; omega))); conv => whnf) | ((with_reducible refine Both.mk ?_ ?_) <;> conv => whnf) | ((with_reducible refine Any.mk fun b hb => ?_); conv => whnf) | ((with_reducible refine AskB.dec (fun hb => ?_) (fun hb => ?_)) <;> conv => whnf) | ((with_reducible refine AskB.ndec (fun hb => ?_) (fun hb => ?_)) <;> conv => whnf) | ((with_reducible refine AskB.mk (fun hb => ?_) (fun hb => ?_)) <;> conv => whnf) | ((with_reducible refine Run.drawX rfl (by decide +kernel) ?_); conv => whnf) | ((with_reducible refine Run.drawT rfl (by decide +kernel) ?_); conv => whnf) | ((with_reducible refine Run.drawW rfl (by decide +kernel) ?_); conv => whnf) | fail)
    refine Run.callBX (words15_fn t) rfl rfl ⟨Le.refl _, trivial⟩ rfl rfl rfl ?_
    unfold wordsL
    (conv => whnf); repeat' (first | ((with_reducible refine Know.mk fun _ => ?_); conv => whnf) | ((with_reducible refine Need.mk ?_ ?_); (first | omega | (dsimp only; omega) | decide | exact bytes_le (by rfl) (by omega) | exact ⟨rfl, by omega, bytes_le (by rfl) (by omega), by omega⟩ | (refine ⟨?_, ?_⟩ <;> (rw [wrap64 (by omega) (by omega)]; omega))); conv => whnf) | ((with_reducible refine Both.mk ?_ ?_) <;> conv => whnf) | ((with_reducible refine Any.mk fun b hb => ?_); conv => whnf) | ((with_reducible refine AskB.dec (fun hb => ?_) (fun hb => ?_)) <;> conv => whnf) | ((with_reducible refine AskB.ndec (fun hb => ?_) (fun hb => ?_)) <;> conv => whnf) | ((with_reducible refine AskB.mk (fun hb => ?_) (fun hb => ?_)) <;> conv => whnf) | ((with_reducible refine Run.drawX rfl (by decide +kernel) ?_); conv => whnf) | ((with_reducible refine Run.drawT rfl (by decide +kernel) ?_); conv => whnf) | ((with_reducible refine Run.drawW rfl (by decide +kernel) ?_); conv => whnf) | fail)
    refine Run.callBX (words15_fn (joinT s t)) rfl rfl ⟨Le.refl _, trivial⟩ rfl rfl rfl ?_
    unfold wordsL
    have hjl : (hang A (nl ++ B.1, B.2)).2.length = A.2.length + B.2.length := by
      unfold hang
      split
      · simp only []; omega
      · simp
    generalize hJ : hang A (nl ++ B.1, B.2) = J at *
    have ns : (wordsOf s).2 = 0 ∧ (wordsOf s).1.2.length = A.2.length ∧ A.2.length ≤ 1024 ∨ (wordsOf s).2 = 1 ∧ (wordsOf s).1.2.length = 0 ∧ 1024 < A.2.length := by
      rw [hws]; split
      · exact .inr ⟨rfl, rfl, by assumption⟩
      · exact .inl ⟨rfl, rfl, by omega⟩
    have nt : (wordsOf t).2 = 0 ∧ (wordsOf t).1.2.length = B.2.length ∧ B.2.length ≤ 1024 ∨ (wordsOf t).2 = 1 ∧ (wordsOf t).1.2.length = 0 ∧ 1024 < B.2.length := by
      rw [hwt]; split
      · exact .inr ⟨rfl, rfl, by assumption⟩
      · exact .inl ⟨rfl, rfl, by omega⟩
    have nj : (wordsOf (joinT s t)).2 = 0 ∧ (wordsOf (joinT s t)).1.2.length = A.2.length + B.2.length ∧ A.2.length + B.2.length ≤ 1024 ∨ (wordsOf (joinT s t)).2 = 1 ∧ (wordsOf (joinT s t)).1.2.length = 0 ∧ 1024 < A.2.length + B.2.length := by
      rw [hwj]; split
      · exact .inr ⟨rfl, rfl, by omega⟩
      · exact .inl ⟨rfl, hjl, by omega⟩
    have es : (wordsOf s).2 = 0 → (wordsOf s).1 = A := fun h => by
      rw [hws] at h ⊢; split at h
      · exact absurd h (by decide)
      · rename_i h2; rw [if_neg h2]
    have et : (wordsOf t).2 = 0 → (wordsOf t).1 = B := fun h => by
      rw [hwt] at h ⊢; split at h
      · exact absurd h (by decide)
      · rename_i h2; rw [if_neg h2]
    have ej : (wordsOf (joinT s t)).2 = 0 → (wordsOf (joinT s t)).1 = J := fun h => by
      rw [hwj] at h ⊢; split at h
      · exact absurd h (by decide)
      · rename_i h2; rw [if_neg h2]
    clear hws hwt hwj
    generalize wordsOf s = Ws at *
    generalize wordsOf t = Wt at *
    generalize wordsOf (joinT s t) = Wj at *
    have hwr : IntKind.i64.wrap ((Ws.1.2.length : Int) + Wt.1.2.length) = (Ws.1.2.length : Int) + Wt.1.2.length := wrap64 (by omega) (by omega)
    by_cases hz : Ws.2 = 0 ∧ Wt.2 = 0 ∧ Wj.2 = 0
    · rw [es hz.1] at *
      rw [et hz.2.1] at *
      rw [ej hz.2.2] at *
      have hl5 : ({ data := #[10] } : ByteArray).size = 1 := rfl
      have hn3 : (A.1 ++ ({ data := #[10] } : ByteArray)).size = A.1.size + 1 := by rw [ByteArray.size_append]; rfl
      have hn4 : (({ data := #[10] } : ByteArray) ++ B.1).size = 1 + B.1.size := by rw [ByteArray.size_append]; rfl
      have hwl : 0 < A.2.length → IntKind.i64.wrap (((0 + A.2.length : Nat) : Int) - 1) = ((A.2.length - 1 : Nat) : Int) := fun h => (wrap64 (by omega) (by omega)).trans (by omega)
      have hlast : 0 < A.2.length → (A.2.getD ((IntKind.i64.wrap (((0 + A.2.length : Nat) : Int) - 1)).toNat - 0) tWrd.z).tail.size ≤ 900000000 := fun h => by
        rw [hwl h]
        refine zs2 _ ?_
        show A.2.getD (A.2.length - 1) tWrd.z ∈ A.2
        rw [List.getD, List.getElem?_eq_getElem (by omega)]; exact List.getElem_mem _
      have j0 : A.2.length = 0 → J = (A.1 ++ (nl ++ B.1), B.2) := fun h => by rw [← hJ]; unfold hang; rw [if_pos h]
      have j1 : ¬ A.2.length = 0 → J = (A.1, A.2.set (A.2.length - 1) ⟨(A.2.getD (A.2.length - 1) tWrd.z).text, (A.2.getD (A.2.length - 1) tWrd.z).tail ++ (nl ++ B.1)⟩ ++ B.2) := fun h => by rw [← hJ]; unfold hang; rw [if_neg h]
      (conv => whnf); repeat' (first | ((with_reducible refine Know.mk fun _ => ?_); conv => whnf) | ((with_reducible refine Need.mk ?_ ?_); (first | omega | (dsimp only; omega) | decide | exact bytes_le (by rfl) (by omega) | exact ⟨rfl, by omega, bytes_le (by rfl) (by omega), by omega⟩ | (refine ⟨?_, ?_⟩ <;> (rw [wrap64 (by omega) (by omega)]; omega))); conv => whnf) | ((with_reducible refine Both.mk ?_ ?_) <;> conv => whnf) | ((with_reducible refine Any.mk fun b hb => ?_); conv => whnf) | ((with_reducible refine AskB.dec (fun hb => ?_) (fun hb => ?_)) <;> conv => whnf) | ((with_reducible refine AskB.ndec (fun hb => ?_) (fun hb => ?_)) <;> conv => whnf) | ((with_reducible refine AskB.mk (fun hb => ?_) (fun hb => ?_)) <;> conv => whnf) | ((with_reducible refine Run.drawX rfl (by decide +kernel) ?_); conv => whnf) | ((with_reducible refine Run.drawT rfl (by decide +kernel) ?_); conv => whnf) | ((with_reducible refine Run.drawW rfl (by decide +kernel) ?_); conv => whnf) | fail)
      all_goals (try (exfalso; omega))
      · have hJ2 := j0 (by omega)
        refine Run.callBX (same17_fn J.2 B.2 (by omega)) rfl rfl ⟨Le.refl _, Le.refl _, trivial⟩ rfl rfl rfl ?_
        rw [decide_eq_true (show J.2 = B.2 by rw [hJ2])]
        (conv => whnf); repeat' (first | ((with_reducible refine Know.mk fun _ => ?_); conv => whnf) | ((with_reducible refine Need.mk ?_ ?_); (first | omega | (dsimp only; omega) | decide | exact bytes_le (by rfl) (by omega) | exact ⟨rfl, by omega, bytes_le (by rfl) (by omega), by omega⟩ | (refine ⟨?_, ?_⟩ <;> (rw [wrap64 (by omega) (by omega)]; omega))); conv => whnf) | ((with_reducible refine Both.mk ?_ ?_) <;> conv => whnf) | ((with_reducible refine Any.mk fun b hb => ?_); conv => whnf) | ((with_reducible refine AskB.dec (fun hb => ?_) (fun hb => ?_)) <;> conv => whnf) | ((with_reducible refine AskB.ndec (fun hb => ?_) (fun hb => ?_)) <;> conv => whnf) | ((with_reducible refine AskB.mk (fun hb => ?_) (fun hb => ?_)) <;> conv => whnf) | ((with_reducible refine Run.drawX rfl (by decide +kernel) ?_); conv => whnf) | ((with_reducible refine Run.drawT rfl (by decide +kernel) ?_); conv => whnf) | ((with_reducible refine Run.drawW rfl (by decide +kernel) ?_); conv => whnf) | fail)
        all_goals exact Run.leave (ts := [4]) (.inr ⟨_, rfl⟩) rfl Tryd.func4 rfl (Le.refl _)
      · have hJ2 := j0 (by omega)
        refine absurd ?_ hb
        rw [hJ2]
        exact (ByteArray.append_assoc).symm
      · have hne : ¬ A.2.length = 0 := by omega
        have hJ2 := j1 hne
        have hwl2 := hwl (by omega)
        refine Run.to [(127, .tt), (128, tWrd.L J.2), (131, .row 131)] [(131, tWrd.R 32 (A.2.set (A.2.length - 1) ⟨(A.2.getD (A.2.length - 1) tWrd.z).text, (A.2.getD (A.2.length - 1) tWrd.z).tail ++ (nl ++ B.1)⟩ ++ B.2))] ?_ ?_ ?_
        · exact ⟨Le.refl _, Le.refl _, Le.refl _, trivial⟩
        · refine ⟨tWrd.join 32 _ B.2 _ _ _ _ (by rw [List.length_set]; omega) rfl (fun i j hi hj => ?_) (fun i j hi hj => Le.refl _), trivial⟩
          rw [hwl2]
          have ej0 : joinRow 0 (fun x x_1 => AV.u) (tWrd.G A.2) = tWrd.G A.2 := by
            funext i j
            unfold joinRow
            rw [if_neg (Nat.not_lt_zero _)]; rfl
          rw [ej0]
          obtain ⟨_, _, _, hpt⟩ := tWrd.setAt 32 A.2 (A.2.length - 1) ((A.2.length - 1 : Nat) : Int).toNat 1 (0 + 1) ⟨(A.2.getD (A.2.length - 1) tWrd.z).text, (A.2.getD (A.2.length - 1) tWrd.z).tail ++ (nl ++ B.1)⟩ (by omega) rfl rfl
            [.str ((A.2.getD (((A.2.length - 1 : Nat) : Int).toNat - 0) tWrd.z).tail ++ (({ data := #[10] } : ByteArray) ++ B.1))] (fun j y hy => by
              match j, hy with
              | 0, hy =>
                injection hy with hy
                rw [← hy]; exact Le.refl _) (fun j hj ho => by
              match j, hj with
              | 0, _ => exact Le.refl _
              | 1, _ => exact absurd ho (by simp))
          exact hpt i j (by omega) hj
        · refine Run.callAX (same17_fn J.2 (A.2.set (A.2.length - 1) ⟨(A.2.getD (A.2.length - 1) tWrd.z).text, (A.2.getD (A.2.length - 1) tWrd.z).tail ++ (nl ++ B.1)⟩ ++ B.2) (by omega)) rfl rfl ⟨Le.refl _, Le.refl _, trivial⟩ rfl rfl rfl ?_
          rw [decide_eq_true (show J.2 = _ by rw [hJ2])]
          (conv => whnf); repeat' (first | ((with_reducible refine Know.mk fun _ => ?_); conv => whnf) | ((with_reducible refine Need.mk ?_ ?_); (first | omega | (dsimp only; omega) | decide | exact bytes_le (by rfl) (by omega) | exact ⟨rfl, by omega, bytes_le (by rfl) (by omega), by omega⟩ | (refine ⟨?_, ?_⟩ <;> (rw [wrap64 (by omega) (by omega)]; omega))); conv => whnf) | ((with_reducible refine Both.mk ?_ ?_) <;> conv => whnf) | ((with_reducible refine Any.mk fun b hb => ?_); conv => whnf) | ((with_reducible refine AskB.dec (fun hb => ?_) (fun hb => ?_)) <;> conv => whnf) | ((with_reducible refine AskB.ndec (fun hb => ?_) (fun hb => ?_)) <;> conv => whnf) | ((with_reducible refine AskB.mk (fun hb => ?_) (fun hb => ?_)) <;> conv => whnf) | ((with_reducible refine Run.drawX rfl (by decide +kernel) ?_); conv => whnf) | ((with_reducible refine Run.drawT rfl (by decide +kernel) ?_); conv => whnf) | ((with_reducible refine Run.drawW rfl (by decide +kernel) ?_); conv => whnf) | fail)
          all_goals exact Run.leave (ts := [4]) (.inr ⟨_, rfl⟩) rfl Tryd.func4 rfl (Le.refl _)
      · have hJ2 := j1 (by omega)
        refine absurd ?_ hb
        rw [hJ2]
    · (conv => whnf); repeat' (first | ((with_reducible refine Know.mk fun _ => ?_); conv => whnf) | ((with_reducible refine Need.mk ?_ ?_); (first | omega | (dsimp only; omega) | decide | exact bytes_le (by rfl) (by omega) | exact ⟨rfl, by omega, bytes_le (by rfl) (by omega), by omega⟩ | (refine ⟨?_, ?_⟩ <;> (rw [wrap64 (by omega) (by omega)]; omega))); conv => whnf) | ((with_reducible refine Both.mk ?_ ?_) <;> conv => whnf) | ((with_reducible refine Any.mk fun b hb => ?_); conv => whnf) | ((with_reducible refine AskB.dec (fun hb => ?_) (fun hb => ?_)) <;> conv => whnf) | ((with_reducible refine AskB.ndec (fun hb => ?_) (fun hb => ?_)) <;> conv => whnf) | ((with_reducible refine AskB.mk (fun hb => ?_) (fun hb => ?_)) <;> conv => whnf) | ((with_reducible refine Run.drawX rfl (by decide +kernel) ?_); conv => whnf) | ((with_reducible refine Run.drawT rfl (by decide +kernel) ?_); conv => whnf) | ((with_reducible refine Run.drawW rfl (by decide +kernel) ?_); conv => whnf) | fail)
      all_goals (try (exfalso; omega))
      all_goals first
        | exact Run.leave (ts := [4]) (.inr ⟨_, rfl⟩) rfl Tryd.func4 rfl (Le.refl _)
        | exact Run.leave (ts := [4]) (.inr ⟨_, rfl⟩) rfl Tryd.func4 rfl (Le.tt' (decide_eq_true (by omega)))
        | exact Run.leave (ts := [4]) (.inr ⟨_, rfl⟩) rfl Tryd.func4 rfl (Le.tt' (by simp; omega))
end Go.Proofs.YtfodjmemdkibpaaDoor.V
