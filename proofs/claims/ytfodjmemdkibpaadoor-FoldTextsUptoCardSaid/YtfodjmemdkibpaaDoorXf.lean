/-
The document's folding walked: a list of runes without a kind, without ligatures; a list of runes as a text.
-/
import Derived.Test.YtfodjmemdkibpaaDoorXe
import Derived.Test.YtfodjmemdkibpaaDoorME
namespace Go.Proofs.YtfodjmemdkibpaaDoor.V
open Go Go.Proofs Go.RowKit
set_option linter.unusedVariables false
set_option linter.unusedSimpArgs false
set_option maxRecDepth 100000
set_option maxHeartbeats 4000000
open Go Go.Proofs Go.Proofs.YtfodjmemdkibpaaDoor.V
def dropE (k : Int) (l : List Int) : List Int := l.filter (fun r => !decide (kOf r = k))
theorem dropE_no {k x : Int} {l : List Int} (h : kOf x = k) : dropE k (x :: l) = dropE k l := by unfold dropE; rw [List.filter_cons_of_neg (by simp [h])]
theorem dropE_yes {k x : Int} {l : List Int} (h : ¬ kOf x = k) : dropE k (x :: l) = x :: dropE k l := by unfold dropE; rw [List.filter_cons_of_pos (by simp [h])]
theorem drop42_fn (l : List Int) (k : Int) (hl : l.length ≤ 1000000) : FnF Tryd.prog 42 [tRn.L l, .int .i64 k] (.row 0) [tRn.R 21 (dropE k l)] := by
  refine FnF.of Tryd.f42 _ Tryd.func42 rfl (by decide) (by show 2 ≤ _; decide) tbOk 28 rfl fun S w0 gl => ?_
  refine Run.go ?_; (conv => whnf); repeat' (first | ((with_reducible refine Know.mk fun _ => ?_); conv => whnf) | ((with_reducible refine Need.mk ?_ ?_); (first | omega | (dsimp only; omega) | decide | exact bytes_le (by rfl) (by omega) | exact ⟨rfl, by omega, bytes_le (by rfl) (by omega), by omega⟩ | (refine ⟨?_, ?_⟩ <;> (rw [wrap64 (by omega) (by omega)]; omega))); conv => whnf) | ((with_reducible refine Both.mk ?_ ?_) <;> conv => whnf) | ((with_reducible refine Any.mk fun b hb => ?_); conv => whnf) | ((with_reducible refine AskB.dec (fun hb => ?_) (fun hb => ?_)) <;> conv => whnf) | ((with_reducible refine AskB.ndec (fun hb => ?_) (fun hb => ?_)) <;> conv => whnf) | ((with_reducible refine AskB.mk (fun hb => ?_) (fun hb => ?_)) <;> conv => whnf) | ((with_reducible refine Run.drawX rfl (by decide +kernel) ?_); conv => whnf) | ((with_reducible refine Run.drawT rfl (by decide +kernel) ?_); conv => whnf) | ((with_reducible refine Run.drawW rfl (by decide +kernel) ?_); conv => whnf) | fail)
  refine Run.holdNil 5 1000 21 1 (fun _ _ => .u) rfl ?_
  refine Run.loop [0, 1] (fun (a : Nat × List Int) => [(5, .row 1000), (6, .int .i64 (a.1 : Int))]) (fun a => [(1000, tRn.R 21 a.2)]) (fun a => a.1 ≤ l.length ∧ a.2.length ≤ a.1 ∧ a.2 ++ dropE k (l.drop a.1) = dropE k l) (fun a => l.length - a.1) (0, []) ⟨Nat.zero_le _, Nat.zero_le _, rfl⟩ ⟨Le.refl _, Le.refl _, trivial⟩ ⟨⟨rfl, rfl, rfl, fun i j hi => absurd hi (Nat.not_lt_zero _)⟩, trivial⟩ ?_
  intro ⟨j, m⟩ ⟨hj, hm, hc⟩ IH
  simp only at hj hm hc
  have hwj : IntKind.i64.wrap ((j : Int) + 1) = ((j + 1 : Nat) : Int) := wrap64 (by omega) (by omega)
  show Run _ _ (lst (_ ++ [(5, .row 1000), (6, .int .i64 (j : Int))])) (lstH [(1000, tRn.R 21 m)])
  refine Run.go ?_; (conv => whnf); repeat' (first | ((with_reducible refine Know.mk fun _ => ?_); conv => whnf) | ((with_reducible refine Need.mk ?_ ?_); (first | omega | (dsimp only; omega) | decide | exact bytes_le (by rfl) (by omega) | exact ⟨rfl, by omega, bytes_le (by rfl) (by omega), by omega⟩ | (refine ⟨?_, ?_⟩ <;> (rw [wrap64 (by omega) (by omega)]; omega))); conv => whnf) | ((with_reducible refine Both.mk ?_ ?_) <;> conv => whnf) | ((with_reducible refine Any.mk fun b hb => ?_); conv => whnf) | ((with_reducible refine AskB.dec (fun hb => ?_) (fun hb => ?_)) <;> conv => whnf) | ((with_reducible refine AskB.ndec (fun hb => ?_) (fun hb => ?_)) <;> conv => whnf) | ((with_reducible refine AskB.mk (fun hb => ?_) (fun hb => ?_)) <;> conv => whnf) | ((with_reducible refine Run.drawX rfl (by decide +kernel) ?_); conv => whnf) | ((with_reducible refine Run.drawT rfl (by decide +kernel) ?_); conv => whnf) | ((with_reducible refine Run.drawW rfl (by decide +kernel) ?_); conv => whnf) | fail)
  · have hjl : j < l.length := by omega
    rw [drop_at l j tRn.z hjl] at hc
    refine Run.callBX (of60_fn (l.getD j tRn.z)) rfl rfl ⟨Le.refl _, trivial⟩ rfl rfl rfl ?_
    (conv => whnf); repeat' (first | ((with_reducible refine Know.mk fun _ => ?_); conv => whnf) | ((with_reducible refine Need.mk ?_ ?_); (first | omega | (dsimp only; omega) | decide | exact bytes_le (by rfl) (by omega) | exact ⟨rfl, by omega, bytes_le (by rfl) (by omega), by omega⟩ | (refine ⟨?_, ?_⟩ <;> (rw [wrap64 (by omega) (by omega)]; omega))); conv => whnf) | ((with_reducible refine Both.mk ?_ ?_) <;> conv => whnf) | ((with_reducible refine Any.mk fun b hb => ?_); conv => whnf) | ((with_reducible refine AskB.dec (fun hb => ?_) (fun hb => ?_)) <;> conv => whnf) | ((with_reducible refine AskB.ndec (fun hb => ?_) (fun hb => ?_)) <;> conv => whnf) | ((with_reducible refine AskB.mk (fun hb => ?_) (fun hb => ?_)) <;> conv => whnf) | ((with_reducible refine Run.drawX rfl (by decide +kernel) ?_); conv => whnf) | ((with_reducible refine Run.drawT rfl (by decide +kernel) ?_); conv => whnf) | ((with_reducible refine Run.drawW rfl (by decide +kernel) ?_); conv => whnf) | fail)
    · have hk : kOf (l.getD j tRn.z) = k := hb
      refine Run.to _ _ ?_ ?_ (IH (j + 1, m) (by simp only []; omega) ⟨by simp only []; omega, by simp only []; omega, ?_⟩)
      · exact ⟨Le.refl _, Le.refl _, Le.refl _, Le.int hwj, trivial⟩
      · exact ⟨MOle.refl _, trivial⟩
      · rw [← hc, dropE_no hk]
    · have hk : ¬ kOf (l.getD j tRn.z) = k := hb
      refine Run.hold (z := 26) 5 1000 (by rfl) (by rfl) (by rfl) ?_
      refine Run.to _ _ ?_ ?_ (IH (j + 1, m ++ [l.getD j tRn.z]) (by simp only []; omega) ⟨by simp only []; omega, by simp only [List.length_append, List.length_singleton]; omega, ?_⟩)
      · exact ⟨Le.refl _, Le.refl _, Le.refl _, Le.int hwj, trivial⟩
      · exact ⟨tRn.push 21 m (l.getD j tRn.z) _ (one0 (Le.refl _)), trivial⟩
      · rw [← hc, dropE_yes hk]; simp
  · obtain rfl : j = l.length := by omega
    have e : m = dropE k l := by rw [← hc, List.drop_length]; simp [dropE]
    refine Run.leaveF (ts := [4]) [1000] (.inr ⟨_, rfl⟩) rfl Tryd.func42 rfl (by decide) ⟨?_, trivial⟩ rfl (Le.refl _)
    rw [← e]; exact MOle.refl _
def ligE (x : Int) : List Int := if isLig x = true then bytesI (ligB x) else [x]
def ligsE (l : List Int) : List Int := l.flatMap ligE
theorem ligB_ne : ∀ r, isLig r = true → ligB r ≠ .empty := by
  intro r h
  unfold isLig at h
  have h := of_decide_eq_true h
  unfold ligB
  repeat' split
  all_goals first | (exact fun e => absurd (congrArg ByteArray.size e) (by decide)) | skip
  · rename_i h9
    obtain ⟨k, hk⟩ : ∃ k : Fin 7, k.val = (r - 64256).toNat := ⟨⟨(r - 64256).toNat, by omega⟩, rfl⟩
    rw [← hk]
    clear hk h h9
    revert k; decide +kernel
  · omega
theorem bytesI_at (s : ByteArray) (j : Nat) (h : j < s.size) : (bytesI s).getD j 0 = bt s j := by
  unfold bytesI bt
  have h2 : j < s.data.toList.length := by simpa using h
  rw [List.getD, List.getD, List.getElem?_map, List.getElem?_eq_getElem h2]; rfl
theorem bytesI_len (s : ByteArray) : (bytesI s).length = s.size := by simp [bytesI]
theorem ligE_len (x : Int) : (ligE x).length ≤ 3 := by
  unfold ligE
  split
  · rw [bytesI_len]; exact ligB_size x
  · simp
theorem ligs43_fn (l : List Int) (hl : l.length ≤ 1000000) : FnF Tryd.prog 43 [tRn.L l] (.row 0) [tRn.R 21 (ligsE l)] := by
  refine FnF.of Tryd.f43 _ Tryd.func43 rfl (by decide) (by show 1 ≤ _; decide) tbOk 41 rfl fun S w0 gl => ?_
  refine Run.go ?_; (conv => whnf); repeat' (first | ((with_reducible refine Know.mk fun _ => ?_); conv => whnf) | ((with_reducible refine Need.mk ?_ ?_); (first | omega | (dsimp only; omega) | decide | exact bytes_le (by rfl) (by omega) | exact ⟨rfl, by omega, bytes_le (by rfl) (by omega), by omega⟩ | (refine ⟨?_, ?_⟩ <;> (rw [wrap64 (by omega) (by omega)]; omega))); conv => whnf) | ((with_reducible refine Both.mk ?_ ?_) <;> conv => whnf) | ((with_reducible refine Any.mk fun b hb => ?_); conv => whnf) | ((with_reducible refine AskB.dec (fun hb => ?_) (fun hb => ?_)) <;> conv => whnf) | ((with_reducible refine AskB.ndec (fun hb => ?_) (fun hb => ?_)) <;> conv => whnf) | ((with_reducible refine AskB.mk (fun hb => ?_) (fun hb => ?_)) <;> conv => whnf) | ((with_reducible refine Run.drawX rfl (by decide +kernel) ?_); conv => whnf) | ((with_reducible refine Run.drawT rfl (by decide +kernel) ?_); conv => whnf) | ((with_reducible refine Run.drawW rfl (by decide +kernel) ?_); conv => whnf) | fail)
  refine Run.holdNil 3 1000 21 1 (fun _ _ => .u) rfl ?_
  refine Run.loop [0] (fun (a : Nat × List Int) => [(3, .row 1000), (4, .int .i64 (a.1 : Int))]) (fun a => [(1000, tRn.R 21 a.2)]) (fun a => a.1 ≤ l.length ∧ a.2.length ≤ 3 * a.1 ∧ a.2 ++ ligsE (l.drop a.1) = ligsE l) (fun a => l.length - a.1) (0, []) ⟨Nat.zero_le _, Nat.zero_le _, rfl⟩ ⟨Le.refl _, Le.refl _, trivial⟩ ⟨⟨rfl, rfl, rfl, fun i j hi => absurd hi (Nat.not_lt_zero _)⟩, trivial⟩ ?_
  intro ⟨j, m⟩ ⟨hj, hm, hc⟩ IH
  simp only at hj hm hc
  have hwj : IntKind.i64.wrap ((j : Int) + 1) = ((j + 1 : Nat) : Int) := wrap64 (by omega) (by omega)
  show Run _ _ (lst (_ ++ [(3, .row 1000), (4, .int .i64 (j : Int))])) (lstH [(1000, tRn.R 21 m)])
  refine Run.go ?_; (conv => whnf); repeat' (first | ((with_reducible refine Know.mk fun _ => ?_); conv => whnf) | ((with_reducible refine Need.mk ?_ ?_); (first | omega | (dsimp only; omega) | decide | exact bytes_le (by rfl) (by omega) | exact ⟨rfl, by omega, bytes_le (by rfl) (by omega), by omega⟩ | (refine ⟨?_, ?_⟩ <;> (rw [wrap64 (by omega) (by omega)]; omega))); conv => whnf) | ((with_reducible refine Both.mk ?_ ?_) <;> conv => whnf) | ((with_reducible refine Any.mk fun b hb => ?_); conv => whnf) | ((with_reducible refine AskB.dec (fun hb => ?_) (fun hb => ?_)) <;> conv => whnf) | ((with_reducible refine AskB.ndec (fun hb => ?_) (fun hb => ?_)) <;> conv => whnf) | ((with_reducible refine AskB.mk (fun hb => ?_) (fun hb => ?_)) <;> conv => whnf) | ((with_reducible refine Run.drawX rfl (by decide +kernel) ?_); conv => whnf) | ((with_reducible refine Run.drawT rfl (by decide +kernel) ?_); conv => whnf) | ((with_reducible refine Run.drawW rfl (by decide +kernel) ?_); conv => whnf) | fail)
  · have hjl : j < l.length := by omega
    have hc' : m ++ (ligE (l.getD j tRn.z) ++ ligsE (l.drop (j + 1))) = ligsE l := by
      rw [← hc, drop_at l j tRn.z hjl]; rfl
    have hll := ligE_len (l.getD j tRn.z)
    have hsz := ligB_size (l.getD j tRn.z)
    refine Run.callBX (lig61_fn (l.getD j tRn.z)) rfl rfl ⟨Le.refl _, trivial⟩ rfl rfl rfl ?_
    generalize hx : l.getD j tRn.z = x at hc' hll hsz ⊢
    by_cases hL : isLig x = true
    · have hne := ligB_ne x hL
      have hE : ligE x = bytesI (ligB x) := by unfold ligE; rw [if_pos hL]
      rw [hE] at hc' hll
      rw [if_pos hL]
      generalize ligB x = s at hne hc' hll hsz ⊢
      rw [bytesI_len] at hll
      (conv => whnf); repeat' (first | ((with_reducible refine Know.mk fun _ => ?_); conv => whnf) | ((with_reducible refine Need.mk ?_ ?_); (first | omega | (dsimp only; omega) | decide | exact bytes_le (by rfl) (by omega) | exact ⟨rfl, by omega, bytes_le (by rfl) (by omega), by omega⟩ | (refine ⟨?_, ?_⟩ <;> (rw [wrap64 (by omega) (by omega)]; omega))); conv => whnf) | ((with_reducible refine Both.mk ?_ ?_) <;> conv => whnf) | ((with_reducible refine Any.mk fun b hb => ?_); conv => whnf) | ((with_reducible refine AskB.dec (fun hb => ?_) (fun hb => ?_)) <;> conv => whnf) | ((with_reducible refine AskB.ndec (fun hb => ?_) (fun hb => ?_)) <;> conv => whnf) | ((with_reducible refine AskB.mk (fun hb => ?_) (fun hb => ?_)) <;> conv => whnf) | ((with_reducible refine Run.drawX rfl (by decide +kernel) ?_); conv => whnf) | ((with_reducible refine Run.drawT rfl (by decide +kernel) ?_); conv => whnf) | ((with_reducible refine Run.drawW rfl (by decide +kernel) ?_); conv => whnf) | fail)
      · exact absurd hb hne
      · refine Run.loop [0, 4, 5] (fun (i : Nat) => [(3, .row 1000), (6, .int .i64 (i : Int))]) (fun i => [(1000, tRn.R 21 (m ++ (bytesI s).take i))]) (fun i => i ≤ s.size) (fun i => s.size - i) 0 (Nat.zero_le _) ⟨Le.refl _, Le.refl _, trivial⟩ ⟨?_, trivial⟩ ?_
        · rw [List.take_zero, List.append_nil]; exact MOle.refl _
        intro i hi IHi
        have hwi : IntKind.i64.wrap ((i : Int) + 1) = ((i + 1 : Nat) : Int) := wrap64 (by omega) (by omega)
        have hbl := bt_lt s i
        have hbi := bytesI_len s
        have hml : (m ++ (bytesI s).take i).length ≤ 9000000 := by rw [List.length_append, List.length_take]; omega
        refine Run.go ?_; (conv => whnf); repeat' (first | ((with_reducible refine Know.mk fun _ => ?_); conv => whnf) | ((with_reducible refine Need.mk ?_ ?_); (first | omega | (dsimp only; omega) | decide | exact bytes_le (by rfl) (by omega) | exact ⟨rfl, by omega, bytes_le (by rfl) (by omega), by omega⟩ | (refine ⟨?_, ?_⟩ <;> (rw [wrap64 (by omega) (by omega)]; omega))); conv => whnf) | ((with_reducible refine Both.mk ?_ ?_) <;> conv => whnf) | ((with_reducible refine Any.mk fun b hb => ?_); conv => whnf) | ((with_reducible refine AskB.dec (fun hb => ?_) (fun hb => ?_)) <;> conv => whnf) | ((with_reducible refine AskB.ndec (fun hb => ?_) (fun hb => ?_)) <;> conv => whnf) | ((with_reducible refine AskB.mk (fun hb => ?_) (fun hb => ?_)) <;> conv => whnf) | ((with_reducible refine Run.drawX rfl (by decide +kernel) ?_); conv => whnf) | ((with_reducible refine Run.drawT rfl (by decide +kernel) ?_); conv => whnf) | ((with_reducible refine Run.drawW rfl (by decide +kernel) ?_); conv => whnf) | fail)
        · have his : i < s.size := by omega
          refine Run.hold (z := 39) 3 1000 (by rfl) (by rfl) (by rfl) ?_
          refine Run.to _ _ ?_ ?_ (IHi (i + 1) (by omega) (by omega))
          · exact ⟨Le.refl _, Le.refl _, Le.refl _, Le.refl _, Le.int hwi, trivial⟩
          · refine ⟨?_, trivial⟩
            have e : m ++ (bytesI s).take (i + 1) = (m ++ (bytesI s).take i) ++ [bt s i] := by
              rw [List.take_succ_eq_append_getElem (by omega), ← bytesI_at s i his, List.getD, List.getElem?_eq_getElem (by omega)]; simp
            rw [e]
            exact tRn.push 21 _ (bt s i) _ (one0 (Le.int (wrap32 (show -2147483648 ≤ bt s i by omega) (show bt s i ≤ 2147483647 by omega))))
        · obtain rfl : i = s.size := by omega
          have ht : (bytesI s).take s.size = bytesI s := List.take_of_length_le (by omega)
          rw [ht]
          refine Run.to _ _ ?_ ?_ (IH (j + 1, m ++ bytesI s) (by simp only []; omega) ⟨by simp only []; omega, by simp only [List.length_append]; omega, ?_⟩)
          · exact ⟨Le.refl _, Le.refl _, Le.int hwj, trivial⟩
          · exact ⟨MOle.refl _, trivial⟩
          · rw [← hc']; simp
    · have hE : ligE x = [x] := by unfold ligE; rw [if_neg hL]
      rw [hE] at hc'
      rw [if_neg hL]
      (conv => whnf); repeat' (first | ((with_reducible refine Know.mk fun _ => ?_); conv => whnf) | ((with_reducible refine Need.mk ?_ ?_); (first | omega | (dsimp only; omega) | decide | exact bytes_le (by rfl) (by omega) | exact ⟨rfl, by omega, bytes_le (by rfl) (by omega), by omega⟩ | (refine ⟨?_, ?_⟩ <;> (rw [wrap64 (by omega) (by omega)]; omega))); conv => whnf) | ((with_reducible refine Both.mk ?_ ?_) <;> conv => whnf) | ((with_reducible refine Any.mk fun b hb => ?_); conv => whnf) | ((with_reducible refine AskB.dec (fun hb => ?_) (fun hb => ?_)) <;> conv => whnf) | ((with_reducible refine AskB.ndec (fun hb => ?_) (fun hb => ?_)) <;> conv => whnf) | ((with_reducible refine AskB.mk (fun hb => ?_) (fun hb => ?_)) <;> conv => whnf) | ((with_reducible refine Run.drawX rfl (by decide +kernel) ?_); conv => whnf) | ((with_reducible refine Run.drawT rfl (by decide +kernel) ?_); conv => whnf) | ((with_reducible refine Run.drawW rfl (by decide +kernel) ?_); conv => whnf) | fail)
      case _ =>
        refine Run.hold (z := 26) 3 1000 (by rfl) (by rfl) (by rfl) ?_
        refine Run.go ?_; (conv => whnf); repeat' (first | ((with_reducible refine Know.mk fun _ => ?_); conv => whnf) | ((with_reducible refine Need.mk ?_ ?_); (first | omega | (dsimp only; omega) | decide | exact bytes_le (by rfl) (by omega) | exact ⟨rfl, by omega, bytes_le (by rfl) (by omega), by omega⟩ | (refine ⟨?_, ?_⟩ <;> (rw [wrap64 (by omega) (by omega)]; omega))); conv => whnf) | ((with_reducible refine Both.mk ?_ ?_) <;> conv => whnf) | ((with_reducible refine Any.mk fun b hb => ?_); conv => whnf) | ((with_reducible refine AskB.dec (fun hb => ?_) (fun hb => ?_)) <;> conv => whnf) | ((with_reducible refine AskB.ndec (fun hb => ?_) (fun hb => ?_)) <;> conv => whnf) | ((with_reducible refine AskB.mk (fun hb => ?_) (fun hb => ?_)) <;> conv => whnf) | ((with_reducible refine Run.drawX rfl (by decide +kernel) ?_); conv => whnf) | ((with_reducible refine Run.drawT rfl (by decide +kernel) ?_); conv => whnf) | ((with_reducible refine Run.drawW rfl (by decide +kernel) ?_); conv => whnf) | fail)
        · exact absurd hb (by decide)
        · refine Run.to _ _ ?_ ?_ (IH (j + 1, m ++ [x]) (by simp only []; omega) ⟨by simp only []; omega, by simp only [List.length_append, List.length_singleton]; omega, ?_⟩)
          · exact ⟨Le.refl _, Le.refl _, Le.int hwj, trivial⟩
          · refine ⟨?_, trivial⟩
            rw [← hx]
            exact tRn.push 21 m (l.getD j tRn.z) _ (one0 (Le.refl _))
          · rw [← hc']; simp
      all_goals exact absurd rfl hb
  · obtain rfl : j = l.length := by omega
    have e : m = ligsE l := by rw [← hc, List.drop_length]; simp [ligsE]
    refine Run.leaveF (ts := [2]) [1000] (.inr ⟨_, rfl⟩) rfl Tryd.func43 rfl (by decide) ⟨?_, trivial⟩ rfl (Le.refl _)
    rw [← e]; exact MOle.refl _
end Go.Proofs.YtfodjmemdkibpaaDoor.V
